/- Plain Lean: the paths of a tree's wanted nodes, and how many nodes there are. No program in sight. -/
import Derived.Test.YtcbljiiomnhbjaaTreeP
namespace Go.Proofs.Ytcbljiiomnhbjaa
set_option maxRecDepth 100000
open Go.RowKit

mutual
/-- The paths of the nodes that f wants, of a node at path p. -/
def pathsL (f : Tree → Bool) : Tree → List Int → List (List Int)
  | .mk l ps xs ks, p => (if f (.mk l ps xs ks) then [p] else []) ++ pathsK f ks p 0
def pathsK (f : Tree → Bool) : List Tree → List Int → Nat → List (List Int)
  | [], _, _ => []
  | k :: ks, p, i => pathsL f k (p ++ [(i : Int)]) ++ pathsK f ks p (i + 1)
end
mutual
/-- How many nodes there are. -/
def sizeT : Tree → Nat
  | .mk _ _ _ ks => 1 + sizeK ks
def sizeK : List Tree → Nat
  | [] => 0
  | k :: ks => sizeT k + sizeK ks
end

/-- The paths of the first k children's. -/
def pathsU (f : Tree → Bool) (ks : List Tree) (p : List Int) (k : Nat) : List (List Int) := pathsK f (ks.take k) p 0

theorem pathsK_append (f : Tree → Bool) : ∀ (ks ls : List Tree) (p : List Int) (i : Nat), pathsK f (ks ++ ls) p i = pathsK f ks p i ++ pathsK f ls p (i + ks.length)
  | [], ls, p, i => by simp [pathsK]
  | k :: ks, ls, p, i => by
    rw [List.cons_append, pathsK, pathsK, pathsK_append f ks ls p (i + 1), List.append_assoc]
    congr 3
    simp
    omega
theorem pathsU_succ (f : Tree → Bool) (ks : List Tree) (p : List Int) (k : Nat) (hk : k < ks.length) : pathsU f ks p (k + 1) = pathsU f ks p k ++ pathsL f (ks.getD k default) (p ++ [(k : Int)]) := by
  rw [pathsU, List.take_succ_eq_append_getElem hk, pathsK_append]
  simp [pathsK, pathsU, hk, Nat.min_eq_left (Nat.le_of_lt hk)]
theorem pathsU_zero (f : Tree → Bool) (ks : List Tree) (p : List Int) : pathsU f ks p 0 = [] := by simp [pathsU, pathsK]
/-- A node's own path, where it is wanted. -/
def headL (f : Tree → Bool) (t : Tree) (p : List Int) : List (List Int) := if f t then [p] else []
theorem pathsL_eq (f : Tree → Bool) (t : Tree) (p : List Int) : pathsL f t p = headL f t p ++ pathsU f t.kids p t.kids.length := by
  cases t with
  | mk l ps xs ks => simp [pathsL, pathsU, Tree.kids, headL]
theorem sizeK_append : ∀ (ks ls : List Tree), sizeK (ks ++ ls) = sizeK ks + sizeK ls
  | [], ls => by simp [sizeK]
  | k :: ks, ls => by rw [List.cons_append, sizeK, sizeK, sizeK_append ks ls]; omega
theorem sizeK_take (ks : List Tree) (k : Nat) (hk : k < ks.length) : sizeK (ks.take (k + 1)) = sizeK (ks.take k) + sizeT (ks.getD k default) := by
  rw [List.take_succ_eq_append_getElem hk, sizeK_append]
  simp [sizeK, hk]
theorem sizeK_le (ks : List Tree) (k : Nat) : sizeK (ks.take k) ≤ sizeK ks := by
  have := sizeK_append (ks.take k) (ks.drop k)
  rw [List.take_append_drop] at this
  omega
theorem sizeT_eq (t : Tree) : sizeT t = 1 + sizeK t.kids := by cases t; simp [sizeT, Tree.kids]
theorem sizeT_pos (t : Tree) : 0 < sizeT t := by rw [sizeT_eq]; omega
theorem sizeK_len : ∀ (ks : List Tree), ks.length ≤ sizeK ks
  | [] => by simp
  | k :: ks => by
    have := sizeK_len ks
    have := sizeT_pos k
    rw [sizeK, List.length_cons]
    omega
mutual
theorem pathsL_len (f : Tree → Bool) : ∀ (t : Tree) (p : List Int), (pathsL f t p).length ≤ sizeT t
  | .mk l ps xs ks, p => by
    have := pathsK_len f ks p 0
    rw [pathsL, sizeT, List.length_append]
    split <;> simp <;> omega
theorem pathsK_len (f : Tree → Bool) : ∀ (ks : List Tree) (p : List Int) (i : Nat), (pathsK f ks p i).length ≤ sizeK ks
  | [], _, _ => by simp [pathsK]
  | k :: ks, p, i => by
    have := pathsL_len f k (p ++ [(i : Int)])
    have := pathsK_len f ks p (i + 1)
    rw [pathsK, sizeK, List.length_append]
    omega
end
theorem i64_snoc {p : List Int} {i : Nat} (h : I64 p) (hi : i ≤ 2000000) : I64 (p ++ [(i : Int)]) := by
  intro x hx
  rcases List.mem_append.1 hx with h1 | h1
  · exact h x h1
  · simp only [List.mem_singleton] at h1
    omega
mutual
theorem pathsL_i64 (f : Tree → Bool) : ∀ (t : Tree) (q : List Int), sizeT t ≤ 2000000 → I64 q → ∀ p ∈ pathsL f t q, I64 p
  | .mk l ps xs ks, q, hs, hq, p, hp => by
    rw [pathsL] at hp
    rw [sizeT] at hs
    rcases List.mem_append.1 hp with h | h
    · split at h
      · simp only [List.mem_singleton] at h
        subst h
        exact hq
      · simp at h
    · exact pathsK_i64 f ks q 0 (by omega) hq p h
theorem pathsK_i64 (f : Tree → Bool) : ∀ (ks : List Tree) (q : List Int) (i : Nat), i + sizeK ks ≤ 2000000 → I64 q → ∀ p ∈ pathsK f ks q i, I64 p
  | [], q, i, hs, hq, p, hp => by simp [pathsK] at hp
  | k :: ks, q, i, hs, hq, p, hp => by
    have := sizeT_pos k
    rw [pathsK] at hp
    rw [sizeK] at hs
    rcases List.mem_append.1 hp with h | h
    · exact pathsL_i64 f k _ (by omega) (i64_snoc hq (by omega)) p h
    · exact pathsK_i64 f ks q (i + 1) (by omega) hq p h
end
theorem each_sizes (f : Tree → Bool) (t : Tree) (p : List Int) (x : Int) (k : Nat) (hk : k < t.kids.length) :
    (headL f t p ++ pathsU f t.kids p k).length + sizeT (t.kids.getD k default) ≤ sizeT t ∧ (p ++ [x]).length + sizeT (t.kids.getD k default) ≤ p.length + sizeT t := by
  have h1 := pathsK_len f (t.kids.take k) p 0
  have h2 := sizeK_take t.kids k hk
  have h3 := sizeK_le t.kids (k + 1)
  have h4 := sizeT_eq t
  rw [List.length_append, List.length_append, List.length_singleton]
  unfold pathsU headL
  constructor
  · split
    · rw [List.length_singleton]; omega
    · rw [List.length_nil]; omega
  · omega
end Go.Proofs.Ytcbljiiomnhbjaa
