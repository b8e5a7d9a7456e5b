/- Plain Lean: all paths of a tree, in order; which of them are leaves'. No program in sight. -/
import Derived.Test.YtdcpoeaddhbjbaaPts
import Derived.Test.YtdcpoeaddhbjbaaListAll
namespace Go.Proofs.Ytdcpoeaddhbjbaa
set_option maxRecDepth 100000
open Go.RowKit

/-- All paths. -/
def allL (t : Tree) : List (List Int) := pathsL allT t []
/-- Is the node there a leaf? -/
def lfB (t : Tree) (p : List Int) : Bool := match getT t p with | some s => s.leaf | none => false
mutual
theorem all_len : ∀ (t : Tree) (q : List Int), (pathsL allT t q).length = sizeT t
  | .mk l ps xs ks, q => by rw [pathsL, sizeT, List.length_append, all_lenK ks q 0]; simp [allT]
theorem all_lenK : ∀ (ks : List Tree) (q : List Int) (i : Nat), (pathsK allT ks q i).length = sizeK ks
  | [], _, _ => by simp [pathsK, sizeK]
  | k :: ks, q, i => by rw [pathsK, sizeK, List.length_append, all_len k, all_lenK ks q (i + 1)]
end
theorem allL_len (t : Tree) : (allL t).length = sizeT t := all_len t []
theorem allL_zero (t : Tree) : (allL t).getD 0 [] = [] := by cases t; simp [allL, pathsL, allT]
theorem allL_rise (t : Tree) : (allL t).Pairwise fun a b => cmpI a b = -1 := rise_pathsL allT t []
theorem mem_all (t : Tree) (p : List Int) : p ∈ allL t ↔ ∃ s, getT t p = some s := by
  rw [allL, mem_pathsL]
  constructor
  · rintro ⟨r, s, rfl, h, _⟩
    exact ⟨s, by simpa using h⟩
  · rintro ⟨s, h⟩
    exact ⟨p, s, by simp, h, rfl⟩
theorem cmp_asymm : ∀ (a b : List Int), cmpI a b = -1 → cmpI b a ≠ -1
  | [], [], h => by simp [cmpI] at h
  | [], y :: b, _ => by simp [cmpI]
  | x :: a, [], h => by simp [cmpI] at h
  | x :: a, y :: b, h => by
    rw [cmpI] at h ⊢
    by_cases h1 : x < y
    · rw [if_neg (by omega), if_pos h1]; decide
    · rw [if_neg h1] at h
      by_cases h2 : y < x
      · rw [if_pos h2] at h; cases h
      · rw [if_neg h2] at h
        rw [if_neg h2, if_neg h1]
        exact cmp_asymm a b h
theorem sorted_eq {α : Type} {r : α → α → Prop} (ha : ∀ a b, r a b → ¬ r b a) : ∀ (xs ys : List α), xs.Pairwise r → ys.Pairwise r → (∀ a, a ∈ xs ↔ a ∈ ys) → xs = ys
  | [], [], _, _, _ => rfl
  | [], y :: ys, _, _, h => absurd ((h y).2 (by simp)) (by simp)
  | x :: xs, [], _, _, h => absurd ((h x).1 (by simp)) (by simp)
  | x :: xs, y :: ys, h1, h2, h => by
    rw [List.pairwise_cons] at h1 h2
    have hxy : x = y := by
      rcases List.mem_cons.1 ((h x).1 (by simp)) with e | e
      · exact e
      · rcases List.mem_cons.1 ((h y).2 (by simp)) with e2 | e2
        · exact e2.symm
        · exact absurd (h2.1 x e) (ha _ _ (h1.1 y e2))
    subst hxy
    rw [sorted_eq ha xs ys h1.2 h2.2 fun a => ⟨fun hm => ?_, fun hm => ?_⟩]
    · rcases List.mem_cons.1 ((h a).1 (List.mem_cons_of_mem _ hm)) with e | e
      · subst e; exact absurd (h1.1 a hm) (ha _ _ (h1.1 a hm))
      · exact e
    · rcases List.mem_cons.1 ((h a).2 (List.mem_cons_of_mem _ hm)) with e | e
      · subst e; exact absurd (h2.1 a hm) (ha _ _ (h2.1 a hm))
      · exact e
theorem leaves_filter (t : Tree) : leavesL t = (allL t).filter (lfB t) := by
  refine sorted_eq (r := fun a b => cmpI a b = -1) cmp_asymm _ _ (rise_leaves t) ((allL_rise t).filter _) fun p => ?_
  rw [mem_leaves, List.mem_filter, mem_all]
  constructor
  · rintro ⟨s, h, hl⟩
    exact ⟨⟨s, h⟩, by rw [lfB, h]; exact hl⟩
  · rintro ⟨⟨s, h⟩, hl⟩
    rw [lfB, h] at hl
    exact ⟨s, h, hl⟩
/-- How many of the first k are leaves'. -/
def cntL (t : Tree) (k : Nat) : Nat := (((allL t).take k).filter (lfB t)).length
theorem cnt_split {t : Tree} {k : Nat} (h : k < (allL t).length) : (allL t).filter (lfB t) = ((allL t).take k).filter (lfB t) ++ (if lfB t ((allL t).getD k []) then [(allL t).getD k []] else []) ++ ((allL t).drop (k + 1)).filter (lfB t) := by
  have e : allL t = (allL t).take k ++ (allL t).getD k [] :: (allL t).drop (k + 1) := by
    have : (allL t).getD k [] = (allL t)[k] := by simp [h]
    rw [this, ← List.drop_eq_getElem_cons h, List.take_append_drop]
  have h2 : (allL t).filter (lfB t) = ((allL t).take k ++ (allL t).getD k [] :: (allL t).drop (k + 1)).filter (lfB t) := by rw [← e]
  rw [h2, List.filter_append, List.filter_cons, List.append_assoc]
  split <;> rfl
theorem cnt_succ {t : Tree} {k : Nat} (h : k < (allL t).length) : cntL t (k + 1) = cntL t k + if lfB t ((allL t).getD k []) then 1 else 0 := by
  have e : (allL t).take (k + 1) = (allL t).take k ++ [(allL t).getD k []] := by
    rw [List.take_succ_eq_append_getElem h]
    simp [h]
  rw [cntL, cntL, e, List.filter_append, List.length_append, List.filter_cons]
  split <;> simp
theorem cnt_leaf {t : Tree} {k : Nat} (h : k < (allL t).length) (hl : lfB t ((allL t).getD k []) = true) : cntL t k < (leavesL t).length ∧ (leavesL t).getD (cntL t k) [] = (allL t).getD k [] := by
  rw [leaves_filter, cnt_split h, if_pos hl]
  constructor
  · rw [List.append_assoc, List.length_append, cntL]
    simp
  · rw [List.append_assoc, cntL, List.getD_eq_getElem?_getD, List.getElem?_append_right (Nat.le_refl _)]
    simp
theorem cnt_all (t : Tree) : cntL t (allL t).length = (leavesL t).length := by rw [cntL, List.take_length, leaves_filter]
theorem cnt_le (t : Tree) (k : Nat) : cntL t k ≤ (leavesL t).length := by
  rw [leaves_filter, cntL]
  exact List.Sublist.length_le (List.Sublist.filter _ (List.take_sublist _ _))
theorem all_before {t : Tree} {k : Nat} (h : k + 1 < (allL t).length) : cmpI ((allL t).getD k []) ((allL t).getD (k + 1) []) = -1 := by
  have := List.pairwise_iff_getElem.1 (allL_rise t) k (k + 1) (by omega) h (by omega)
  simpa [h, show k < (allL t).length by omega] using this
theorem all_node {t : Tree} {k : Nat} (h : k < (allL t).length) : ∃ s, getT t ((allL t).getD k []) = some s := by
  rw [← mem_all]
  simp [h]
/-- Was it met among the first k? -/
def metB (t : Tree) (q : List Int) (k : Nat) : Bool := decide (q ∈ (allL t).take k)
theorem met_succ {t : Tree} {q : List Int} {k : Nat} (h : k < (allL t).length) : metB t q (k + 1) = (metB t q k || decide ((allL t).getD k [] = q)) := by
  have e : (allL t).take (k + 1) = (allL t).take k ++ [(allL t).getD k []] := by
    rw [List.take_succ_eq_append_getElem h]
    simp [h]
  rw [metB, metB, e]
  simp only [List.mem_append, List.mem_singleton, Bool.decide_or]
  congr 1
  exact decide_eq_decide.2 eq_comm
theorem met_all (t : Tree) (q : List Int) : metB t q (allL t).length = decide (getT t q ≠ none) := by
  rw [metB, List.take_length]
  refine decide_eq_decide.2 ?_
  rw [mem_all]
  cases getT t q <;> simp
theorem lfB_of {t s : Tree} {p : List Int} (h : getT t p = some s) : lfB t p = s.leaf := by rw [lfB, h]
theorem all_i64 {t : Tree} (hs : sizeT t ≤ 1500000) {k : Nat} (h : k < (allL t).length) : I64 ((allL t).getD k []) :=
  pathsL_i64 allT t [] (by omega) (by intro x hx; simp at hx) _ (by show (allL t).getD k [] ∈ allL t; simp [h])
end Go.Proofs.Ytdcpoeaddhbjbaa
