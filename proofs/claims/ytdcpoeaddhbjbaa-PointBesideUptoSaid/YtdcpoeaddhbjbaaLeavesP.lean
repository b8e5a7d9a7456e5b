/- Plain Lean: a tree's paths are those at which a node is found, and they rise; its first and its last point. No program in sight. -/
import Derived.Test.YtdcpoeaddhbjbaaPointP
import Derived.Test.YtdcpoeaddhbjbaaLast
namespace Go.Proofs.Ytdcpoeaddhbjbaa
set_option maxRecDepth 100000

theorem cmpI_prefix : ∀ (q a b : List Int), cmpI (q ++ a) (q ++ b) = cmpI a b
  | [], a, b => rfl
  | x :: q, a, b => by
    rw [List.cons_append, List.cons_append, cmpI_cons, cmp3_self, if_pos rfl]
    exact cmpI_prefix q a b
theorem cmpI_ext (q : List Int) (x : Int) (r : List Int) : cmpI q (q ++ x :: r) = -1 := by
  have := cmpI_prefix q [] (x :: r)
  rw [List.append_nil] at this
  rw [this]
  rfl
theorem cmpI_head {x y : Int} (h : x < y) (a b : List Int) : cmpI (x :: a) (y :: b) = -1 := by
  rw [cmpI_cons]
  have h1 : cmp3 x y = -1 := by simp [cmp3, h]
  rw [h1, if_neg (by decide)]

mutual
theorem mem_pathsL (f : Tree → Bool) : ∀ (t : Tree) (q p : List Int), p ∈ pathsL f t q ↔ ∃ r s, p = q ++ r ∧ getT t r = some s ∧ f s = true
  | .mk l ps xs ks, q, p => by
    rw [pathsL, List.mem_append, mem_pathsK f ks q 0 p]
    constructor
    · rintro (h | ⟨j, r, s, hj, hp, hg, hf⟩)
      · split at h
        · rename_i hf
          simp only [List.mem_singleton] at h
          subst h
          exact ⟨[], _, (List.append_nil _).symm, rfl, hf⟩
        · simp at h
      · refine ⟨(j : Int) :: r, s, by rw [hp]; simp, ?_, hf⟩
        rw [getT_cons, if_pos ⟨by omega, by simpa [Tree.kids] using hj⟩]
        simpa [Tree.kids] using hg
    · rintro ⟨r, s, hp, hg, hf⟩
      cases r with
      | nil =>
        left
        rw [getT_nil] at hg
        obtain rfl := Option.some.inj hg
        rw [if_pos hf]
        simp [hp]
      | cons i r =>
        right
        rw [getT_cons] at hg
        split at hg
        · rename_i h
          refine ⟨i.toNat, r, s, by simpa [Tree.kids] using h.2, ?_, by simpa [Tree.kids] using hg, hf⟩
          have : ((0 + i.toNat : Nat) : Int) = i := by omega
          rw [hp, this]
        · cases hg
theorem mem_pathsK (f : Tree → Bool) : ∀ (ks : List Tree) (q : List Int) (i : Nat) (p : List Int), p ∈ pathsK f ks q i ↔ ∃ (j : Nat) (r : List Int) (s : Tree), j < ks.length ∧ p = q ++ ((i + j : Nat) : Int) :: r ∧ getT (ks.getD j default) r = some s ∧ f s = true
  | [], q, i, p => by simp [pathsK]
  | k :: ks, q, i, p => by
    rw [pathsK, List.mem_append, mem_pathsL f k _ p, mem_pathsK f ks q (i + 1) p]
    constructor
    · rintro (⟨r, s, hp, hg, hf⟩ | ⟨j, r, s, hj, hp, hg, hf⟩)
      · exact ⟨0, r, s, by simp, by rw [hp]; simp, by simpa using hg, hf⟩
      · refine ⟨j + 1, r, s, by simpa using hj, ?_, by simpa using hg, hf⟩
        rw [hp, show i + 1 + j = i + (j + 1) by omega]
    · rintro ⟨j, r, s, hj, hp, hg, hf⟩
      cases j with
      | zero => exact .inl ⟨r, s, by rw [hp]; simp, by simpa using hg, hf⟩
      | succ j =>
        refine .inr ⟨j, r, s, by simpa using hj, ?_, by simpa using hg, hf⟩
        rw [hp, show i + 1 + j = i + (j + 1) by omega]
end

mutual
theorem rise_pathsL (f : Tree → Bool) : ∀ (t : Tree) (q : List Int), (pathsL f t q).Pairwise fun a b => cmpI a b = -1
  | .mk l ps xs ks, q => by
    rw [pathsL, List.pairwise_append]
    refine ⟨?_, rise_pathsK f ks q 0, ?_⟩
    · split <;> simp
    · intro a ha b hb
      split at ha
      · simp only [List.mem_singleton] at ha
        subst ha
        obtain ⟨j, r, s, _, hp, _⟩ := (mem_pathsK f ks a 0 b).1 hb
        rw [hp]
        exact cmpI_ext _ _ _
      · simp at ha
theorem rise_pathsK (f : Tree → Bool) : ∀ (ks : List Tree) (q : List Int) (i : Nat), (pathsK f ks q i).Pairwise fun a b => cmpI a b = -1
  | [], q, i => by simp [pathsK]
  | k :: ks, q, i => by
    rw [pathsK, List.pairwise_append]
    refine ⟨rise_pathsL f k _, rise_pathsK f ks q (i + 1), ?_⟩
    intro a ha b hb
    obtain ⟨r, s, hp, _⟩ := (mem_pathsL f k _ a).1 ha
    obtain ⟨j, r', s', _, hp', _⟩ := (mem_pathsK f ks q (i + 1) b).1 hb
    rw [hp, hp', List.append_assoc, cmpI_prefix]
    exact cmpI_head (by omega) _ _
end

theorem mem_leaves (t : Tree) (p : List Int) : p ∈ leavesL t ↔ ∃ s, getT t p = some s ∧ s.leaf = true := by
  rw [show leavesL t = pathsL Tree.leaf t [] from rfl, mem_pathsL]
  constructor
  · rintro ⟨r, s, hp, hg, hf⟩
    rw [List.nil_append] at hp
    subst hp
    exact ⟨s, hg, hf⟩
  · rintro ⟨s, hg, hf⟩
    exact ⟨p, s, rfl, hg, hf⟩
theorem rise_leaves (t : Tree) : (leavesL t).Pairwise fun a b => cmpI a b = -1 := rise_pathsL _ _ _

theorem check_ok {t : Tree} {p : List Int} {off : Int} : checkT t p off = 0 ↔ ∃ s, getT t p = some s ∧ s.leaf = true ∧ 0 ≤ off ∧ off ≤ (s.text.length : Int) := by
  unfold checkT
  cases hg : getT t p with
  | none => simp
  | some s =>
    cases hl : s.leaf
    · simp [hl]
    · simp [hl]
theorem check_mem {t : Tree} {p : List Int} {off : Int} (h : checkT t p off = 0) : p ∈ leavesL t := by
  obtain ⟨s, hg, hl, _⟩ := check_ok.1 h
  exact (mem_leaves t p).2 ⟨s, hg, hl⟩

/-- The first leaf's path stands ahead of each, or is it. -/
theorem first_le {L : List (List Int)} (h : L.Pairwise fun a b => cmpI a b = -1) {p : List Int} (hp : p ∈ L) : L.getD 0 [] = p ∨ cmpI (L.getD 0 []) p = -1 := by
  cases L with
  | nil => simp at hp
  | cons a L =>
    rcases List.mem_cons.1 hp with rfl | hp
    · exact .inl rfl
    · exact .inr ((List.pairwise_cons.1 h).1 p hp)
theorem last_le {L : List (List Int)} (h : L.Pairwise fun a b => cmpI a b = -1) {p : List Int} (hp : p ∈ L) : p = L.getD (L.length - 1) [] ∨ cmpI p (L.getD (L.length - 1) []) = -1 := by
  obtain ⟨i, hi, rfl⟩ := List.getElem_of_mem hp
  have hl : L.length - 1 < L.length := by omega
  have e : L.getD (L.length - 1) [] = L[L.length - 1] := by simp [hl]
  rw [e]
  by_cases hil : i = L.length - 1
  · left
    simp [hil]
  · right
    exact List.pairwise_iff_getElem.1 h i (L.length - 1) hi hl (by omega)
theorem lastD_mem {L : List (List Int)} (h : 0 < L.length) : L.getD (L.length - 1) [] ∈ L := by
  have hl : L.length - 1 < L.length := by omega
  simp [hl]
theorem firstD_mem {L : List (List Int)} (h : 0 < L.length) : L.getD 0 [] ∈ L := by simp [h]

/-- The tree's first point, and its last one. -/
theorem edge_first {t : Tree} (h : 0 < (leavesL t).length) : edgeR t (leavesL t) false = ((leavesL t).getD 0 [], 0, 0) ∧ checkT t ((leavesL t).getD 0 []) 0 = 0 := by
  constructor
  · unfold edgeR
    rw [if_neg (by omega), if_pos rfl]
  · obtain ⟨s, hg, hl⟩ := (mem_leaves t _).1 (firstD_mem h)
    exact check_ok.2 ⟨s, hg, hl, by omega, by omega⟩
theorem edge_last {t : Tree} (h : 0 < (leavesL t).length) : ∃ n : Nat, edgeR t (leavesL t) true = ((leavesL t).getD ((leavesL t).length - 1) [], (n : Int), 0) ∧ checkT t ((leavesL t).getD ((leavesL t).length - 1) []) n = 0 ∧
    ∀ p off, p = (leavesL t).getD ((leavesL t).length - 1) [] → checkT t p off = 0 → off ≤ n := by
  obtain ⟨s, hg, hl⟩ := (mem_leaves t _).1 (lastD_mem h)
  refine ⟨s.text.length, ?_, check_ok.2 ⟨s, hg, hl, by omega, by omega⟩, ?_⟩
  · unfold edgeR
    rw [if_neg (by omega), if_neg (by decide), hg]
  · intro p off hp hc
    subst hp
    obtain ⟨s', hg', _, _, hle⟩ := check_ok.1 hc
    rw [hg] at hg'
    obtain rfl := Option.some.inj hg'
    exact hle
theorem edge_none {t : Tree} (h : (leavesL t).length = 0) (last : Bool) : edgeR t (leavesL t) last = ([], 0, 14) := by
  unfold edgeR
  rw [if_pos h]

theorem cmp3_le {a b : Int} (h : a ≤ b) : cmp3 a b ≤ 0 := by
  unfold cmp3
  split
  · omega
  · rw [if_neg (by omega)]
    omega
/-- What the law says: each point lies between the first one and the last one. -/
theorem between {t : Tree} {p : List Int} {off : Int} (h : checkT t p off = 0) : cmpP ((leavesL t).getD 0 []) 0 p off ≤ 0 ∧ ∀ n : Nat, (∀ p off, p = (leavesL t).getD ((leavesL t).length - 1) [] → checkT t p off = 0 → off ≤ n) → cmpP p off ((leavesL t).getD ((leavesL t).length - 1) []) n ≤ 0 := by
  have hm := check_mem h
  obtain ⟨s, _, _, h0, _⟩ := check_ok.1 h
  constructor
  · rcases first_le (rise_leaves t) hm with e | e
    · rw [cmpP_eq e]
      exact cmp3_le h0
    · rw [cmpP_ne (fun h => by rw [cmpI_zero.2 h] at e; cases e), e]
      decide
  · intro n hn
    rcases last_le (rise_leaves t) hm with e | e
    · rw [cmpP_eq e]
      exact cmp3_le (hn p off e h)
    · rw [cmpP_ne (fun h => by rw [cmpI_zero.2 h] at e; cases e), e]
      decide
end Go.Proofs.Ytdcpoeaddhbjbaa
