/- Plain Lean: paths as lists of integers, and what stands above, left, ahead. No program in sight. Plain Lean: laws on paths' levels, common parts, and their orders. Plain Lean: how paths compare: an order. Plain Lean: how points compare is an order; what a walk reads of it. -/
import Derived.Handy
namespace Go.Proofs.Ytcbljiiomnhbjaa
set_option maxRecDepth 100000

/- Plain Lean: paths as lists of integers, and what stands above, left, ahead. No program in sight. -/
/-- How many numbers both begin with. -/
def cpre : List Int → List Int → Nat
  | x :: xs, y :: ys => if x = y then cpre xs ys + 1 else 0
  | _, _ => 0

/-- Do the first k elements agree? -/
def agree (xs ys : List Int) (k : Nat) : Prop := ∀ j, j < k → xs.getD j 0 = ys.getD j 0

theorem agree_zero (xs ys : List Int) : agree xs ys 0 := fun j hj => by omega
theorem agree_succ {xs ys : List Int} {k : Nat} (h : agree xs ys k) (h1 : k < xs.length) (h2 : k < ys.length) (he : xs[k] = ys[k]) : agree xs ys (k + 1) := by
  intro j hj
  by_cases hjk : j = k
  · subst hjk
    simp [h1, h2, he]
  · exact h j (by omega)
theorem agree_eq {xs ys : List Int} (hl : xs.length = ys.length) (h : agree xs ys xs.length) : xs = ys := by
  apply List.ext_getElem hl
  intro i h1 h2
  have := h i h1
  simpa [h1, h2] using this
theorem agree_tail {x y : Int} {xs ys : List Int} {k : Nat} (h : agree (x :: xs) (y :: ys) (k + 1)) : x = y ∧ agree xs ys k := by
  refine ⟨by simpa using h 0 (by omega), fun j hj => ?_⟩
  simpa using h (j + 1) (by omega)

theorem cpre_le : ∀ xs ys : List Int, cpre xs ys ≤ xs.length ∧ cpre xs ys ≤ ys.length
  | [], ys => by simp [cpre]
  | x :: xs, [] => by simp [cpre]
  | x :: xs, y :: ys => by
    have := cpre_le xs ys
    simp only [cpre]
    split <;> simp <;> omega
theorem cpre_agree : ∀ xs ys : List Int, agree xs ys (cpre xs ys)
  | [], ys => by simpa [cpre] using agree_zero _ _
  | x :: xs, [] => by simpa [cpre] using agree_zero _ _
  | x :: xs, y :: ys => by
    have ih := cpre_agree xs ys
    simp only [cpre]
    split
    · rename_i h
      subst h
      intro j hj
      cases j with
      | zero => rfl
      | succ j => simpa using ih j (by omega)
    · exact agree_zero _ _
theorem cpre_ge : ∀ (xs ys : List Int) (k : Nat), agree xs ys k → k ≤ xs.length → k ≤ ys.length → k ≤ cpre xs ys
  | _, _, 0, _, _, _ => Nat.zero_le _
  | [], _, k + 1, _, h, _ => by simp at h
  | x :: xs, [], k + 1, _, _, h => by simp at h
  | x :: xs, y :: ys, k + 1, h, h1, h2 => by
    obtain ⟨rfl, ht⟩ := agree_tail h
    have := cpre_ge xs ys k ht (by simpa using h1) (by simpa using h2)
    simp [cpre]
    omega
theorem cpre_diff : ∀ (xs ys : List Int) (h1 : cpre xs ys < xs.length) (h2 : cpre xs ys < ys.length), xs[cpre xs ys] ≠ ys[cpre xs ys] := by
  intro xs ys h1 h2 he
  have := cpre_ge xs ys (cpre xs ys + 1) (agree_succ (cpre_agree xs ys) h1 h2 he) h1 h2
  omega
/-- At the first place at which they differ. -/
theorem cpre_of_diff {xs ys : List Int} {k : Nat} (h : agree xs ys k) (h1 : k < xs.length) (h2 : k < ys.length) (hne : xs[k] ≠ ys[k]) : cpre xs ys = k := by
  have a := cpre_ge xs ys k h (by omega) (by omega)
  have b := cpre_agree xs ys
  rcases Nat.lt_or_ge k (cpre xs ys) with hlt | hge
  · have := b k hlt
    simp [h1, h2] at this
    exact absurd this hne
  · omega
/-- No place at which they differ. -/
theorem cpre_of_end {xs ys : List Int} (h : agree xs ys (min xs.length ys.length)) : cpre xs ys = min xs.length ys.length := by
  have a := cpre_ge xs ys _ h (by omega) (by omega)
  have := cpre_le xs ys
  omega

/-- Is one above the other one? -/
def aboveB (xs ys : List Int) : Bool := decide (xs.length < ys.length) && decide (cpre xs ys = xs.length)
/-- Is one left of the other one? -/
def leftB (xs ys : List Int) : Bool := decide (cpre xs ys + 1 = xs.length) && (decide (cpre xs ys < ys.length) && decide (xs.getD (cpre xs ys) 0 < ys.getD (cpre xs ys) 0))
/-- How they compare. -/
def cmpI : List Int → List Int → Int
  | [], [] => 0
  | [], _ :: _ => -1
  | _ :: _, [] => 1
  | x :: xs, y :: ys => if x < y then -1 else if y < x then 1 else cmpI xs ys

/-- A path's last number. -/
def lastI (xs : List Int) : Int := xs.getD (xs.length - 1) 0
/-- The greatest int. -/
def maxI : Int := 9223372036854775807
/-- The next path, the one ahead; why not. -/
def nextE (xs : List Int) : Int := if xs.length = 0 then 6 else if lastI xs = maxI then 8 else 0
def nextL (xs : List Int) : List Int := if xs.length = 0 then [] else if lastI xs = maxI then [] else xs.set (xs.length - 1) (lastI xs + 1)
def backE (xs : List Int) : Int := if xs.length = 0 then 6 else if lastI xs ≤ 0 then 8 else 0
def backL (xs : List Int) : List Int := if xs.length = 0 then [] else if lastI xs ≤ 0 then [] else xs.set (xs.length - 1) (lastI xs - 1)

/- Plain Lean: laws on paths' levels, common parts, and their orders. -/
theorem cpre_comm : ∀ xs ys : List Int, cpre xs ys = cpre ys xs
  | [], [] => rfl
  | [], _ :: _ => rfl
  | _ :: _, [] => rfl
  | x :: xs, y :: ys => by
    simp only [cpre, cpre_comm xs ys, eq_comm (a := x)]
theorem take_cpre (xs ys : List Int) : xs.take (cpre xs ys) = ys.take (cpre xs ys) := by
  have h := cpre_agree xs ys
  obtain ⟨h1, h2⟩ := cpre_le xs ys
  apply List.ext_getElem (by simp; omega)
  intro i a b
  have hi : i < cpre xs ys := by simp at a; omega
  have := h i hi
  simpa [show i < xs.length by omega, show i < ys.length by omega] using this
theorem agree_take {xs ys : List Int} {k : Nat} (h : agree xs ys k) : agree (xs.take k) ys k := by
  intro j hj
  simpa [hj] using h j hj
theorem take_of_agree {xs ys : List Int} {k : Nat} (h : agree xs ys k) (h1 : k ≤ xs.length) (h2 : k ≤ ys.length) : xs.take k = ys.take k := by
  apply List.ext_getElem (by simp; omega)
  intro i a b
  have hi : i < k := by simp at a; omega
  have := h i hi
  simpa [show i < xs.length by omega, show i < ys.length by omega] using this
theorem agree_of_take {xs ys : List Int} {k : Nat} (h : xs.take k = ys.take k) : agree xs ys k := by
  intro j hj
  have : (xs.take k).getD j 0 = (ys.take k).getD j 0 := by rw [h]
  simpa [hj] using this
/-- A beginning of xs, as long as k: is it one of ys, too? -/
theorem le_cpre {xs ys : List Int} {k : Nat} (h : k ≤ xs.length) : k ≤ cpre xs ys ↔ k ≤ ys.length ∧ xs.take k = ys.take k := by
  constructor
  · intro hk
    obtain ⟨h1, h2⟩ := cpre_le xs ys
    refine ⟨by omega, take_of_agree (fun j hj => cpre_agree xs ys j (by omega)) h (by omega)⟩
  · rintro ⟨h2, he⟩
    exact cpre_ge xs ys k (agree_of_take he) h h2
/-- Above: a beginning that is shorter. -/
theorem aboveB_iff {xs ys : List Int} : aboveB xs ys = true ↔ xs.length < ys.length ∧ ys.take xs.length = xs := by
  simp only [aboveB, Bool.and_eq_true, decide_eq_true_eq]
  refine and_congr_right fun hlt => ?_
  obtain ⟨h1, h2⟩ := cpre_le xs ys
  have h := @le_cpre xs ys xs.length (Nat.le_refl _)
  rw [List.take_length] at h
  constructor
  · intro he
    exact (h.1 (by omega)).2.symm
  · intro he
    have := h.2 ⟨by omega, he.symm⟩
    omega

theorem above_take {xs : List Int} {k : Nat} (h : k < xs.length) : aboveB (xs.take k) xs = true := by
  rw [aboveB_iff]
  have : (xs.take k).length = k := by simp; omega
  rw [this]
  exact ⟨h, rfl⟩
theorem take_hit {xs ys : List Int} {k : Nat} (h : k ≤ xs.length) : (decide (xs.take k = ys) || aboveB (xs.take k) ys) = decide (k ≤ cpre xs ys) := by
  rw [Bool.eq_iff_iff]
  simp only [Bool.or_eq_true, decide_eq_true_eq, aboveB_iff]
  have hl : (xs.take k).length = k := by simp; omega
  rw [hl, le_cpre h]
  constructor
  · rintro (he | ⟨h1, h2⟩)
    · have : ys.length = k := by rw [← he]; exact hl
      refine ⟨by omega, ?_⟩
      rw [he, ← this, List.take_length]
    · exact ⟨by omega, h2.symm⟩
  · rintro ⟨h1, h2⟩
    rcases Nat.lt_or_ge k ys.length with hk | hk
    · exact .inr ⟨hk, h2.symm⟩
    · refine .inl ?_
      rw [h2, List.take_of_length_le hk]

/- Plain Lean: how paths compare: an order. -/
/-- How two numbers compare. -/
def cmp3 (x y : Int) : Int := if x < y then -1 else if y < x then 1 else 0
theorem cmp3_self (x : Int) : cmp3 x x = 0 := by simp [cmp3]
theorem cmp3_zero {x y : Int} : cmp3 x y = 0 ↔ x = y := by unfold cmp3; split <;> (try split) <;> omega
theorem cmp3_neg (x y : Int) : cmp3 x y = -cmp3 y x := by unfold cmp3; split <;> split <;> (try split) <;> omega

theorem cmpI_cons (x y : Int) (xs ys : List Int) : cmpI (x :: xs) (y :: ys) = if cmp3 x y = 0 then cmpI xs ys else cmp3 x y := by
  simp only [cmpI, cmp3]
  by_cases h1 : x < y
  · simp [h1]
  · by_cases h2 : y < x <;> simp [h1, h2]
theorem cmpI_drop : ∀ (k : Nat) (xs ys : List Int), agree xs ys k → k ≤ xs.length → k ≤ ys.length → cmpI xs ys = cmpI (xs.drop k) (ys.drop k)
  | 0, _, _, _, _, _ => by simp
  | k + 1, [], _, _, h, _ => by simp at h
  | k + 1, _ :: _, [], _, _, h => by simp at h
  | k + 1, x :: xs, y :: ys, h, h1, h2 => by
    obtain ⟨rfl, ht⟩ := agree_tail h
    rw [cmpI_cons, cmp3_self, if_pos rfl, List.drop_succ_cons, List.drop_succ_cons]
    exact cmpI_drop k xs ys ht (by simpa using h1) (by simpa using h2)
theorem cmpI_longer {xs ys : List Int} {k : Nat} (h : agree xs ys k) (h1 : k < xs.length) (h2 : k = ys.length) : cmpI xs ys = 1 := by
  rw [cmpI_drop k xs ys h (by omega) (by omega)]
  rw [List.drop_eq_getElem_cons h1, List.drop_of_length_le (l := ys) (by omega)]
  rfl
theorem cmpI_diff {xs ys : List Int} {k : Nat} (h : agree xs ys k) (h1 : k < xs.length) (h2 : k < ys.length) (hne : cmp3 xs[k] ys[k] ≠ 0) : cmpI xs ys = cmp3 xs[k] ys[k] := by
  rw [cmpI_drop k xs ys h (by omega) (by omega), List.drop_eq_getElem_cons h1, List.drop_eq_getElem_cons h2, cmpI_cons, if_neg hne]
theorem cmpI_end {xs ys : List Int} (h : agree xs ys xs.length) (h2 : xs.length ≤ ys.length) : cmpI xs ys = if xs.length < ys.length then -1 else 0 := by
  rw [cmpI_drop xs.length xs ys h (Nat.le_refl _) h2, List.drop_of_length_le (l := xs) (Nat.le_refl _)]
  split
  · rename_i hl
    rw [List.drop_eq_getElem_cons hl]
    rfl
  · rw [List.drop_of_length_le (by omega)]
    rfl

theorem cmpI_range : ∀ xs ys : List Int, cmpI xs ys = -1 ∨ cmpI xs ys = 0 ∨ cmpI xs ys = 1
  | [], [] => by simp [cmpI]
  | [], _ :: _ => by simp [cmpI]
  | _ :: _, [] => by simp [cmpI]
  | x :: xs, y :: ys => by
    have := cmpI_range xs ys
    simp only [cmpI]
    split
    · simp
    · split
      · simp
      · exact this
theorem cmpI_zero : ∀ {xs ys : List Int}, cmpI xs ys = 0 ↔ xs = ys
  | [], [] => by simp [cmpI]
  | [], _ :: _ => by simp [cmpI]
  | _ :: _, [] => by simp [cmpI]
  | x :: xs, y :: ys => by
    rw [cmpI_cons]
    split
    · rename_i h
      rw [cmp3_zero] at h
      rw [cmpI_zero]
      simp [h]
    · rename_i h
      constructor
      · intro h0; exact absurd h0 h
      · intro h0; rw [List.cons.injEq] at h0; rw [cmp3_zero] at h; exact absurd h0.1 h
theorem cmpI_neg : ∀ xs ys : List Int, cmpI xs ys = -cmpI ys xs
  | [], [] => rfl
  | [], _ :: _ => rfl
  | _ :: _, [] => rfl
  | x :: xs, y :: ys => by
    rw [cmpI_cons, cmpI_cons, cmp3_neg x y, cmpI_neg xs ys]
    by_cases h : cmp3 y x = 0 <;> simp [h]
/-- Not behind, and not behind: not behind. -/
theorem cmpI_trans : ∀ {xs ys zs : List Int}, cmpI xs ys ≤ 0 → cmpI ys zs ≤ 0 → cmpI xs zs ≤ 0
  | [], _, [], _, _ => by simp [cmpI]
  | [], _, _ :: _, _, _ => by simp [cmpI]
  | _ :: _, [], _, h, _ => by simp [cmpI] at h
  | _ :: _, _ :: _, [], _, h => by simp [cmpI] at h
  | x :: xs, y :: ys, z :: zs, h1, h2 => by
    simp only [cmpI] at h1 h2 ⊢
    by_cases a : x < y
    · by_cases b : y < z
      · rw [if_pos (by omega)]; omega
      · rw [if_neg b] at h2
        by_cases c : z < y
        · rw [if_pos c] at h2; omega
        · rw [if_pos (by omega)]; omega
    · rw [if_neg a] at h1
      by_cases a2 : y < x
      · rw [if_pos a2] at h1; omega
      · rw [if_neg a2] at h1
        by_cases b : y < z
        · rw [if_pos (by omega)]; omega
        · rw [if_neg b] at h2
          by_cases c : z < y
          · rw [if_pos c] at h2; omega
          · rw [if_neg c] at h2
            rw [if_neg (by omega), if_neg (by omega)]
            exact cmpI_trans h1 h2

theorem above_trans {xs ys zs : List Int} (h1 : aboveB xs ys = true) (h2 : aboveB ys zs = true) : aboveB xs zs = true := by
  rw [aboveB_iff] at *
  refine ⟨by omega, ?_⟩
  have h : (zs.take ys.length).take xs.length = ys.take xs.length := by rw [h2.2]
  rw [List.take_take, Nat.min_eq_left (by omega)] at h
  rw [h, h1.2]

theorem leftB_iff {xs ys : List Int} : leftB xs ys = true ↔ ∃ k, k + 1 = xs.length ∧ k < ys.length ∧ agree xs ys k ∧ xs.getD k 0 < ys.getD k 0 := by
  simp only [leftB, Bool.and_eq_true, decide_eq_true_eq]
  constructor
  · rintro ⟨h1, h2, h3⟩
    exact ⟨_, h1, h2, cpre_agree _ _, h3⟩
  · rintro ⟨k, h1, h2, h3, h4⟩
    have : cpre xs ys = k := cpre_of_diff h3 (by omega) h2 (by
      intro he
      simp [show k < xs.length by omega, h2, he] at h4)
    subst this
    exact ⟨h1, h2, h4⟩
theorem left_above {xs ys zs : List Int} (h1 : leftB xs ys = true) (h2 : aboveB ys zs = true) : leftB xs zs = true := by
  rw [leftB_iff] at *
  rw [aboveB_iff] at h2
  obtain ⟨k, a, b, c, d⟩ := h1
  have g : ∀ j, j < ys.length → zs.getD j 0 = ys.getD j 0 := by
    intro j hj
    have : (zs.take ys.length).getD j 0 = ys.getD j 0 := by rw [h2.2]
    simpa [hj] using this
  exact ⟨k, a, by omega, fun j hj => by rw [c j hj, g j (by omega)], by rw [g k b]; exact d⟩

theorem above_not_left {xs ys : List Int} (h : aboveB xs ys = true) : leftB xs ys = false := by
  simp only [aboveB, Bool.and_eq_true, decide_eq_true_eq] at h
  simp [leftB, h.2]

/- Plain Lean: how points compare is an order; what a walk reads of it. -/
/-- The first of two that is not zero, or zero. -/
def orI (x y : Int) : Int := if x = 0 then y else x
/-- How two points compare. -/
def cmpP (p : List Int) (a : Int) (q : List Int) (b : Int) : Int := orI (cmpI p q) (cmp3 a b)

theorem cmpP_eq {p q : List Int} {a b : Int} (h : p = q) : cmpP p a q b = cmp3 a b := by
  subst h
  simp [cmpP, orI, cmpI_zero.2 rfl]
theorem cmpP_ne {p q : List Int} {a b : Int} (h : p ≠ q) : cmpP p a q b = cmpI p q := by
  have : cmpI p q ≠ 0 := fun h0 => h (cmpI_zero.1 h0)
  simp [cmpP, orI, this]
theorem cmpP_neg (p q : List Int) (a b : Int) : cmpP p a q b = -cmpP q b p a := by
  by_cases h : p = q
  · rw [cmpP_eq h, cmpP_eq h.symm, cmp3_neg]
  · rw [cmpP_ne h, cmpP_ne (Ne.symm h), cmpI_neg]
theorem cmpP_zero {p q : List Int} {a b : Int} : cmpP p a q b = 0 ↔ p = q ∧ a = b := by
  by_cases h : p = q
  · rw [cmpP_eq h, cmp3_zero]
    simp [h]
  · rw [cmpP_ne h, cmpI_zero]
    simp [h]
theorem cmpP_self (p : List Int) (a : Int) : cmpP p a p a = 0 := cmpP_zero.2 ⟨rfl, rfl⟩
theorem cmpP_range (p q : List Int) (a b : Int) : cmpP p a q b = -1 ∨ cmpP p a q b = 0 ∨ cmpP p a q b = 1 := by
  by_cases h : p = q
  · rw [cmpP_eq h]
    unfold cmp3
    split <;> (try split) <;> simp
  · rw [cmpP_ne h]
    exact cmpI_range p q
theorem cmp3_trans {a b c : Int} (h1 : cmp3 a b ≤ 0) (h2 : cmp3 b c ≤ 0) : cmp3 a c ≤ 0 := by
  unfold cmp3 at *
  split at h1 <;> split at h2 <;> split <;> (try split at h1) <;> (try split at h2) <;> (try split) <;> omega
theorem cmpP_trans {p q r : List Int} {a b c : Int} (h1 : cmpP p a q b ≤ 0) (h2 : cmpP q b r c ≤ 0) : cmpP p a r c ≤ 0 := by
  by_cases e1 : p = q
  · subst e1
    by_cases e2 : p = r
    · subst e2
      rw [cmpP_eq rfl] at *
      exact cmp3_trans h1 h2
    · rw [cmpP_ne e2] at *
      exact h2
  · by_cases e2 : q = r
    · subst e2
      rw [cmpP_ne e1] at *
      exact h1
    · rw [cmpP_ne e1] at h1
      rw [cmpP_ne e2] at h2
      by_cases e3 : p = r
      · subst e3
        have n1 := cmpI_neg p q
        have n2 : cmpI p q ≠ 0 := fun h => e1 (cmpI_zero.1 h)
        omega
      · rw [cmpP_ne e3]
        exact cmpI_trans h1 h2
end Go.Proofs.Ytcbljiiomnhbjaa
