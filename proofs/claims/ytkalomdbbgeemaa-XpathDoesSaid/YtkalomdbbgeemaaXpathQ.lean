/- Plain Lean: how a path stands to one that is shifted; what is moved and moved back. -/
import Derived.Test.YtkalomdbbgeemaaXpathP
namespace Go.Proofs.Ytkalomdbbgeemaa
open Go.RowKit

theorem agree_le {xs ys : List Int} {k j : Nat} (h : agree xs ys k) (hj : j ≤ k) : agree xs ys j := fun i hi => h i (by omega)
theorem agree_same {xs ys : List Int} {k : Nat} (h : agree xs ys k) (he : xs.getD k 0 = ys.getD k 0) : agree xs ys (k + 1) := by
  intro j hj
  by_cases hjk : j = k
  · subst hjk; exact he
  · exact h j (by omega)
theorem agree_shift {q p : List Int} {i k : Nat} {n : Int} (h : agree q p k) (hi : k ≤ i) : agree q (shiftL p i n) k := by
  intro j hj
  rw [shift_get_ne (by omega)]
  exact h j hj
theorem agree_unshift {q p : List Int} {i k : Nat} {n : Int} (h : agree q (shiftL p i n) k) (hi : k ≤ i) : agree q p k := by
  intro j hj
  have := h j hj
  rwa [shift_get_ne (by omega)] at this

theorem above_iff_agree {q p : List Int} : aboveB q p = true ↔ q.length < p.length ∧ agree q p q.length := by
  rw [aboveB_iff]
  refine and_congr_right fun hl => ?_
  constructor
  · intro h
    have : q.take q.length = p.take q.length := by rw [h, List.take_length]
    exact agree_of_take this
  · intro h
    have := take_of_agree h (Nat.le_refl _) (by omega)
    rw [← this, List.take_length]

/-- q stands left of p, above it, or is p: in numbers. -/
theorem stands_one {q p : List Int} {i : Nat} (hi : i + 1 = q.length) : standsN q p = 1 ↔ i < p.length ∧ agree q p i ∧ q.getD i 0 < p.getD i 0 := by
  have hl : leftB q p = true ↔ i < p.length ∧ agree q p i ∧ q.getD i 0 < p.getD i 0 := by
    rw [leftB_iff]
    constructor
    · rintro ⟨k, a, b, c, d⟩
      obtain rfl : k = i := by omega
      exact ⟨b, c, d⟩
    · rintro ⟨b, c, d⟩
      exact ⟨i, hi, b, c, d⟩
  rw [standsN, if_neg (by omega)]
  by_cases hs : q = p
  · rw [if_pos hs]
    subst hs
    simp
  · rw [if_neg hs]
    by_cases ha : aboveB q p = true
    · rw [if_pos ha]
      rw [above_iff_agree] at ha
      constructor
      · intro h; omega
      · rintro ⟨_, _, d⟩
        have := ha.2 i (by omega)
        omega
    · rw [if_neg ha]
      by_cases hlb : leftB q p = true
      · rw [if_pos hlb]
        exact ⟨fun _ => hl.1 hlb, fun _ => rfl⟩
      · rw [if_neg hlb]
        constructor
        · intro h; omega
        · intro h; exact absurd (hl.2 h) hlb
theorem stands_two {q p : List Int} (hq : 0 < q.length) : standsN q p = 2 ↔ q.length < p.length ∧ agree q p q.length := by
  rw [standsN, if_neg (by omega)]
  by_cases hs : q = p
  · rw [if_pos hs]
    subst hs
    simp
  · rw [if_neg hs, ← above_iff_agree]
    by_cases ha : aboveB q p = true
    · rw [if_pos ha]; exact ⟨fun _ => ha, fun _ => rfl⟩
    · rw [if_neg ha]
      constructor
      · intro h; split at h <;> omega
      · intro h; exact absurd h ha
theorem stands_three {q p : List Int} (hq : 0 < q.length) : standsN q p = 3 ↔ q = p := by
  rw [standsN, if_neg (by omega)]
  by_cases hs : q = p
  · rw [if_pos hs]; exact ⟨fun _ => hs, fun _ => rfl⟩
  · rw [if_neg hs]
    constructor
    · intro h
      split at h
      · omega
      · split at h <;> omega
    · intro h; exact absurd h hs
/-- Where q stands left, above, or is it: its beginning is p's, and its last number no greater. -/
theorem stands_some {q p : List Int} {i : Nat} (hi : i + 1 = q.length) (h : standsN q p ≠ 0) : i < p.length ∧ agree q p i ∧ q.getD i 0 ≤ p.getD i 0 := by
  rcases stands_range q p with h0 | h1 | h2 | h3
  · exact absurd h0 h
  · obtain ⟨a, b, c⟩ := (stands_one hi).1 h1
    exact ⟨a, b, by omega⟩
  · obtain ⟨a, b⟩ := (stands_two (by omega)).1 h2
    exact ⟨by omega, agree_le b (by omega), by rw [b i (by omega)]; exact Int.le_refl _⟩
  · have := (stands_three (by omega)).1 h3
    subst this
    exact ⟨by omega, fun _ _ => rfl, Int.le_refl _⟩
theorem stands_no {q p : List Int} {i : Nat} (hi : i + 1 = q.length) (h : ¬ (i < p.length ∧ agree q p i ∧ q.getD i 0 ≤ p.getD i 0)) : standsN q p = 0 := by
  rcases stands_range q p with h0 | h1 | h2 | h3
  · exact h0
  all_goals exact absurd (stands_some hi (by omega)) h

theorem shift_shift {p : List Int} {i : Nat} {n m : Int} : shiftL (shiftL p i n) i m = shiftL p i (n + m) := by
  rcases Nat.lt_or_ge i p.length with h | h
  · rw [shiftL, shift_get_eq h, shiftL, List.set_set, shiftL, Int.add_assoc]
  · simp [shiftL, List.set_eq_of_length_le h]
theorem shift_zero {p : List Int} {i : Nat} : shiftL p i 0 = p := by
  rw [shiftL, Int.add_zero]
  apply List.ext_getElem (by simp)
  intro j h1 h2
  rw [List.getElem_set]
  split
  · rename_i he; subst he; simp [h2]
  · rfl
theorem shift_back {p : List Int} {i : Nat} {n m : Int} (h : n + m = 0) : shiftL (shiftL p i n) i m = p := by rw [shift_shift, h, shift_zero]
theorem shift_comm {p : List Int} {i j : Nat} {n m : Int} (h : i ≠ j) : shiftL (shiftL p i n) j m = shiftL (shiftL p j m) i n := by
  rw [shiftL, shift_get_ne h, shiftL, shiftL, shift_get_ne (Ne.symm h), shiftL, List.set_comm _ _ h]

theorem small_shift {p : List Int} {i : Nat} {n : Int} (h : smallB p = true) (hb : 0 ≤ p.getD i 0 + n ∧ p.getD i 0 + n ≤ 1048576) : smallB (shiftL p i n) = true := by
  rw [smallB_iff] at *
  intro x hx
  rcases List.mem_or_eq_of_mem_set hx with h1 | h1
  · exact h x h1
  · rw [h1]; exact hb

/-- Numbers below the greatest one. -/
def lowB (xs : List Int) : Bool := xs.all fun x => decide (x ≠ 1048576)
theorem low_get {p : List Int} (h : smallB p = true) (hl : lowB p = true) (i : Nat) : 0 ≤ p.getD i 0 ∧ p.getD i 0 < 1048576 := by
  have h1 := small_get h i
  rcases Nat.lt_or_ge i p.length with hi | hi
  · have h2 : p[i] ≠ 1048576 := by simpa using List.all_eq_true.1 hl _ (List.getElem_mem hi)
    have h3 : p.getD i 0 = p[i] := by simp [hi]
    omega
  · have : p.getD i 0 = 0 := by simp [hi]
    omega

/-- What a node put in moves, its being taken out moves back; nothing is moved to where it was put in. -/
theorem insert_back {p q : List Int} (s1 : smallB p = true) (s2 : smallB q = true) (hl : lowB p = true) (hq : 0 < q.length) :
    moveP p 1 q [] 0 = some (insL p q) ∧ insL p q ≠ q ∧ aboveB q (insL p q) = false ∧ moveP (insL p q) 2 q [] 0 = some p ∧ smallB (insL p q) = true ∧ (insL p q).length = p.length := by
  obtain ⟨i, hi⟩ : ∃ i, i + 1 = q.length := ⟨q.length - 1, by omega⟩
  have hi' : q.length - 1 = i := by omega
  have s3 : smallB [] = true := rfl
  have s4 : smallB [0] = true := rfl
  have hq0 : ¬ q.length = 0 := by omega
  have e1 : moveP p 1 q [] 0 = some (insL p q) := by rw [moveP, if_pos ⟨s1, s2, s3, s4⟩, if_neg hq0, if_pos rfl]
  by_cases h0 : standsN q p = 0
  · have ei : insL p q = p := by rw [insL, if_pos h0]
    rw [ei]
    refine ⟨by rw [e1, ei], ?_, ?_, ?_, s1, rfl⟩
    · intro h; have := (stands_three hq).2 h.symm; omega
    · cases ha : aboveB q p
      · rfl
      · rw [above_iff_agree] at ha; have := (stands_two hq).2 ha; omega
    · rw [moveP, if_pos ⟨s1, s2, s3, s4⟩, if_neg hq0, h0]; simp
  · obtain ⟨a, b, c⟩ := stands_some hi h0
    have ei : insL p q = shiftL p i 1 := by rw [insL, if_neg h0, hi']
    have hg := low_get s1 hl i
    have h1 : standsN q (shiftL p i 1) = 1 := (stands_one hi).2 ⟨by rw [shift_len]; exact a, agree_shift b (Nat.le_refl _), by rw [shift_get_eq a]; omega⟩
    have sm : smallB (shiftL p i 1) = true := small_shift s1 (by omega)
    rw [ei]
    refine ⟨by rw [e1, ei], ?_, ?_, ?_, sm, shift_len _ _ _⟩
    · intro h; have := (stands_three hq).2 h.symm; omega
    · cases ha : aboveB q (shiftL p i 1)
      · rfl
      · rw [above_iff_agree] at ha; have := (stands_two hq).2 ha; omega
    · rw [moveP, if_pos ⟨sm, s2, s3, s4⟩, if_neg hq0, h1, hi', shift_back (by omega)]; simp
end Go.Proofs.Ytkalomdbbgeemaa
