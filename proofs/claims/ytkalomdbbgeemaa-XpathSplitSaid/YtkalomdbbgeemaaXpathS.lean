/- Plain Lean: what a split, and what a move moves, is moved back. -/
import Derived.Test.YtkalomdbbgeemaaXpathR
namespace Go.Proofs.Ytkalomdbbgeemaa
open Go.RowKit

theorem stands_ne {q p : List Int} {i : Nat} (hi : i + 1 = q.length) (h1 : i < p.length) (h2 : agree q p i) (h3 : q.getD i 0 ≤ p.getD i 0) : standsN q p ≠ 0 := by
  have hq : 0 < q.length := by omega
  rcases Int.lt_or_eq_of_le h3 with h | h
  · have := (stands_one hi).2 ⟨h1, h2, h⟩; omega
  · have hag : agree q p q.length := by rw [← hi]; exact agree_same h2 h
    rcases Nat.lt_or_ge q.length p.length with h4 | h4
    · have := (stands_two hq).2 ⟨h4, hag⟩; omega
    · have := (stands_three hq).2 (agree_eq (by omega) hag); omega

/-- What was taken out, and is put in again. -/
theorem rem_back {p q : List Int} (hq : 0 < q.length) (h : standsN q p = 0 ∨ standsN q p = 1) : insL (remL p q) q = p := by
  obtain ⟨i, hi⟩ : ∃ i, i + 1 = q.length := ⟨q.length - 1, by omega⟩
  have hi' : q.length - 1 = i := by omega
  rcases h with h | h
  · rw [show remL p q = p from by rw [remL, if_neg (by omega)], insL, if_pos h]
  · obtain ⟨a, b, c⟩ := (stands_one hi).1 h
    rw [show remL p q = shiftL p i (-1) from by rw [remL, if_pos h, hi'], insL,
      if_neg (stands_ne hi (by rw [shift_len]; exact a) (agree_shift b (Nat.le_refl _)) (by rw [shift_get_eq a]; omega)), hi', shift_back (by omega)]

theorem low_shift {p : List Int} {i : Nat} {n : Int} (h : lowB p = true) (hb : p.getD i 0 + n < 1048576) : lowB (shiftL p i n) = true := by
  rw [lowB, List.all_eq_true] at *
  intro x hx
  rcases List.mem_or_eq_of_mem_set hx with h1 | h1
  · exact h x h1
  · rw [h1]; exact decide_eq_true (by omega)

theorem rem_small {p q : List Int} (s1 : smallB p = true) (s2 : smallB q = true) (hl : lowB p = true) (hq : 0 < q.length) :
    smallB (remL p q) = true ∧ lowB (remL p q) = true ∧ (remL p q).length = p.length := by
  obtain ⟨i, hi⟩ : ∃ i, i + 1 = q.length := ⟨q.length - 1, by omega⟩
  have hi' : q.length - 1 = i := by omega
  unfold remL
  split
  · rename_i h
    obtain ⟨a, b, c⟩ := (stands_one hi).1 h
    have g1 := low_get s1 hl i
    have g2 := small_get s2 i
    rw [hi']
    exact ⟨small_shift s1 (by omega), low_shift hl (by omega), shift_len _ _ _⟩
  · exact ⟨s1, hl, rfl⟩

theorem small_append {xs ys : List Int} : smallB (xs ++ ys) = true ↔ smallB xs = true ∧ smallB ys = true := by
  simp only [smallB_iff, List.mem_append]
  constructor
  · intro h; exact ⟨fun x hx => h x (.inl hx), fun x hx => h x (.inr hx)⟩
  · rintro ⟨h1, h2⟩ x (hx | hx)
    · exact h1 x hx
    · exact h2 x hx
theorem low_append {xs ys : List Int} : lowB (xs ++ ys) = true ↔ lowB xs = true ∧ lowB ys = true := by
  simp [lowB, List.all_append]

theorem agree_append (xs ys : List Int) : agree xs (xs ++ ys) xs.length := fun j hj => by simp [List.getD, List.getElem?_append_left hj]

/-- What is moved is moved back. -/
theorem move_back {p q to : List Int} (s1 : smallB p = true) (s2 : smallB q = true) (s3 : smallB to = true) (hl : lowB p = true) (hq : 0 < q.length) (ht : 0 < to.length) :
    ∃ a, moveP p 5 q to 0 = some a ∧ moveP a 5 to q 0 = some p ∧ a.length ≤ to.length + p.length := by
  have s4 : smallB [0] = true := rfl
  have hq0 : ¬ q.length = 0 := by omega
  have ht0 : ¬ to.length = 0 := by omega
  have e1 : moveP p 5 q to 0 = if standsN q p = 3 ∨ standsN q p = 2 then some (to ++ p.drop q.length) else if standsN q p = 1 then some (insL (shiftL p (q.length - 1) (-1)) to) else some (insL p to) := by
    rw [moveP, if_pos ⟨s1, s2, s3, s4⟩, if_neg hq0, if_neg (by decide), if_neg (by decide), if_neg (by decide), if_neg (by decide), if_pos rfl]
  have e2 : ∀ a, smallB a = true → moveP a 5 to q 0 = if standsN to a = 3 ∨ standsN to a = 2 then some (q ++ a.drop to.length) else if standsN to a = 1 then some (insL (shiftL a (to.length - 1) (-1)) q) else some (insL a q) := by
    intro a sa
    rw [moveP, if_pos ⟨sa, s3, s2, s4⟩, if_neg ht0, if_neg (by decide), if_neg (by decide), if_neg (by decide), if_neg (by decide), if_pos rfl]
  by_cases hb : standsN q p = 3 ∨ standsN q p = 2
  · obtain ⟨r, rfl⟩ : ∃ r, p = q ++ r := by
      rcases hb with h | h
      · have := (stands_three hq).1 h; exact ⟨[], by rw [this]; simp⟩
      · obtain ⟨h1, h2⟩ := (stands_two hq).1 h
        refine ⟨p.drop q.length, ?_⟩
        have := take_of_agree h2 (Nat.le_refl _) (by omega)
        rw [List.take_length] at this
        conv => lhs; rw [← List.take_append_drop q.length p]
        rw [← this]
    rw [if_pos hb] at e1
    have ed : (q ++ r).drop q.length = r := by simp
    rw [ed] at e1
    refine ⟨to ++ r, e1, ?_, by simp⟩
    have sa : smallB (to ++ r) = true := small_append.2 ⟨s3, (small_append.1 s1).2⟩
    have hs : standsN to (to ++ r) = 3 ∨ standsN to (to ++ r) = 2 := by
      rcases Nat.eq_zero_or_pos r.length with h | h
      · have : r = [] := List.eq_nil_of_length_eq_zero h
        subst this
        exact .inl ((stands_three ht).2 (by simp))
      · exact .inr ((stands_two ht).2 ⟨by simp; omega, agree_append _ _⟩)
    rw [e2 _ sa, if_pos hs]
    simp
  · have hn : standsN q p = 0 ∨ standsN q p = 1 := by rcases stands_range q p with h | h | h | h <;> omega
    have hr := rem_back hq hn
    obtain ⟨r1, r2, r3⟩ := rem_small s1 s2 hl hq
    rw [if_neg hb] at e1
    have e3 : moveP p 5 q to 0 = some (insL (remL p q) to) := by
      rw [e1]
      by_cases h1 : standsN q p = 1
      · rw [if_pos h1, remL, if_pos h1]
      · rw [if_neg h1, remL, if_neg h1]
    obtain ⟨m1, m2, m3, m4, m5, m6⟩ := insert_back r1 s3 r2 ht
    refine ⟨_, e3, ?_, by omega⟩
    rw [e2 _ m5]
    rw [moveP, if_pos ⟨m5, s3, rfl, s4⟩, if_neg ht0, if_neg (by decide), if_pos rfl] at m4
    rcases stands_range to (insL (remL p q) to) with h | h | h | h
    · rw [h] at m4 ⊢
      simp at m4 ⊢
      rw [m4, hr]
    · rw [h] at m4 ⊢
      simp at m4 ⊢
      rw [m4, hr]
    · rw [h] at m4; simp at m4
    · rw [h] at m4; simp at m4

/-- What a split moves, the merge of the second part moves back. -/
theorem split_back {p q : List Int} {pos : Int} (s1 : smallB p = true) (s2 : smallB q = true) (hl : lowB p = true) (h2 : lowB q = true) (hp : 0 ≤ pos ∧ pos ≤ 1048576) (hq : 0 < q.length) :
    ∃ a, moveP p 4 q [] pos = some a ∧ a ≠ shiftL q (q.length - 1) 1 ∧ moveP a 3 (shiftL q (q.length - 1) 1) [] pos = some p ∧ a.length = p.length := by
  obtain ⟨i, hi⟩ : ∃ i, i + 1 = q.length := ⟨q.length - 1, by omega⟩
  have hi' : q.length - 1 = i := by omega
  have s3 : smallB [] = true := rfl
  have s4 : smallB [pos] = true := by rw [smallB_iff]; simp; omega
  have hq0 : ¬ q.length = 0 := by omega
  have gq := low_get s2 h2 i
  have sn : smallB (shiftL q i 1) = true := small_shift s2 (by omega)
  have hn0 : ¬ (shiftL q i 1).length = 0 := by rw [shift_len]; omega
  have gn : (shiftL q i 1).getD i 0 = q.getD i 0 + 1 := shift_get_eq (by omega)
  have hin : i + 1 = (shiftL q i 1).length := by rw [shift_len]; exact hi
  have hn : 0 < (shiftL q i 1).length := by omega
  rw [hi']
  have e1 : moveP p 4 q [] pos = if standsN q p = 2 ∧ pos ≤ p.getD q.length 0 then some (shiftL (shiftL p q.length (-pos)) i 1) else if standsN q p = 1 then some (shiftL p i 1) else some p := by
    rw [moveP, if_pos ⟨s1, s2, s3, s4⟩, if_neg hq0, if_neg (by decide), if_neg (by decide), if_neg (by decide), if_pos rfl, hi']
  have e2 : ∀ a, smallB a = true → moveP a 3 (shiftL q i 1) [] pos = if standsN (shiftL q i 1) a = 2 then some (shiftL (shiftL a q.length pos) i (-1)) else if standsN (shiftL q i 1) a = 3 ∨ standsN (shiftL q i 1) a = 1 then some (shiftL a i (-1)) else some a := by
    intro a sa
    rw [moveP, if_pos ⟨sa, sn, s3, s4⟩, if_neg hn0, if_neg (by decide), if_neg (by decide), if_pos rfl, shift_len, hi', if_neg (by rw [gn]; omega)]
  by_cases hA : standsN q p = 2 ∧ pos ≤ p.getD q.length 0
  · obtain ⟨ha, hpos⟩ := hA
    obtain ⟨a1, a2⟩ := (stands_two hq).1 ha
    have gp := low_get s1 hl i
    have gp2 := low_get s1 hl q.length
    have hqi : q.getD i 0 = p.getD i 0 := a2 i (by omega)
    have b1 : smallB (shiftL p q.length (-pos)) = true := small_shift s1 (by omega)
    have b2 : smallB (shiftL (shiftL p q.length (-pos)) i 1) = true := small_shift b1 (by rw [shift_get_ne (by omega)]; omega)
    have hag : agree (shiftL q i 1) (shiftL (shiftL p q.length (-pos)) i 1) (shiftL q i 1).length := by
      intro j hj
      rw [shift_len] at hj
      by_cases hji : j = i
      · subst hji
        rw [gn, shift_get_eq (by rw [shift_len]; omega), shift_get_ne (by omega), hqi]
      · rw [shift_get_ne (by omega), shift_get_ne (by omega), shift_get_ne (by omega)]
        exact a2 j hj
    have hlt : (shiftL q i 1).length < (shiftL (shiftL p q.length (-pos)) i 1).length := by simp only [shift_len]; exact a1
    refine ⟨_, by rw [e1, if_pos ⟨ha, hpos⟩], ?_, ?_, by simp only [shift_len]⟩
    · intro h; rw [h] at hlt; omega
    · rw [e2 _ b2, if_pos ((stands_two hn).2 ⟨hlt, hag⟩), shift_comm (n := 1) (m := pos) (by omega), shift_shift, shift_shift]
      rw [show -pos + pos = 0 from by omega, shift_zero, show (1 : Int) + -1 = 0 from rfl, shift_zero]
  · rw [if_neg hA] at e1
    by_cases h1 : standsN q p = 1
    · rw [if_pos h1] at e1
      obtain ⟨a1, a2, a3⟩ := (stands_one hi).1 h1
      have gp := low_get s1 hl i
      have b2 : smallB (shiftL p i 1) = true := small_shift s1 (by omega)
      have hg : (shiftL p i 1).getD i 0 = p.getD i 0 + 1 := shift_get_eq a1
      have hst : standsN (shiftL q i 1) (shiftL p i 1) = 1 := (stands_one hin).2 ⟨by rw [shift_len]; exact a1, fun j hj => by rw [shift_get_ne (by omega), shift_get_ne (by omega)]; exact a2 j hj, by rw [gn, hg]; omega⟩
      refine ⟨_, e1, ?_, ?_, shift_len _ _ _⟩
      · intro h
        have := (stands_three hn).2 h.symm
        omega
      · rw [e2 _ b2, hst]
        simp
        exact shift_back (by omega)
    · rw [if_neg h1] at e1
      have hst : standsN (shiftL q i 1) p = 0 := by
        apply stands_no hin
        rintro ⟨a1, a2, a3⟩
        rw [gn] at a3
        exact h1 ((stands_one hi).2 ⟨a1, fun j hj => by have := a2 j hj; rw [shift_get_ne (by omega)] at this; exact this, by omega⟩)
      refine ⟨_, e1, ?_, ?_, rfl⟩
      · intro h
        have := (stands_three hn).2 h.symm
        omega
      · rw [e2 _ s1, hst]
        simp
end Go.Proofs.Ytkalomdbbgeemaa
