/- Plain Lean: how paths compare: an order. -/
import Derived.Test.YtdcpoeaddhbjbaaPlain2
namespace Go.Proofs.Ytdcpoeaddhbjbaa
set_option maxRecDepth 100000

/-- How two numbers compare. -/
def cmp3 (x y : Int) : Int := if x < y then -1 else if y < x then 1 else 0
theorem cmp3_self (x : Int) : cmp3 x x = 0 := by simp [cmp3]
theorem cmp3_zero {x y : Int} : cmp3 x y = 0 ↔ x = y := by unfold cmp3; split <;> (try split) <;> omega
theorem cmp3_neg (x y : Int) : cmp3 x y = -cmp3 y x := by unfold cmp3; split <;> split <;> (try split) <;> omega

theorem cmpI_cons (x y : Int) (xs ys : List Int) : cmpI (x :: xs) (y :: ys) = if cmp3 x y = 0 then cmpI xs ys else cmp3 x y := by
  simp only [cmpI, cmp3]
  by_cases h1 : x < y
  · simp [h1]
  · by_cases h2 : y < x <;> simp [h1, h2]
theorem cmpI_drop : ∀ (k : Nat) (xs ys : List Int), agree xs ys k → k ≤ xs.length → k ≤ ys.length → cmpI xs ys = cmpI (xs.drop k) (ys.drop k)
  | 0, _, _, _, _, _ => by simp
  | k + 1, [], _, _, h, _ => by simp at h
  | k + 1, _ :: _, [], _, _, h => by simp at h
  | k + 1, x :: xs, y :: ys, h, h1, h2 => by
    obtain ⟨rfl, ht⟩ := agree_tail h
    rw [cmpI_cons, cmp3_self, if_pos rfl, List.drop_succ_cons, List.drop_succ_cons]
    exact cmpI_drop k xs ys ht (by simpa using h1) (by simpa using h2)
theorem cmpI_longer {xs ys : List Int} {k : Nat} (h : agree xs ys k) (h1 : k < xs.length) (h2 : k = ys.length) : cmpI xs ys = 1 := by
  rw [cmpI_drop k xs ys h (by omega) (by omega)]
  rw [List.drop_eq_getElem_cons h1, List.drop_of_length_le (l := ys) (by omega)]
  rfl
theorem cmpI_diff {xs ys : List Int} {k : Nat} (h : agree xs ys k) (h1 : k < xs.length) (h2 : k < ys.length) (hne : cmp3 xs[k] ys[k] ≠ 0) : cmpI xs ys = cmp3 xs[k] ys[k] := by
  rw [cmpI_drop k xs ys h (by omega) (by omega), List.drop_eq_getElem_cons h1, List.drop_eq_getElem_cons h2, cmpI_cons, if_neg hne]
theorem cmpI_end {xs ys : List Int} (h : agree xs ys xs.length) (h2 : xs.length ≤ ys.length) : cmpI xs ys = if xs.length < ys.length then -1 else 0 := by
  rw [cmpI_drop xs.length xs ys h (Nat.le_refl _) h2, List.drop_of_length_le (l := xs) (Nat.le_refl _)]
  split
  · rename_i hl
    rw [List.drop_eq_getElem_cons hl]
    rfl
  · rw [List.drop_of_length_le (by omega)]
    rfl

theorem cmpI_range : ∀ xs ys : List Int, cmpI xs ys = -1 ∨ cmpI xs ys = 0 ∨ cmpI xs ys = 1
  | [], [] => by simp [cmpI]
  | [], _ :: _ => by simp [cmpI]
  | _ :: _, [] => by simp [cmpI]
  | x :: xs, y :: ys => by
    have := cmpI_range xs ys
    simp only [cmpI]
    split
    · simp
    · split
      · simp
      · exact this
theorem cmpI_zero : ∀ {xs ys : List Int}, cmpI xs ys = 0 ↔ xs = ys
  | [], [] => by simp [cmpI]
  | [], _ :: _ => by simp [cmpI]
  | _ :: _, [] => by simp [cmpI]
  | x :: xs, y :: ys => by
    rw [cmpI_cons]
    split
    · rename_i h
      rw [cmp3_zero] at h
      rw [cmpI_zero]
      simp [h]
    · rename_i h
      constructor
      · intro h0; exact absurd h0 h
      · intro h0; rw [List.cons.injEq] at h0; rw [cmp3_zero] at h; exact absurd h0.1 h
theorem cmpI_neg : ∀ xs ys : List Int, cmpI xs ys = -cmpI ys xs
  | [], [] => rfl
  | [], _ :: _ => rfl
  | _ :: _, [] => rfl
  | x :: xs, y :: ys => by
    rw [cmpI_cons, cmpI_cons, cmp3_neg x y, cmpI_neg xs ys]
    by_cases h : cmp3 y x = 0 <;> simp [h]
/-- Not behind, and not behind: not behind. -/
theorem cmpI_trans : ∀ {xs ys zs : List Int}, cmpI xs ys ≤ 0 → cmpI ys zs ≤ 0 → cmpI xs zs ≤ 0
  | [], _, [], _, _ => by simp [cmpI]
  | [], _, _ :: _, _, _ => by simp [cmpI]
  | _ :: _, [], _, h, _ => by simp [cmpI] at h
  | _ :: _, _ :: _, [], _, h => by simp [cmpI] at h
  | x :: xs, y :: ys, z :: zs, h1, h2 => by
    simp only [cmpI] at h1 h2 ⊢
    by_cases a : x < y
    · by_cases b : y < z
      · rw [if_pos (by omega)]; omega
      · rw [if_neg b] at h2
        by_cases c : z < y
        · rw [if_pos c] at h2; omega
        · rw [if_pos (by omega)]; omega
    · rw [if_neg a] at h1
      by_cases a2 : y < x
      · rw [if_pos a2] at h1; omega
      · rw [if_neg a2] at h1
        by_cases b : y < z
        · rw [if_pos (by omega)]; omega
        · rw [if_neg b] at h2
          by_cases c : z < y
          · rw [if_pos c] at h2; omega
          · rw [if_neg c] at h2
            rw [if_neg (by omega), if_neg (by omega)]
            exact cmpI_trans h1 h2

theorem above_trans {xs ys zs : List Int} (h1 : aboveB xs ys = true) (h2 : aboveB ys zs = true) : aboveB xs zs = true := by
  rw [aboveB_iff] at *
  refine ⟨by omega, ?_⟩
  have h : (zs.take ys.length).take xs.length = ys.take xs.length := by rw [h2.2]
  rw [List.take_take, Nat.min_eq_left (by omega)] at h
  rw [h, h1.2]

theorem leftB_iff {xs ys : List Int} : leftB xs ys = true ↔ ∃ k, k + 1 = xs.length ∧ k < ys.length ∧ agree xs ys k ∧ xs.getD k 0 < ys.getD k 0 := by
  simp only [leftB, Bool.and_eq_true, decide_eq_true_eq]
  constructor
  · rintro ⟨h1, h2, h3⟩
    exact ⟨_, h1, h2, cpre_agree _ _, h3⟩
  · rintro ⟨k, h1, h2, h3, h4⟩
    have : cpre xs ys = k := cpre_of_diff h3 (by omega) h2 (by
      intro he
      simp [show k < xs.length by omega, h2, he] at h4)
    subst this
    exact ⟨h1, h2, h4⟩
theorem left_above {xs ys zs : List Int} (h1 : leftB xs ys = true) (h2 : aboveB ys zs = true) : leftB xs zs = true := by
  rw [leftB_iff] at *
  rw [aboveB_iff] at h2
  obtain ⟨k, a, b, c, d⟩ := h1
  have g : ∀ j, j < ys.length → zs.getD j 0 = ys.getD j 0 := by
    intro j hj
    have : (zs.take ys.length).getD j 0 = ys.getD j 0 := by rw [h2.2]
    simpa [hj] using this
  exact ⟨k, a, by omega, fun j hj => by rw [c j hj, g j (by omega)], by rw [g k b]; exact d⟩

theorem above_not_left {xs ys : List Int} (h : aboveB xs ys = true) : leftB xs ys = false := by
  simp only [aboveB, Bool.and_eq_true, decide_eq_true_eq] at h
  simp [leftB, h.2]

end Go.Proofs.Ytdcpoeaddhbjbaa
