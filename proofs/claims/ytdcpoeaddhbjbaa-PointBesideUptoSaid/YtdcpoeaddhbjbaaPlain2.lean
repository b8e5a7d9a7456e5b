/- Plain Lean: laws on paths' levels, common parts, and their orders. -/
import Derived.Test.YtdcpoeaddhbjbaaPlain
namespace Go.Proofs.Ytdcpoeaddhbjbaa
set_option maxRecDepth 100000

theorem cpre_comm : ∀ xs ys : List Int, cpre xs ys = cpre ys xs
  | [], [] => rfl
  | [], _ :: _ => rfl
  | _ :: _, [] => rfl
  | x :: xs, y :: ys => by
    simp only [cpre, cpre_comm xs ys, eq_comm (a := x)]
theorem take_cpre (xs ys : List Int) : xs.take (cpre xs ys) = ys.take (cpre xs ys) := by
  have h := cpre_agree xs ys
  obtain ⟨h1, h2⟩ := cpre_le xs ys
  apply List.ext_getElem (by simp; omega)
  intro i a b
  have hi : i < cpre xs ys := by simp at a; omega
  have := h i hi
  simpa [show i < xs.length by omega, show i < ys.length by omega] using this
theorem agree_take {xs ys : List Int} {k : Nat} (h : agree xs ys k) : agree (xs.take k) ys k := by
  intro j hj
  simpa [hj] using h j hj
theorem take_of_agree {xs ys : List Int} {k : Nat} (h : agree xs ys k) (h1 : k ≤ xs.length) (h2 : k ≤ ys.length) : xs.take k = ys.take k := by
  apply List.ext_getElem (by simp; omega)
  intro i a b
  have hi : i < k := by simp at a; omega
  have := h i hi
  simpa [show i < xs.length by omega, show i < ys.length by omega] using this
theorem agree_of_take {xs ys : List Int} {k : Nat} (h : xs.take k = ys.take k) : agree xs ys k := by
  intro j hj
  have : (xs.take k).getD j 0 = (ys.take k).getD j 0 := by rw [h]
  simpa [hj] using this
/-- A beginning of xs, as long as k: is it one of ys, too? -/
theorem le_cpre {xs ys : List Int} {k : Nat} (h : k ≤ xs.length) : k ≤ cpre xs ys ↔ k ≤ ys.length ∧ xs.take k = ys.take k := by
  constructor
  · intro hk
    obtain ⟨h1, h2⟩ := cpre_le xs ys
    refine ⟨by omega, take_of_agree (fun j hj => cpre_agree xs ys j (by omega)) h (by omega)⟩
  · rintro ⟨h2, he⟩
    exact cpre_ge xs ys k (agree_of_take he) h h2
/-- Above: a beginning that is shorter. -/
theorem aboveB_iff {xs ys : List Int} : aboveB xs ys = true ↔ xs.length < ys.length ∧ ys.take xs.length = xs := by
  simp only [aboveB, Bool.and_eq_true, decide_eq_true_eq]
  refine and_congr_right fun hlt => ?_
  obtain ⟨h1, h2⟩ := cpre_le xs ys
  have h := @le_cpre xs ys xs.length (Nat.le_refl _)
  rw [List.take_length] at h
  constructor
  · intro he
    exact (h.1 (by omega)).2.symm
  · intro he
    have := h.2 ⟨by omega, he.symm⟩
    omega

theorem above_take {xs : List Int} {k : Nat} (h : k < xs.length) : aboveB (xs.take k) xs = true := by
  rw [aboveB_iff]
  have : (xs.take k).length = k := by simp; omega
  rw [this]
  exact ⟨h, rfl⟩
theorem take_hit {xs ys : List Int} {k : Nat} (h : k ≤ xs.length) : (decide (xs.take k = ys) || aboveB (xs.take k) ys) = decide (k ≤ cpre xs ys) := by
  rw [Bool.eq_iff_iff]
  simp only [Bool.or_eq_true, decide_eq_true_eq, aboveB_iff]
  have hl : (xs.take k).length = k := by simp; omega
  rw [hl, le_cpre h]
  constructor
  · rintro (he | ⟨h1, h2⟩)
    · have : ys.length = k := by rw [← he]; exact hl
      refine ⟨by omega, ?_⟩
      rw [he, ← this, List.take_length]
    · exact ⟨by omega, h2.symm⟩
  · rintro ⟨h1, h2⟩
    rcases Nat.lt_or_ge k ys.length with hk | hk
    · exact .inr ⟨hk, h2.symm⟩
    · refine .inl ?_
      rw [h2, List.take_of_length_le hk]

end Go.Proofs.Ytdcpoeaddhbjbaa
