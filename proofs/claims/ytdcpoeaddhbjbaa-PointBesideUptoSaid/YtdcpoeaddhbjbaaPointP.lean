/- Plain Lean: how points compare is an order; what a walk reads of it. -/
import Derived.Test.YtdcpoeaddhbjbaaPlain3
namespace Go.Proofs.Ytdcpoeaddhbjbaa
set_option maxRecDepth 100000

/-- The first of two that is not zero, or zero. -/
def orI (x y : Int) : Int := if x = 0 then y else x
/-- How two points compare. -/
def cmpP (p : List Int) (a : Int) (q : List Int) (b : Int) : Int := orI (cmpI p q) (cmp3 a b)

theorem cmpP_eq {p q : List Int} {a b : Int} (h : p = q) : cmpP p a q b = cmp3 a b := by
  subst h
  simp [cmpP, orI, cmpI_zero.2 rfl]
theorem cmpP_ne {p q : List Int} {a b : Int} (h : p ≠ q) : cmpP p a q b = cmpI p q := by
  have : cmpI p q ≠ 0 := fun h0 => h (cmpI_zero.1 h0)
  simp [cmpP, orI, this]
theorem cmpP_neg (p q : List Int) (a b : Int) : cmpP p a q b = -cmpP q b p a := by
  by_cases h : p = q
  · rw [cmpP_eq h, cmpP_eq h.symm, cmp3_neg]
  · rw [cmpP_ne h, cmpP_ne (Ne.symm h), cmpI_neg]
theorem cmpP_zero {p q : List Int} {a b : Int} : cmpP p a q b = 0 ↔ p = q ∧ a = b := by
  by_cases h : p = q
  · rw [cmpP_eq h, cmp3_zero]
    simp [h]
  · rw [cmpP_ne h, cmpI_zero]
    simp [h]
theorem cmpP_self (p : List Int) (a : Int) : cmpP p a p a = 0 := cmpP_zero.2 ⟨rfl, rfl⟩
theorem cmpP_range (p q : List Int) (a b : Int) : cmpP p a q b = -1 ∨ cmpP p a q b = 0 ∨ cmpP p a q b = 1 := by
  by_cases h : p = q
  · rw [cmpP_eq h]
    unfold cmp3
    split <;> (try split) <;> simp
  · rw [cmpP_ne h]
    exact cmpI_range p q
theorem cmp3_trans {a b c : Int} (h1 : cmp3 a b ≤ 0) (h2 : cmp3 b c ≤ 0) : cmp3 a c ≤ 0 := by
  unfold cmp3 at *
  split at h1 <;> split at h2 <;> split <;> (try split at h1) <;> (try split at h2) <;> (try split) <;> omega
theorem cmpP_trans {p q r : List Int} {a b c : Int} (h1 : cmpP p a q b ≤ 0) (h2 : cmpP q b r c ≤ 0) : cmpP p a r c ≤ 0 := by
  by_cases e1 : p = q
  · subst e1
    by_cases e2 : p = r
    · subst e2
      rw [cmpP_eq rfl] at *
      exact cmp3_trans h1 h2
    · rw [cmpP_ne e2] at *
      exact h2
  · by_cases e2 : q = r
    · subst e2
      rw [cmpP_ne e1] at *
      exact h1
    · rw [cmpP_ne e1] at h1
      rw [cmpP_ne e2] at h2
      by_cases e3 : p = r
      · subst e3
        have n1 := cmpI_neg p q
        have n2 : cmpI p q ≠ 0 := fun h => e1 (cmpI_zero.1 h)
        omega
      · rw [cmpP_ne e3]
        exact cmpI_trans h1 h2
end Go.Proofs.Ytdcpoeaddhbjbaa
