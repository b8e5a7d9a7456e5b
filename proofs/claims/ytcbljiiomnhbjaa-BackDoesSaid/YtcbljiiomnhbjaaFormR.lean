/- Plain Lean: an operation has its fields just if it is the one with those alone. -/
import Derived.Test.YtcbljiiomnhbjaaFld
import Derived.Test.YtcbljiiomnhbjaaRS11
namespace Go.Proofs.Ytcbljiiomnhbjaa
set_option maxRecDepth 100000
open Go.RowKit

theorem setU_all (x : UInt8) (xs : List UInt8) (b : Bool) (bs : List Bool) (P : UInt8 → Prop) : (∀ y ∈ setU (x :: xs) (b :: bs), P y) ↔ ((b = true → P x) ∧ ∀ y ∈ setU xs bs, P y) := by
  cases b <;> simp [setU]
theorem setU_none (P : UInt8 → Prop) : (∀ y ∈ setU [] [], P y) ↔ True := by simp [setU]
theorem nil_dec {α : Type} [DecidableEq α] (xs : List α) : decide ([] = xs) = !decide (0 < xs.length) := by cases xs <;> simp
theorem zero_dec (x : Int) : ((0 : Int) == x) = !decide (x ≠ 0) := by
  by_cases h : x = 0
  · subst h; rfl
  · have h2 : (0 : Int) ≠ x := fun e => h e.symm
    simp [h, h2]
theorem eqT_symm (s t : Tree) : eqT s t = eqT t s := by
  rw [Bool.eq_iff_iff, eqT_iff, eqT_iff]
  exact eq_comm
theorem ptEq_symm (p : List Int) (a : Int) (q : List Int) (b : Int) : ptEq p a q b = ptEq q b p a := by
  rw [Bool.eq_iff_iff]; simp [ptEq]
  constructor <;> (rintro ⟨rfl, rfl⟩; exact ⟨rfl, rfl⟩)
theorem sselB_symm (s t : SelM) : sselB s.1 s.2.1.1 s.2.1.2 s.2.2.1 s.2.2.2 t.1 t.2.1.1 t.2.1.2 t.2.2.1 t.2.2.2 = sselB t.1 t.2.1.1 t.2.1.2 t.2.2.1 t.2.2.2 s.1 s.2.1.1 s.2.1.2 s.2.2.1 s.2.2.2 := by
  simp only [sselB]
  rw [ptEq_symm s.2.1.1, ptEq_symm s.2.2.1, Bool.beq_comm]
/-- What the flags tell. -/
theorem form_flags (k : Int) (hk : 1 ≤ k ∧ k ≤ 9) (b1 b2 b3 b4 b5 b6 b7 b8 b9 : Bool) : (∀ x ∈ setU letters [b1, b2, b3, b4, b5, b6, b7, b8, b9], x ∈ hasS k) ↔
    ((k = 9 → b1 = false) ∧ (k ≠ 5 → b2 = false) ∧ (k ≠ 3 → k ≠ 4 → k ≠ 7 → k ≠ 8 → b3 = false) ∧ (k ≠ 1 → k ≠ 2 → b4 = false) ∧ (k ≠ 3 → k ≠ 6 → b5 = false) ∧ (k ≠ 4 → k ≠ 6 → b6 = false) ∧ (k ≠ 7 → k ≠ 8 → b7 = false) ∧ (k ≠ 9 → b8 = false) ∧ (k ≠ 9 → b9 = false)) := by
  simp only [letters, setU_all, setU_none]
  have : k = 1 ∨ k = 2 ∨ k = 3 ∨ k = 4 ∨ k = 5 ∨ k = 6 ∨ k = 7 ∨ k = 8 ∨ k = 9 := by omega
  rcases this with rfl | rfl | rfl | rfl | rfl | rfl | rfl | rfl | rfl <;> simp [hasS]
set_option linter.unusedSimpArgs false in
theorem form_fld (o : OpF) : formX o = if (fldB o && eqO (fldO o) o) = true then 0 else 1 := by
  unfold formX
  by_cases hk : 1 ≤ o.kind ∧ o.kind ≤ 9
  case neg => rw [if_neg hk, if_neg (by simp [fldB, hk])]
  rw [if_pos hk]
  suffices key : (∀ x ∈ setX o, x ∈ hasS o.kind) ↔ (fldB o && eqO (fldO o) o) = true by
    by_cases hA : ∀ x ∈ setX o, x ∈ hasS o.kind
    · rw [if_pos hA, if_pos (key.1 hA)]
    · rw [if_neg hA, if_neg (fun h => hA (key.2 h))]
  obtain ⟨s1, hs1⟩ : ∃ b, sselB o.from_.1 o.from_.2.1.1 o.from_.2.1.2 o.from_.2.2.1 o.from_.2.2.2 false [] 0 [] 0 = b := ⟨_, rfl⟩
  obtain ⟨s2, hs2⟩ : ∃ b, sselB o.into.1 o.into.2.1.1 o.into.2.1.2 o.into.2.2.1 o.into.2.2.2 false [] 0 [] 0 = b := ⟨_, rfl⟩
  have r1 := (sselB_symm noSel o.from_).trans hs1
  have r2 := (sselB_symm noSel o.into).trans hs2
  have e1 : sselB o.from_.1 o.from_.2.1.1 o.from_.2.1.2 o.from_.2.2.1 o.from_.2.2.2 o.from_.1 o.from_.2.1.1 o.from_.2.1.2 o.from_.2.2.1 o.from_.2.2.2 = true := sselB_self _ _ _ _ _
  have e2 : sselB o.into.1 o.into.2.1.1 o.into.2.1.2 o.into.2.2.1 o.into.2.2.2 o.into.1 o.into.2.1.1 o.into.2.1.2 o.into.2.2.1 o.into.2.2.2 = true := sselB_self _ _ _ _ _
  simp only [noSel] at r1 r2
  rw [setX, flagsX, hs1, hs2, form_flags o.kind hk]
  have hb : fldB o = true := by simp only [fldB]; exact decide_eq_true hk
  rw [hb, Bool.true_and]
  have : o.kind = 1 ∨ o.kind = 2 ∨ o.kind = 3 ∨ o.kind = 4 ∨ o.kind = 5 ∨ o.kind = 6 ∨ o.kind = 7 ∨ o.kind = 8 ∨ o.kind = 9 := by omega
  rcases this with h | h | h | h | h | h | h | h | h <;>
    simp [fldO, eqO, h, kO, nil_dec, zero_dec, eqT_symm noT, eqT_yes, r1, r2, noSel, e1, e2]
end Go.Proofs.Ytcbljiiomnhbjaa
