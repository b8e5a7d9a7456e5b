/- Plain Lean: whether an operation with one field has the fields of its kind. -/
import Derived.Test.YtcbljiiomnhbjaaRSame11
namespace Go.Proofs.Ytcbljiiomnhbjaa
set_option maxRecDepth 100000
open Go.RowKit

/-- An operation of a kind, without any field. -/
def kO (k : Int) : OpF := ⟨k, [], [], 0, noT, [], [], [], noSel, noSel⟩
theorem fm_bad (o : OpF) (h : ¬ (1 ≤ o.kind ∧ o.kind ≤ 9)) : formX o = 1 := by rw [formX, if_neg h]
theorem set_one (k : Int) (hk : 1 ≤ k ∧ k ≤ 9) (o : OpF) (ho : o.kind = k) (c : UInt8) (b : Bool) (hs : setX o = if b then [c] else []) : (formX o == 0) = (!b || decide (c ∈ hasS k)) := by
  rw [formX, ho, if_pos hk, hs]
  cases b
  · simp
  · by_cases hc : c ∈ hasS k <;> simp [hc]
theorem mem_has (k : Int) (hk : 1 ≤ k ∧ k ≤ 9) : decide ((112 : UInt8) ∈ hasS k) = !(k == 9) ∧ decide ((116 : UInt8) ∈ hasS k) = (k == 5) ∧ decide ((120 : UInt8) ∈ hasS k) = (k == 7 || k == 8) ∧ decide ((110 : UInt8) ∈ hasS k) = (k == 1 || k == 2) ∧ decide ((111 : UInt8) ∈ hasS k) = (k == 3 || k == 6) := by
  have : k = 1 ∨ k = 2 ∨ k = 3 ∨ k = 4 ∨ k = 5 ∨ k = 6 ∨ k = 7 ∨ k = 8 ∨ k = 9 := by omega
  rcases this with rfl | rfl | rfl | rfl | rfl | rfl | rfl | rfl | rfl <;> decide
theorem noT_yes : eqT noT noT = true := eqT_yes rfl
theorem fm_none (k : Int) (hk : 1 ≤ k ∧ k ≤ 9) : (formX (kO k) == 0) = true := by
  rw [set_one k hk (kO k) rfl 112 false (by simp [setX, flagsX, kO, noSel, noT_yes, sselB_self, letters, setU])]
  rfl
theorem len_dec {α : Type} (xs : List α) : (!decide (0 < xs.length)) = ((xs.length : Int) == 0) := by
  rw [Bool.eq_iff_iff]; simp
theorem fm_path (k : Int) (hk : 1 ≤ k ∧ k ≤ 9) (p : List Int) : (formX { kO k with path := p } == 0) = (((p.length : Int) == 0) || !(k == 9)) := by
  rw [set_one k hk _ rfl 112 (decide (0 < p.length)) (by by_cases h : 0 < p.length <;> simp [setX, flagsX, kO, noSel, noT_yes, sselB_self, letters, setU, h]), (mem_has k hk).1, len_dec]
theorem fm_dest (k : Int) (hk : 1 ≤ k ∧ k ≤ 9) (p : List Int) : (formX { kO k with dest := p } == 0) = (((p.length : Int) == 0) || (k == 5)) := by
  rw [set_one k hk _ rfl 116 (decide (0 < p.length)) (by by_cases h : 0 < p.length <;> simp [setX, flagsX, kO, noSel, noT_yes, sselB_self, letters, setU, h]), (mem_has k hk).2.1, len_dec]
theorem fm_text (k : Int) (hk : 1 ≤ k ∧ k ≤ 9) (p : List Int) : (formX { kO k with text := p } == 0) = (((p.length : Int) == 0) || (k == 7 || k == 8)) := by
  rw [set_one k hk _ rfl 120 (decide (0 < p.length)) (by by_cases h : 0 < p.length <;> simp [setX, flagsX, kO, noSel, noT_yes, sselB_self, letters, setU, h]), (mem_has k hk).2.2.1, len_dec]
theorem fm_old (k : Int) (hk : 1 ≤ k ∧ k ≤ 9) (p : List (ByteArray × ByteArray)) : (formX { kO k with old := p } == 0) = (((p.length : Int) == 0) || (k == 3 || k == 6)) := by
  rw [set_one k hk _ rfl 111 (decide (0 < p.length)) (by by_cases h : 0 < p.length <;> simp [setX, flagsX, kO, noSel, noT_yes, sselB_self, letters, setU, h]), (mem_has k hk).2.2.2.2, len_dec]
theorem fm_node (k : Int) (hk : 1 ≤ k ∧ k ≤ 9) (t : Tree) : (formX { kO k with node := t } == 0) = (eqT t noT || (k == 1 || k == 2)) := by
  rw [set_one k hk _ rfl 110 (!eqT t noT) (by cases h : eqT t noT <;> simp [setX, flagsX, kO, noSel, sselB_self, letters, setU, h]), (mem_has k hk).2.2.2.1, Bool.not_not]
end Go.Proofs.Ytcbljiiomnhbjaa
