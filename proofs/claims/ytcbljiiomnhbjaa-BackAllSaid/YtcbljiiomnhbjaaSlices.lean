/- Walks of Go's slices.Equal, Compare, Clone at []int, and cmp.Compare at int. -/
import Derived.Test.YtcbljiiomnhbjaaBase
import Derived.Test.YtcbljiiomnhbjaaPlainAll
import Derived.Test.YtcbljiiomnhbjaaProg
namespace Go.Proofs.Ytcbljiiomnhbjaa
set_option maxRecDepth 100000
open Go.RowKit

theorem ret_bool {a b : Bool} (h : a = b) : Ending.returned (.bool a) = .returned (.bool b) := by rw [h]
theorem ret_int {k : IntKind} {a b : Int} (h : a = b) : Ending.returned (.int k a) = .returned (.int k b) := by rw [h]

set_option maxHeartbeats 400000 in
theorem equal_ints (xs ys : List Int) (v1 v2 : Value) (w : World) (h1 : Ints w v1 xs) (h2 : Ints w v2 ys) :
    Calls Try.prog 50 #[v1, v2] w fun e w' => e = .returned (.bool (decide (xs = ys))) ∧ Same w w' := by
  obtain ⟨a1, c1, rfl, l1, b1, o1⟩ := h1.open_
  obtain ⟨a2, c2, rfl, l2, b2, o2⟩ := h2.open_
  clear h1 h2
  by_cases hl : xs.length = ys.length
  · have hne : (((xs.length : Nat) : Int) != ((ys.length : Nat) : Int)) = false := by simp [hl]
    have HL := Lib.hid hl
    clear hl
    go_enter Try.func50, Try.ntmps50
    go_wp2
    go_loopw [13] (fun i wr => ∃ k : Nat, k ≤ xs.length ∧ i = .int .i64 k ∧ agree xs ys k ∧ Same w wr) (fun i _ => xs.length - (intOf i).toNat)
    case atStart => exact ⟨0, Nat.zero_le _, rfl, fun j hj => by omega, Same.refl _⟩
    case round =>
      obtain ⟨k, hk, rfl, hag, hs⟩ := hrel
      by_cases hlt : k < xs.length
      · obtain ⟨p1, f1, rfl, e1⟩ := o1 (by omega)
        obtain ⟨p2, f2, rfl, e2⟩ := o2 (by have := HL.out; omega)
        have d1 := (hs.cell ⟨p1, f1 + k, none⟩).trans (e1 k hlt)
        have d2 := (hs.cell ⟨p2, f2 + k, none⟩).trans (e2 k (by have := HL.out; omega))
        have hlt2 : k < ys.length := by have := HL.out; omega
        clear e1 e2 o1 o2
        go_wp2
        go_quiet (fail)
        go_wp2
        · have hne2 : (xs[k] != ys[k]) = true := by assumption
          go_ret
          refine ⟨ret_bool ?_, hs.drewN _⟩
          rw [eq_comm, decide_eq_false_iff_not]
          rintro rfl
          simp at hne2
        · have heq : (xs[k] != ys[k]) = false := by assumption
          go_roundw
          case rel => exact ⟨k + 1, by omega, by go_num, agree_succ hag hlt hlt2 (by simpa using heq), hs.drewN _⟩
          case measure => simp [intOf]; omega
      · have : k = xs.length := by omega
        subst this
        clear hlt o1 o2
        go_wp2
        go_ret
        exact ⟨ret_bool (by rw [eq_comm, decide_eq_true_eq]; exact agree_eq HL.out hag), hs⟩
  · have hne : (((xs.length : Nat) : Int) != ((ys.length : Nat) : Int)) = true := by simp; omega
    have HL := Lib.hid hl
    clear hl o1 o2
    go_enter Try.func50, Try.ntmps50
    go_wp2
    go_ret
    exact ⟨ret_bool (by rw [eq_comm, decide_eq_false_iff_not]; rintro rfl; exact HL.out rfl), Same.refl _⟩
end Go.Proofs.Ytcbljiiomnhbjaa
