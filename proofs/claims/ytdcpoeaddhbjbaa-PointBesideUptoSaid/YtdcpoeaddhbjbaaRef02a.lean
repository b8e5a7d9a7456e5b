/- Walks of package redlineref02: Same, Above, Left, Check, Compare; and of slices.ContainsFunc, trail.Check. -/
import Derived.Test.YtdcpoeaddhbjbaaCompare
namespace Go.Proofs.Ytdcpoeaddhbjbaa
set_option maxRecDepth 100000
open Go.RowKit

set_option maxHeartbeats 400000 in
theorem rsame_any (xs ys : List Int) (v1 v2 : Value) (w : World) (h1 : Ints w v1 xs) (h2 : Ints w v2 ys) :
    Calls Try.prog 67 #[v1, v2] w fun e w' => e = .returned (.bool (decide (xs = ys))) ∧ Same w w' := by
  obtain ⟨a1, c1, rfl, l1, b1, o1⟩ := h1.open_
  obtain ⟨a2, c2, rfl, l2, b2, o2⟩ := h2.open_
  clear h1 h2
  by_cases hl : xs.length = ys.length
  · have hne : (((xs.length : Nat) : Int) != ((ys.length : Nat) : Int)) = false := by simp [hl]
    have HL := Lib.hid hl
    clear hl
    go_enter Try.func67, Try.ntmps67
    go_wp2
    go_loopw [13] (fun i wr => ∃ k : Nat, k ≤ xs.length ∧ i = .int .i64 k ∧ agree xs ys k ∧ Same w wr) (fun i _ => xs.length - (intOf i).toNat)
    case atStart => exact ⟨0, Nat.zero_le _, rfl, fun j hj => by omega, Same.refl _⟩
    case round =>
      obtain ⟨k, hk, rfl, hag, hs⟩ := hrel
      by_cases hlt : k < xs.length
      · obtain ⟨p1, f1, rfl, e1⟩ := o1 (by omega)
        obtain ⟨p2, f2, rfl, e2⟩ := o2 (by have := HL.out; omega)
        have d1 := (hs.cell ⟨p1, f1 + k, none⟩).trans (e1 k hlt)
        have d2 := (hs.cell ⟨p2, f2 + k, none⟩).trans (e2 k (by have := HL.out; omega))
        have hlt2 : k < ys.length := by have := HL.out; omega
        clear e1 e2 o1 o2
        go_wp2
        go_quiet (fail)
        go_wp2
        · have hne2 : (xs[k] != ys[k]) = true := by assumption
          go_ret
          refine ⟨ret_bool ?_, hs.drewN _⟩
          rw [eq_comm, decide_eq_false_iff_not]
          rintro rfl
          simp at hne2
        · have heq : (xs[k] != ys[k]) = false := by assumption
          go_roundw
          case rel => exact ⟨k + 1, by omega, by go_num, agree_succ hag hlt hlt2 (by simpa using heq), hs.drewN _⟩
          case measure => simp [intOf]; omega
      · have : k = xs.length := by omega
        subst this
        clear hlt o1 o2
        go_wp2
        go_ret
        exact ⟨ret_bool (by rw [eq_comm, decide_eq_true_eq]; exact agree_eq HL.out hag), hs⟩
  · have hne : (((xs.length : Nat) : Int) != ((ys.length : Nat) : Int)) = true := by simp; omega
    have HL := Lib.hid hl
    clear hl o1 o2
    go_enter Try.func67, Try.ntmps67
    go_wp2
    go_ret
    exact ⟨ret_bool (by rw [eq_comm, decide_eq_false_iff_not]; rintro rfl; exact HL.out rfl), Same.refl _⟩

theorem take_full {xs : List Int} {n : Nat} (h : xs.length = n) : xs.take n = xs := by rw [← h, List.take_length]

theorem rabove_any (xs ys : List Int) (v1 v2 : Value) (w : World) (h1 : Ints w v1 xs) (h2 : Ints w v2 ys) :
    Calls Try.prog 88 #[v1, v2] w fun e w' => e = .returned (.bool (aboveB xs ys)) ∧ Same w w' := by
  obtain ⟨a1, c1, e1⟩ := h1.slice
  obtain ⟨a2, c2, e2, l2, m2, _⟩ := id h2
  have b1 := h1.len
  subst e1 e2
  by_cases hlt : xs.length < ys.length
  · have HT := Lib.hid (h2.take (k := xs.length) (by omega))
    go_enter Try.func88, Try.ntmps88
    go_wp2_with fail
    refine (rsame_any xs (ys.take xs.length) _ _ _ h1 HT.out).mono ?_
    rintro e w' ⟨rfl, hs⟩
    go_wp2
    go_ret
    refine ⟨ret_bool ?_, hs⟩
    rw [Bool.eq_iff_iff, aboveB_iff]
    simp [hlt]
    exact eq_comm
  · go_enter Try.func88, Try.ntmps88
    go_wp2
    go_ret
    exact ⟨ret_bool (by simp [aboveB, hlt]), Same.refl _⟩

theorem left_split {xs ys : List Int} {k : Nat} (hk : xs.length = k + 1) : leftB xs ys = (decide (k < ys.length) && (decide (xs.take k = ys.take k) && decide (xs.getD k 0 < ys.getD k 0))) := by
  rw [Bool.eq_iff_iff, leftB_iff]
  simp only [Bool.and_eq_true, decide_eq_true_eq]
  constructor
  · rintro ⟨j, a, b, c, d⟩
    obtain rfl : j = k := by omega
    exact ⟨b, take_of_agree c (by omega) (by omega), d⟩
  · rintro ⟨a, b, c⟩
    exact ⟨k, hk.symm, a, agree_of_take b, c⟩

end Go.Proofs.Ytdcpoeaddhbjbaa
