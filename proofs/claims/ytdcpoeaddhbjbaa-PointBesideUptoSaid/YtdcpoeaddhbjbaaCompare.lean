/- Walks of Go's cmp.Compare at int, slices.Compare at []int, and of trail.Compare. -/
import Derived.Test.YtdcpoeaddhbjbaaTrail5
import Derived.Test.YtdcpoeaddhbjbaaPlain3
namespace Go.Proofs.Ytdcpoeaddhbjbaa
set_option maxRecDepth 100000
open Go.RowKit

theorem cmp_int (x y : Int) (w : World) : Calls Try.prog 81 #[.int .i64 x, .int .i64 y] w fun e w' => e = .returned (.int .i64 (cmp3 x y)) ∧ w = w' := by
  by_cases h1 : x < y
  · have HF : Hid (cmp3 x y = -1) := by show cmp3 x y = -1; rw [cmp3, if_pos h1]
    go_enter Try.func81, Try.ntmps81
    go_wp2
    go_ret
    exact ⟨by rw [HF.out]; rfl, rfl⟩
  · by_cases h2 : y < x
    · have HF : Hid (cmp3 x y = 1) := by show cmp3 x y = 1; rw [cmp3, if_neg h1, if_pos h2]
      go_enter Try.func81, Try.ntmps81
      go_wp2
      go_ret
      exact ⟨by rw [HF.out]; rfl, rfl⟩
    · have HF : Hid (cmp3 x y = 0) := by show cmp3 x y = 0; rw [cmp3, if_neg h1, if_neg h2]
      go_enter Try.func81, Try.ntmps81
      go_wp2
      go_ret
      exact ⟨by rw [HF.out]; rfl, rfl⟩

set_option maxHeartbeats 800000 in
theorem compare_ints (xs ys : List Int) (v1 v2 : Value) (w : World) (h1 : Ints w v1 xs) (h2 : Ints w v2 ys) :
    Calls Try.prog 90 #[v1, v2] w fun e w' => e = .returned (.int .i64 (cmpI xs ys)) ∧ w = w' := by
  obtain ⟨a1, c1, rfl, l1, b1, o1⟩ := h1.open_
  obtain ⟨a2, c2, rfl, l2, b2, o2⟩ := h2.open_
  clear h1 h2
  go_enter Try.func90, Try.ntmps90
  go_wp2
  go_loop [11] (fun i => ∃ k : Nat, k ≤ xs.length ∧ k ≤ ys.length ∧ i = .int .i64 k ∧ agree xs ys k) (fun i => xs.length - (intOf i).toNat)
  case atStart => exact ⟨0, Nat.zero_le _, Nat.zero_le _, rfl, agree_zero _ _⟩
  case round =>
    obtain ⟨k, hk, hk2, rfl, hag⟩ := hrel
    by_cases hlt : k < xs.length
    · obtain ⟨p1, f1, rfl, e1⟩ := o1 (by omega)
      have d1 := e1 k hlt
      by_cases hlt2 : k < ys.length
      · obtain ⟨p2, f2, rfl, e2⟩ := o2 (by omega)
        have d2 := e2 k hlt2
        clear e1 e2 o1 o2
        go_wp2_with fail
        refine (cmp_int _ _ _).mono ?_
        rintro e w' ⟨rfl, rfl⟩
        go_wp2
        · have hne : (cmp3 xs[k] ys[k] != 0) = true := by assumption
          go_ret
          exact ⟨ret_int (by rw [cmpI_diff hag hlt hlt2 (by simpa using hne)]), rfl⟩
        · have heq : (cmp3 xs[k] ys[k] != 0) = false := by assumption
          go_round
          case rel => exact ⟨k + 1, by omega, by omega, by go_num, agree_succ hag hlt hlt2 (by rw [← cmp3_zero]; simpa using heq)⟩
          case measure => simp [intOf]; omega
      · clear e1 o1 o2
        go_wp2
        go_ret
        exact ⟨ret_int (by rw [cmpI_longer hag hlt (by omega)]), rfl⟩
    · have hkn : k = xs.length := by omega
      subst hkn
      have HE := Lib.hid (cmpI_end hag hk2)
      clear hlt o1 o2 hk
      by_cases hl : xs.length < ys.length
      · go_wp2
        go_ret
        exact ⟨ret_int (by rw [HE.out, if_pos hl]), rfl⟩
      · go_wp2
        go_ret
        exact ⟨ret_int (by rw [HE.out, if_neg hl]), rfl⟩

theorem compare_any (xs ys : List Int) (v1 v2 : Value) (w : World) (h1 : Ints w v1 xs) (h2 : Ints w v2 ys) :
    Calls Try.prog 50 #[v1, v2] w fun e w' => e = .returned (.int .i64 (cmpI xs ys)) ∧ w = w' := by
  go_enter Try.func50, Try.ntmps50
  go_wp2_with fail
  refine (compare_ints xs ys v1 v2 _ h1 h2).mono ?_
  rintro e w' ⟨rfl, rfl⟩
  go_wp2
  go_ret
  exact ⟨rfl, rfl⟩
end Go.Proofs.Ytdcpoeaddhbjbaa
