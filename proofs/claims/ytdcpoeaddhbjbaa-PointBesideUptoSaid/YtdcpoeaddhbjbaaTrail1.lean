/- Walks of package trail: alike, Same, Above, Left, Common. -/
import Derived.Test.YtdcpoeaddhbjbaaClone
namespace Go.Proofs.Ytdcpoeaddhbjbaa
set_option maxRecDepth 100000
open Go.RowKit

set_option maxHeartbeats 400000 in
theorem alike_any (xs ys : List Int) (v1 v2 : Value) (w : World) (h1 : Ints w v1 xs) (h2 : Ints w v2 ys) :
    Calls Try.prog 78 #[v1, v2] w fun e w' => e = .returned (.int .i64 (cpre xs ys)) ∧ Same w w' := by
  obtain ⟨a1, c1, rfl, l1, b1, o1⟩ := h1.open_
  obtain ⟨a2, c2, rfl, l2, b2, o2⟩ := h2.open_
  clear h1 h2
  rcases Nat.lt_or_ge ys.length xs.length with hle | hle
  all_goals
    go_enter Try.func78, Try.ntmps78
    go_wp2
    go_loopw [11] (fun i wr => ∃ k : Nat, k ≤ xs.length ∧ k ≤ ys.length ∧ i = .int .i64 k ∧ agree xs ys k ∧ Same w wr) (fun i _ => xs.length - (intOf i).toNat)
    case atStart => exact ⟨0, Nat.zero_le _, Nat.zero_le _, rfl, agree_zero _ _, Same.refl _⟩
    case round =>
      obtain ⟨k, hk, hk2, rfl, hag, hs⟩ := hrel
      by_cases hlt : k < xs.length ∧ k < ys.length
      · obtain ⟨hlt, hlt2⟩ := hlt
        obtain ⟨p1, f1, rfl, e1⟩ := o1 (by omega)
        obtain ⟨p2, f2, rfl, e2⟩ := o2 (by omega)
        have d1 := (hs.cell ⟨p1, f1 + k, none⟩).trans (e1 k hlt)
        have d2 := (hs.cell ⟨p2, f2 + k, none⟩).trans (e2 k hlt2)
        clear e1 e2 o1 o2
        go_wp2
        go_quiet (fail)
        go_wp2
        · have hne2 : (xs[k] != ys[k]) = true := by assumption
          go_ret
          exact ⟨ret_int (by rw [cpre_of_diff hag hlt hlt2 (by simpa using hne2)]), hs.drewN _⟩
        · have heq : (xs[k] != ys[k]) = false := by assumption
          go_roundw
          case rel => exact ⟨k + 1, by omega, by omega, by go_num, agree_succ hag hlt hlt2 (by simpa using heq), hs.drewN _⟩
          case measure => simp [intOf]; omega
      · have hnl : min xs.length ys.length = k := by omega
        have HK := Lib.hid hnl
        have g1 : ¬ k < min xs.length ys.length := by omega
        clear o1 o2 hnl
        go_wp2
        go_ret
        refine ⟨ret_int ?_, hs⟩
        rw [cpre_of_end (by rw [HK.out]; exact hag)]
        omega
end Go.Proofs.Ytdcpoeaddhbjbaa
