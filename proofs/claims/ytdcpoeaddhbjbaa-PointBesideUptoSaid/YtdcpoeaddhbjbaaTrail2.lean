/- Walks of package trail: Same, Above, Left. -/
import Derived.Test.YtdcpoeaddhbjbaaTrail1
namespace Go.Proofs.Ytdcpoeaddhbjbaa
set_option maxRecDepth 100000
open Go.RowKit

theorem same_any (xs ys : List Int) (v1 v2 : Value) (w : World) (h1 : Ints w v1 xs) (h2 : Ints w v2 ys) :
    Calls Try.prog 28 #[v1, v2] w fun e w' => e = .returned (.bool (decide (xs = ys))) ∧ Same w w' := by
  go_enter Try.func28, Try.ntmps28
  go_wp2_with fail
  refine (equal_ints xs ys v1 v2 _ h1 h2).mono ?_
  rintro e w' ⟨rfl, hs⟩
  go_wp2
  go_ret
  exact ⟨rfl, hs⟩

theorem above_any (xs ys : List Int) (v1 v2 : Value) (w : World) (h1 : Ints w v1 xs) (h2 : Ints w v2 ys) :
    Calls Try.prog 29 #[v1, v2] w fun e w' => e = .returned (.bool (aboveB xs ys)) ∧ Same w w' := by
  obtain ⟨a1, c1, e1⟩ := h1.slice
  obtain ⟨a2, c2, e2⟩ := h2.slice
  have b1 := h1.len
  have b2 := h2.len
  subst e1 e2
  by_cases hlt : xs.length < ys.length
  · go_enter Try.func29, Try.ntmps29
    go_wp2_with fail
    refine (alike_any xs ys _ _ _ h1 h2).mono ?_
    rintro e w' ⟨rfl, hs⟩
    go_wp2
    go_ret
    refine ⟨ret_bool ?_, hs⟩
    simp [aboveB, hlt]
    rw [Bool.eq_iff_iff]
    simp
    try omega
  · go_enter Try.func29, Try.ntmps29
    go_wp2
    go_ret
    exact ⟨ret_bool (by simp [aboveB, hlt]), Same.refl _⟩

theorem i64_pred (n : Nat) (h : n * 8 ≤ 140737488351232) : IntKind.i64.wrap ((n : Int) - 1) = (n : Int) - 1 := IntWalk.i64_in _ (by omega)

end Go.Proofs.Ytdcpoeaddhbjbaa
