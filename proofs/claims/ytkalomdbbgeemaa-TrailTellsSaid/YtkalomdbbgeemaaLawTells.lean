/- The walk of the law TrailTells. -/
import Derived.Test.YtkalomdbbgeemaaLawLevels
import Derived.Test.YtkalomdbbgeemaaRef02b
namespace Go.Proofs.Ytkalomdbbgeemaa
open Go.RowKit

set_option maxHeartbeats 4000000 in
theorem law_tells (xs ys : List Int) (v1 v2 : Value) (w : World) (h1 : Ints w v1 xs) (h2 : Ints w v2 ys) :
    Calls Try.prog 7 #[v1, v2] w (True_ w) := by
  obtain ⟨a1, n1, c1, rfl⟩ := h1.slice3
  obtain ⟨a2, n2, c2, rfl⟩ := h2.slice3
  cases hs : shortB 100 [xs, ys]
  all_goals
    have HS := Lib.hid hs
    clear hs
    go_enter Try.func7, Try.ntmps7
    go_wp2_with fail
    refine (live_any _).mono ?_
    rintro e w1 ⟨rfl, hb1⟩
    go_wp2_with fail
    refine (short_any [xs, ys] _ _ (lit_two w1 _ _ _ xs ys rfl (h1.below hb1 (Nat.le_refl _)) (h2.below hb1 (Nat.le_refl _)))).mono ?_
    rintro e w2 ⟨rfl, hw2⟩
    rw [HS.out]
    have hb := gr_al hb1 (.cells #[.slice a1 n1 c1, .slice a2 n2 c2] 22)
    rw [hw2] at hb
    clear hw2 hb1
    have g1 := h1.below hb (Nat.le_refl _)
    have g2 := h2.below hb (Nat.le_refl _)
    clear h1 h2
  · go_wp2
    go_ret
    exact ⟨rfl, hb⟩
  · go_wp2_with (first
      | (go_at_call 33; refine (check_any _ _ _ g1).mono ?_; rintro e w' ⟨rfl, rfl⟩)
      | (go_at_call 34; refine (rcheck_any _ _ _ g1).mono ?_; rintro e w' ⟨rfl, rfl⟩)
      | (go_at_call 31; refine (compare_any _ _ _ _ _ g1 g2).mono ?_; rintro e w' ⟨rfl, rfl⟩)
      | (go_at_call 35; refine (rcompare_any _ _ _ _ _ g1 g2).mono ?_; rintro e w' ⟨rfl, hs⟩; replace g1 := g1.same hs; replace g2 := g2.same hs; replace hb := gr_sm hb hs; clear hs)
      | (go_at_call 18; refine (same_any _ _ _ _ _ g1 g2).mono ?_; rintro e w' ⟨rfl, hs⟩; replace g1 := g1.same hs; replace g2 := g2.same hs; replace hb := gr_sm hb hs; clear hs)
      | (go_at_call 27; refine (rsame_any _ _ _ _ _ g1 g2).mono ?_; rintro e w' ⟨rfl, hs⟩; replace g1 := g1.same hs; replace g2 := g2.same hs; replace hb := gr_sm hb hs; clear hs)
      | (go_at_call 19; refine (above_any _ _ _ _ _ g1 g2).mono ?_; rintro e w' ⟨rfl, hs⟩; replace g1 := g1.same hs; replace g2 := g2.same hs; replace hb := gr_sm hb hs; clear hs)
      | (go_at_call 36; refine (rabove_any _ _ _ _ _ g1 g2).mono ?_; rintro e w' ⟨rfl, hs⟩; replace g1 := g1.same hs; replace g2 := g2.same hs; replace hb := gr_sm hb hs; clear hs)
      | (go_at_call 32; refine (left_any _ _ _ _ _ g1 g2).mono ?_; rintro e w' ⟨rfl, hs⟩; replace g1 := g1.same hs; replace g2 := g2.same hs; replace hb := gr_sm hb hs; clear hs)
      | (go_at_call 37; refine (rleft_any _ _ _ _ _ g1 g2).mono ?_; rintro e w' ⟨rfl, hs⟩; replace g1 := g1.same hs; replace g2 := g2.same hs; replace hb := gr_sm hb hs; clear hs))
    go_ret
    exact ⟨rfl, hb⟩

theorem law_tells' (xs ys : List Int) (v1 v2 : Value) (w : World) (h1 : Ints w v1 xs ∧ I64 xs) (h2 : Ints w v2 ys ∧ I64 ys) :
    Calls Try.prog 7 #[v1, v2] w (True_ w) := law_tells xs ys v1 v2 w h1.1 h2.1
end Go.Proofs.Ytkalomdbbgeemaa
