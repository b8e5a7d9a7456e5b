/- The closures of point.Ahead and point.Behind. -/
import Derived.Test.YtdcpoeaddhbjbaaDelF
import Derived.Test.YtdcpoeaddhbjbaaTrails
import Derived.Deep.RegionHeld3
namespace Go.Proofs.Ytdcpoeaddhbjbaa
set_option maxRecDepth 100000
open Go.RowKit

theorem pred_behind (bp : Nat) (pv : Value) (p : List Int) (w0 : World) (hc0 : w0.cell? ⟨bp, 0, none⟩ = some pv) (hp0 : Ints w0 pv p) :
    PredI 89 #[.pointer (some ⟨bp, 0, none⟩)] (fun q => decide (cmpI q p < 0)) w0.heap.size w0 := by
  intro W u x hb hu
  have hc : W.cell? ⟨bp, 0, none⟩ = some pv := (hb.cell (p := ⟨bp, 0, none⟩) (World.block_lt_of_cell? w0 _ hc0)).trans hc0
  have HP := Lib.hid (hp0.below hb (Nat.le_refl _)); have HU := Lib.hid hu
  obtain ⟨a1, n1, c1, rfl⟩ := hu.slice3
  obtain ⟨a2, n2, c2, rfl⟩ := hp0.slice3
  clear hp0 hb hu hc0
  show Calls Try.prog _ #[_, _] W _
  go_enter Try.func89, Try.ntmps89
  go_wp2_with (go_at_call 50; refine (compare_any x p _ _ _ HU.out HP.out).mono ?_; rintro e w' ⟨rfl, rfl⟩)
  go_ret
  exact ⟨rfl, Same.refl _⟩

theorem pred_ahead (bp : Nat) (pv : Value) (p : List Int) (w0 : World) (hc0 : w0.cell? ⟨bp, 0, none⟩ = some pv) (hp0 : Ints w0 pv p) :
    PredI 86 #[.pointer (some ⟨bp, 0, none⟩)] (fun q => decide (0 ≤ cmpI q p) || aboveB q p) w0.heap.size w0 := by
  intro W u x hb hu
  have hc : W.cell? ⟨bp, 0, none⟩ = some pv := (hb.cell (p := ⟨bp, 0, none⟩) (World.block_lt_of_cell? w0 _ hc0)).trans hc0
  have HP := Lib.hid (hp0.below hb (Nat.le_refl _)); have HU := Lib.hid hu
  obtain ⟨a1, n1, c1, rfl⟩ := hu.slice3
  obtain ⟨a2, n2, c2, rfl⟩ := hp0.slice3
  clear hp0 hb hu hc0
  show Calls Try.prog _ #[_, _] W _
  have HC := Lib.hid (compare_any x p _ _ W HU.out HP.out)
  obtain ⟨r, hr⟩ : ∃ r, cmpI x p = r := ⟨_, rfl⟩
  rw [hr] at HC
  simp only [hr]
  clear hr
  by_cases h0 : 0 ≤ r
  · go_enter Try.func86, Try.ntmps86
    go_wp2_with (go_at_call 50; refine HC.out.mono ?_; rintro e w' ⟨rfl, rfl⟩)
    go_ret
    exact ⟨by simp [h0], Same.refl _⟩
  · go_enter Try.func86, Try.ntmps86
    go_wp2_with (first
      | (go_at_call 50; refine HC.out.mono ?_; rintro e w' ⟨rfl, rfl⟩)
      | (go_at_call 29; refine (above_any x p _ _ _ HU.out HP.out).mono ?_; rintro e w' ⟨rfl, hs⟩))
    go_ret
    exact ⟨by simp, hs⟩
end Go.Proofs.Ytdcpoeaddhbjbaa
