/- Walks of slices.IndexFunc and slices.DeleteFunc at [][]int, whatever predicate that reads alone. -/
import Derived.Test.YtdcpoeaddhbjbaaDelP
import Derived.Shelf.Abstract
namespace Go.Proofs.Ytdcpoeaddhbjbaa
set_option maxRecDepth 100000
open Go.RowKit

/-- A predicate on paths: in whatever world that lies over w, it answers f, and turns nothing. -/
def PredI (g : FuncId) (lb : Array Value) (f : List Int → Bool) (B : Nat) (w : World) : Prop :=
  ∀ (W : World) (u : Value) (x : List Int), Below B w W → Ints W u x → Calls Try.prog g (#[u] ++ lb) W fun e w' => e = .returned (.bool (f x)) ∧ Same W w'

set_option maxHeartbeats 2000000 in
theorem idxf_any (G : FuncId) (lb : Array Value) (f : List Int → Bool) (eg : ∀ args w, (callFunc G args).run Try.prog w = .ok (.enter G args) w) (B C : Nat) (v : Value) (L : List (List Int)) (w0 w : World)
    (h : OwnL w B v L) (hp : PredI G lb f C w0) (hw : Below C w0 w) :
    Calls Try.prog 112 #[v, .func (.func G) #[] lb] w fun e w' => ∃ r, e = .returned (.int .i64 r) ∧ IdxIs f L r ∧ Same w w' := by
  obtain ⟨a, c, rfl, ha⟩ := h.slice
  have hlen : L.length ≤ 9223372036854775807 := by have := h.len; unfold maxLen at this; omega
  have HO := Lib.hid h; have HP := Lib.hid hp; have HW := Lib.hid hw; have HA := Lib.hid ha
  clear h hp hw ha
  go_enter Try.func112, Try.ntmps112
  go_wp2
  go_loopw [8] (fun i wr => ∃ k : Nat, k ≤ L.length ∧ i = .int .i64 k ∧ Hid (∀ j, j < k → f (L.getD j []) = false) ∧ Hid (Same w wr)) (fun i _ => L.length - (intOf i).toNat)
  case atStart => exact ⟨0, Nat.zero_le _, rfl, Lib.hid (fun j hj => absurd hj (Nat.not_lt_zero _)), Lib.hid (Same.refl w)⟩
  case round =>
    obtain ⟨k, hk, rfl, HF, HS⟩ := hrel
    by_cases hlt : k < L.length
    · obtain ⟨g, cap, u, hv, hcap, hB, hcell, _, hu, _⟩ := (HO.out.same HS.out).elem k hlt
      simp only [Value.slice.injEq] at hv
      obtain ⟨rfl, _, rfl⟩ := hv
      obtain ⟨ua, un, uc, rfl⟩ := hu.ints.slice3
      have HC := Lib.hid (HP.out _ _ _ (HW.out.trans ((HS.out.below C))) hu.ints)
      have hcell0 : wr.cell? ⟨g, 0 + k, none⟩ = some (.slice ua un uc) := by rw [Nat.zero_add]; exact hcell
      cases hq : f (L.getD k []) with
      | true =>
        rw [hq] at HC
        have HQ := Lib.hid hq
        clear hu hq
        go_wp2_with (go_at_fn G; refine HC.out.mono ?_; rintro e w' ⟨rfl, hs⟩)
        go_ret
        exact ⟨_, rfl, .inr ⟨k, hlt, rfl, HQ.out, HF.out⟩, HS.out.trans hs⟩
      | false =>
        rw [hq] at HC
        have HQ := Lib.hid hq
        clear hu hq
        go_wp2_with (go_at_fn G; refine HC.out.mono ?_; rintro e w' ⟨rfl, hs⟩)
        go_roundw
        case rel =>
          refine ⟨k + 1, by omega, by go_num, Lib.hid (fun j hj => ?_), Lib.hid (HS.out.trans hs)⟩
          by_cases e : j = k
          · subst e
            exact HQ.out
          · exact HF.out j (by omega)
        case measure => simp [intOf]; omega
    · have hend : k = L.length := by omega
      subst hend
      go_wp2
      go_ret
      exact ⟨_, rfl, .inl ⟨rfl, HF.out⟩, HS.out⟩
end Go.Proofs.Ytdcpoeaddhbjbaa
