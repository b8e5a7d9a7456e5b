/- Walk of slices.DeleteFunc at [][]int, whatever predicate that reads alone. -/
import Derived.Test.YtdcpoeaddhbjbaaDel7
namespace Go.Proofs.Ytdcpoeaddhbjbaa
set_option maxRecDepth 100000
open Go.RowKit

theorem zero_row (w : World) : (zeroValue 27).run Try.prog w = .ok (.slice none 0 0) w := by
  obtain ⟨i, hi, hz, _, _⟩ := info_parts info_ints
  have h2 : (typeInfo 27).run Try.prog w = .ok i w := by simp [typeInfo, hi]
  simp [zeroValue, h2, hz]

/-- The clear of what lies behind. -/
theorem clear_tail {w : World} {B g cap i : Nat} {L : List (List Int)} (h : OwnL w B (.slice (some ⟨g, 0, none⟩) L.length cap) L) (hi : i < L.length) (ty : TypeId) :
    (Builtin.clear_ #[38] ty #[.slice (some ⟨g, i, none⟩) (L.length - i) (cap - i)]).run Try.prog w = .ok (.tuple #[]) (w.setCells g i (List.replicate (L.length - i) (.slice none 0 0))) := by
  refine Lib.run_clear_slice w _ 27 ty _ Try.underlying38 zero_row rfl rfl g i _ _ (by omega) (fun j hj => ?_) (fun j hj => ?_)
  · obtain ⟨g', cap', u, hv, _, _, hc, _⟩ := h.elem (i + j) (by omega)
    simp only [Value.slice.injEq, Option.some.injEq, Addr.mk.injEq] at hv
    obtain ⟨⟨rfl, _⟩, _⟩ := hv
    rw [hc]
    rfl
  · obtain ⟨g', cap', u, hv, _, _, _, hf, _⟩ := h.elem (i + j) (by omega)
    simp only [Value.slice.injEq, Option.some.injEq, Addr.mk.injEq] at hv
    obtain ⟨⟨rfl, _⟩, _⟩ := hv
    exact hf

set_option maxHeartbeats 2000000 in
theorem delf_any (G : FuncId) (lb : Array Value) (f : List Int → Bool) (eg : ∀ args w, (callFunc G args).run Try.prog w = .ok (.enter G args) w) (B C : Nat) (hCB : C ≤ B) (v : Value) (L : List (List Int)) (w0 w : World)
    (h : OwnL w B v L) (hp : PredI G lb f C w0) (hw : Below C w0 w) :
    Calls Try.prog 85 #[v, .func (.func G) #[] lb] w fun e w' => ∃ v', e = .returned v' ∧ OwnL w' B v' (L.filter (fun x => !f x)) ∧ Below B w w' := by
  obtain ⟨a, c, rfl, ha⟩ := h.slice
  have hlen : L.length ≤ 9223372036854775807 := by have := h.len; unfold maxLen at this; omega
  have HO := Lib.hid h; have HP := Lib.hid hp; have HW := Lib.hid hw; have HA := Lib.hid ha
  clear h hp hw ha
  go_enter Try.func85, Try.ntmps85
  go_wp2_with fail
  refine (idxf_any G lb f eg B C _ L w0 _ HO.out HP.out HW.out).mono ?_
  rintro e w1 ⟨r, rfl, hr, hs1⟩
  have HS1 := Lib.hid hs1
  rcases hr with ⟨rfl, hn⟩ | ⟨i0, hi0, rfl, hf1, hf2⟩
  · have HN := Lib.hid hn
    clear hn hs1
    go_wp2
    go_ret
    exact ⟨_, rfl, by rw [filter_none HN.out]; exact HO.out.same HS1.out, HS1.out.below B⟩
  · have HI := Lib.hid (DelInv.start hi0 hf1 hf2)
    clear hf1 hf2 hs1
    have hne : ((i0 : Int) == -1) = false := by rw [beq_eq_false_iff_ne]; omega
    obtain ⟨g, rfl⟩ := HA.out (by omega)
    go_wp2
    go_loopw [5, 6] (fun i j wr => ∃ (m k : Nat) (L' : List (List Int)), i = .int .i64 m ∧ j = .int .i64 k ∧ k ≤ L.length ∧ m < k ∧ Hid (DelInv f L L' m k) ∧ Hid (OwnL wr B (.slice (some ⟨g, 0, none⟩) L.length c) L') ∧ Hid (Below B w wr)) (fun _ j _ => L.length - (intOf j).toNat)
    case atStart => exact ⟨i0, i0 + 1, L, rfl, by go_num, by omega, by omega, HI.out, HO.out.same HS1.out, HS1.out.below B⟩
    case round =>
      obtain ⟨m, k, L', rfl, rfl, hk, hmk, HD, HL, HB⟩ := hrel
      have hL' := HD.out.1
      by_cases hlt : k < L.length
      · obtain ⟨g1, c1, u, hv, hcap, hBg, hcell, -, hu, -⟩ := HL.out.elem k (by omega)
        simp only [Value.slice.injEq, Option.some.injEq, Addr.mk.injEq] at hv
        obtain ⟨⟨rfl, -, -⟩, -, rfl⟩ := hv
        rw [HD.out.2.2.2.2 k (Nat.le_refl _)] at hu
        obtain ⟨ua, un, uc, rfl⟩ := hu.ints.slice3
        have HU := Lib.hid hu
        have HC := Lib.hid (HP.out _ _ _ (HW.out.trans (HB.out.mono hCB)) hu.ints)
        have HX := Lib.hid hlt
        clear hu
        cases hq : f (L.getD k []) with
        | true =>
          rw [hq] at HC
          have HQ := Lib.hid hq
          clear hq
          go_wp2_with (first | (go_at_fn G; refine HC.out.mono ?_; rintro e w2 ⟨rfl, hs⟩) | go_in)
          go_roundw
          case rel => exact ⟨m, k + 1, L', rfl, by go_num, by omega, by omega, HD.out.drop HX.out HQ.out, HL.out.same hs, HB.out.trans (hs.below B)⟩
          case measure => simp [intOf]; omega
        | false =>
          rw [hq] at HC
          have HQ := Lib.hid hq
          clear hq
          have HST : Hid (∀ w2, Same wr w2 → w2.cell? ⟨g, m, none⟩ ≠ none ∧ w2.frozen? ⟨g, m, none⟩ = false ∧ OwnL (w2.setCell ⟨g, m, none⟩ (.slice ua un uc)) B (.slice (some ⟨g, 0, none⟩) L.length c) (L'.set m (L.getD k [])) ∧ Below B w2 (w2.setCell ⟨g, m, none⟩ (.slice ua un uc))) := fun w2 hs => by
            have hl2 := HL.out.same hs
            obtain ⟨g2, c2, u2, hv2, _, _, hc2, hf2, _, hset⟩ := hl2.elem m (by omega)
            simp only [Value.slice.injEq, Option.some.injEq, Addr.mk.injEq] at hv2
            obtain ⟨⟨rfl, _, _⟩, _, rfl⟩ := hv2
            obtain ⟨q1, q2⟩ := hset _ _ (HU.out.same hs)
            exact ⟨by rw [hc2]; simp, hf2, q1, q2⟩
          go_wp2_with (first | (go_at_fn G; refine HC.out.mono ?_; rintro e w2 ⟨rfl, hs⟩; obtain ⟨x1, x2, x3, x4⟩ := HST.out w2 hs; obtain ⟨x0, x1⟩ := Option.ne_none_iff_exists'.1 x1; have X3 := Lib.hid x3; have X4 := Lib.hid x4; clear x3 x4) | go_in)
          go_roundw
          case rel => exact ⟨m + 1, k + 1, L'.set m (L.getD k []), by go_num, by go_num, by omega, by omega, HD.out.keep HX.out HQ.out, X3.out, (HB.out.trans (hs.below B)).trans X4.out⟩
          case measure => simp [intOf]; omega
      · have hend : k = L.length := by omega
        subst hend
        have hcl : ∀ ty, (Builtin.clear_ #[38] ty #[.slice (some ⟨g, m, none⟩) (L.length - m) (c - m)]).run Try.prog wr = .ok (.tuple #[]) (wr.setCells g m (List.replicate (L.length - m) (.slice none 0 0))) := fun ty => by
          have := clear_tail (by rw [hL']; exact HL.out) (i := m) (by omega) ty
          rwa [hL'] at this
        have hcl0 : ∀ ty, (Builtin.clear_ #[38] ty #[.slice (some ⟨g, 0 + m, none⟩) (L.length - m) (c - m)]).run Try.prog wr = .ok (.tuple #[]) (wr.setCells g m (List.replicate (L.length - m) (.slice none 0 0))) := fun ty => by rw [Nat.zero_add]; exact hcl ty
        have hcap : L.length ≤ c := by
          obtain ⟨g1, c1, u, hv, hcap, _⟩ := HL.out.elem m (by omega)
          simp only [Value.slice.injEq, Option.some.injEq, Addr.mk.injEq] at hv
          obtain ⟨_, _, rfl⟩ := hv
          omega
        have HZ := Lib.hid (OwnL.cut (i := m) (by rw [hL']; exact HL.out) (by omega) (List.replicate (L.length - m) (.slice none 0 0)))
        go_wp2
        go_ret
        refine ⟨_, rfl, ?_, HB.out.trans HZ.out.2⟩
        rw [← HD.out.done]
        exact HZ.out.1
end Go.Proofs.Ytdcpoeaddhbjbaa
