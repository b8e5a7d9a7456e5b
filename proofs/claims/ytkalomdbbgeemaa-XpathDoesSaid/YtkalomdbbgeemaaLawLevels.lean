/- The walk of the law TrailLevels. -/
import Derived.Test.YtkalomdbbgeemaaLaw02
import Derived.Test.YtkalomdbbgeemaaPlain2
namespace Go.Proofs.Ytkalomdbbgeemaa
open Go.RowKit

/-- A literal slice of two slices of ints. -/
theorem lit_two (w : World) (g : Nat) (v1 v2 : Value) (xs ys : List Int) (hg : w.heap.size = g) (h1 : Ints w v1 xs) (h2 : Ints w v2 ys) :
    IntsL (w.alloc (.cells #[v1, v2] 22)) (.slice (some ⟨g, 0, none⟩) 2 2) [xs, ys] := by
  subst hg
  refine ⟨_, 2, [v1, v2], rfl, Nat.le_refl _, by unfold maxLen; omega, rfl, by simp, fun _ => ⟨w.heap.size, 0, rfl, fun j hj => ?_⟩, fun j hj => ?_⟩
  · rw [cell_of_row _ w.heap.size (0 + j) _ _ (0, 0) (heap_alloc_new w _)]
    match j, hj with
    | 0, _ => rfl
    | 1, _ => rfl
  · match j, hj with
    | 0, _ => exact h1.alloc _
    | 1, _ => exact h2.alloc _

/-- What a law says: it returns true; nothing that was there has turned. -/
def True_ (w : World) (e : Ending) (w' : World) : Prop := e = .returned (.bool true) ∧ Below w.heap.size w w'

theorem level_at {xs : List Int} {k : Nat} (h : k < xs.length + 1) : (levelsL xs).getD k [] = xs.take k := by simp [levelsL, List.getD, h]
theorem long_hit {k c : Nat} (h : k ≤ c) : Hid (k = min (k + 1 - 1) c) := by show k = _; omega
theorem long_miss {k m c : Nat} (hm : m = min (k - 1) c) (h : c < k) : Hid (m = min (k + 1 - 1) c) := by show m = _; omega

set_option maxHeartbeats 1000000 in
theorem law_levels (xs ys : List Int) (v1 v2 : Value) (w : World) (h1 : Ints w v1 xs) (h2 : Ints w v2 ys) :
    Calls Try.prog 3 #[v1, v2] w (True_ w) := by
  obtain ⟨a1, c1, e1⟩ := h1.slice
  obtain ⟨a2, c2, e2⟩ := h2.slice
  subst e1 e2
  have hlen1 := h1.len
  by_cases hs : shortB 100 [xs, ys] = true
  · have HS := Lib.hid hs
    obtain ⟨s1, s2⟩ : xs.length ≤ 100 ∧ ys.length ≤ 100 := by simpa [shortB] using hs
    clear hs
    obtain ⟨k1, k2⟩ := cpre_le xs ys
    go_enter Try.func3, Try.ntmps3
    go_wp2_with fail
    refine (live_any _).mono ?_
    rintro e w1 ⟨rfl, hb1⟩
    have g1 := h1.below hb1 (Nat.le_refl _)
    have g2 := h2.below hb1 (Nat.le_refl _)
    go_wp2_with fail
    refine (short_any [xs, ys] _ _ (lit_two w1 _ _ _ xs ys rfl g1 g2)).mono ?_
    rintro e w2 ⟨rfl, hw2⟩
    rw [HS.out]
    have hb2 := gr_al hb1 (.cells #[.slice a1 xs.length c1, .slice a2 ys.length c2] 22)
    rw [hw2] at hb2
    clear hw2 g1 g2 hb1
    have g1 := h1.below hb2 (Nat.le_refl _)
    have g2 := h2.below hb2 (Nat.le_refl _)
    go_wp2_with fail
    refine (levels_any xs _ _ g1 (by omega)).mono ?_
    rintro e w3 ⟨vl, rfl, hol, hb⟩
    have hb3 := gr_tr hb2 hb
    clear hb2 hb g1 g2
    have g1 := h1.below hb3 (Nat.le_refl _)
    have g2 := h2.below hb3 (Nat.le_refl _)
    have hll : (levelsL xs).length = xs.length + 1 := by simp [levelsL]
    have hil := hol.ints (by omega)
    clear hol
    obtain ⟨al, cl, el⟩ : ∃ a c, vl = .slice a (xs.length + 1) c := by obtain ⟨a, c, _, h, _⟩ := hil; exact ⟨a, c, by rw [h, hll]⟩
    subst el
    clear hll
    go_wp2_with fail
    refine (common_any xs ys _ _ _ g1 g2).mono ?_
    rintro e w4 ⟨vc, rfl, hoc, hb⟩
    have hb4 := gr_tr hb3 hb
    have hil4 := hil.below hb (Nat.le_refl _)
    have hc4 := hoc.ints
    clear hil hoc hb hb3 g1 g2
    have g1 := h1.below hb4 (Nat.le_refl _)
    have g2 := h2.below hb4 (Nat.le_refl _)
    obtain ⟨ac, cc, ec⟩ : ∃ a c, vc = .slice a (cpre xs ys) c := by obtain ⟨a, c, h⟩ := hc4.slice; exact ⟨a, c, by rw [h, List.length_take, Nat.min_eq_left k1]⟩
    subst ec
    go_wp2_with fail
    go_loopw [30, 7] (fun i l wr => ∃ k m : Nat, k ≤ xs.length + 1 ∧ i = .int .i64 k ∧ l = .int .i64 m ∧ Hid (m = min (k - 1) (cpre xs ys)) ∧ Same w4 wr) (fun i _ _ => xs.length + 1 - (intOf i).toNat)
    case atStart => exact ⟨0, 0, Nat.zero_le _, rfl, rfl, (by show 0 = _; omega), Same.refl _⟩
    case round =>
      obtain ⟨k, m, hk1, rfl, rfl, HM, hsm⟩ := hrel
      by_cases hlt : k < xs.length + 1
      · have hk : k ≤ xs.length := by omega
        obtain ⟨b, off, cap, vk, hv, hcap, _, hcell, hvk⟩ := hil4.at_ k (by simpa [levelsL] using hlt)
        rw [level_at hlt] at hvk
        simp only [Value.slice.injEq] at hv
        obtain ⟨rfl, hx, rfl⟩ := hv
        clear hx
        obtain ⟨ak, ck, ek⟩ : ∃ a c, vk = .slice a k c := by obtain ⟨a, c, h⟩ := hvk.slice; exact ⟨a, c, by rw [h, List.length_take, Nat.min_eq_left hk]⟩
        subst ek
        have hcell2 := (hsm.cell _).trans hcell
        have iv := hvk.same hsm
        have i1 := g1.same hsm
        have i2 := g2.same hsm
        have hcap2 : xs.length + 1 ≤ cl := by simpa [levelsL] using hcap
        clear hcell hcap
        by_cases hkn : k < xs.length
        · have q1 : decide (xs.take k = xs) = false := by rw [decide_eq_false_iff_not]; intro h; have := congrArg List.length h; simp at this; omega
          have q3 : aboveB (xs.take k) xs = true := above_take hkn
          go_wp2_with fail
          refine (same_any _ _ _ _ _ iv i1).mono ?_
          rintro e w5 ⟨rfl, hs5⟩
          go_wp2_with fail
          refine (above_any _ _ _ _ _ (iv.same hs5) (i1.same hs5)).mono ?_
          rintro e w6 ⟨rfl, hs6⟩
          have hsn := (hsm.trans hs5).trans hs6
          have jv := (iv.same hs5).same hs6
          have j2 := (i2.same hs5).same hs6
          clear iv i1 i2 hs5 hs6 hsm hcell2
          by_cases hsb : xs.take k = ys
          · have q2 : decide (xs.take k = ys) = true := by simpa using hsb
            have HH := Lib.hid (take_hit (ys := ys) hk)
            rw [q2] at HH
            clear hsb
            go_wp2_with fail
            refine (same_any _ _ _ _ _ jv j2).mono ?_
            rintro e w7 ⟨rfl, hs7⟩
            go_wp2
            go_roundw
            case rel => exact ⟨k + 1, k, by omega, by go_num, rfl, long_hit (by simpa using HH.out), hsn.trans hs7⟩
            case measure => simp [intOf]; omega
          · have q2 : decide (xs.take k = ys) = false := by simpa using hsb
            have HH := Lib.hid (take_hit (ys := ys) hk)
            rw [q2] at HH
            clear hsb
            go_wp2_with fail
            refine (same_any _ _ _ _ _ jv j2).mono ?_
            rintro e w7 ⟨rfl, hs7⟩
            go_wp2_with fail
            refine (above_any _ _ _ _ _ (jv.same hs7) (j2.same hs7)).mono ?_
            rintro e w8 ⟨rfl, hs8⟩
            go_wp2
            · have hab : aboveB (xs.take k) ys = true := by assumption
              go_roundw
              case rel => exact ⟨k + 1, k, by omega, by go_num, rfl, long_hit (by have := HH.out; simpa [hab] using this), (hsn.trans hs7).trans hs8⟩
              case measure => simp [intOf]; omega
            · have hab : aboveB (xs.take k) ys = false := by assumption
              go_roundw
              case rel => exact ⟨k + 1, m, by omega, by go_num, rfl, long_miss HM.out (by have := HH.out; simpa [hab] using this), (hsn.trans hs7).trans hs8⟩
              case measure => simp [intOf]; omega
        · have hkn2 : k = xs.length := by omega
          have q1 : decide (xs.take k = xs) = true := by rw [hkn2]; simp
          have HK := Lib.hid hkn2
          clear hkn2
          go_wp2_with fail
          refine (same_any _ _ _ _ _ iv i1).mono ?_
          rintro e w6 ⟨rfl, hs6⟩
          have hsn := hsm.trans hs6
          have jv := iv.same hs6
          have j2 := i2.same hs6
          clear iv i1 i2 hs6 hsm hcell2
          by_cases hsb : xs.take k = ys
          · have q2 : decide (xs.take k = ys) = true := by simpa using hsb
            have HH := Lib.hid (take_hit (ys := ys) hk)
            rw [q2] at HH
            clear hsb
            go_wp2_with fail
            refine (same_any _ _ _ _ _ jv j2).mono ?_
            rintro e w7 ⟨rfl, hs7⟩
            go_wp2
            go_roundw
            case rel => exact ⟨k + 1, k, by omega, by go_num, rfl, long_hit (by simpa using HH.out), hsn.trans hs7⟩
            case measure => simp [intOf]; omega
          · have q2 : decide (xs.take k = ys) = false := by simpa using hsb
            have HH := Lib.hid (take_hit (ys := ys) hk)
            rw [q2] at HH
            clear hsb
            go_wp2_with fail
            refine (same_any _ _ _ _ _ jv j2).mono ?_
            rintro e w7 ⟨rfl, hs7⟩
            go_wp2_with fail
            refine (above_any _ _ _ _ _ (jv.same hs7) (j2.same hs7)).mono ?_
            rintro e w8 ⟨rfl, hs8⟩
            go_wp2
            · have hab : aboveB (xs.take k) ys = true := by assumption
              go_roundw
              case rel => exact ⟨k + 1, k, by omega, by go_num, rfl, long_hit (by have := HH.out; simpa [hab] using this), (hsn.trans hs7).trans hs8⟩
              case measure => simp [intOf]; omega
            · have hab : aboveB (xs.take k) ys = false := by assumption
              go_roundw
              case rel => exact ⟨k + 1, m, by omega, by go_num, rfl, long_miss HM.out (by have := HH.out; simpa [hab] using this), (hsn.trans hs7).trans hs8⟩
              case measure => simp [intOf]; omega
      · have hkn : k = xs.length + 1 := by omega
        subst hkn
        have hm : m = cpre xs ys := by have := HM.out; omega
        subst hm
        clear hlt hk1 HM
        obtain ⟨b, off, cap, vk, hv, hcap, _, hcell, hvk⟩ := hil4.at_ (cpre xs ys) (by simp [levelsL]; omega)
        rw [level_at (by omega)] at hvk
        simp only [Value.slice.injEq] at hv
        obtain ⟨rfl, hx, rfl⟩ := hv
        clear hx
        obtain ⟨ak, ck, ek⟩ : ∃ a c, vk = .slice a (cpre xs ys) c := by obtain ⟨a, c, h⟩ := hvk.slice; exact ⟨a, c, by rw [h, List.length_take, Nat.min_eq_left k1]⟩
        subst ek
        have hcell2 := (hsm.cell _).trans hcell
        have hcap2 : xs.length + 1 ≤ cl := by simpa [levelsL] using hcap
        have iv := hvk.same hsm
        have i1 := g1.same hsm
        have i2 := g2.same hsm
        have ic := hc4.same hsm
        have p2 : cpre xs ys < xs.length + 1 := by omega
        have q1 : decide (xs.take (cpre xs ys) = xs.take (cpre xs ys)) = true := by simp
        have q2 : decide (xs.take (cpre xs ys) = ys.take (cpre ys xs)) = true := by rw [cpre_comm ys xs, ← take_cpre]; simp
        clear hcell hcap
        go_wp2_with fail
        refine (same_any _ _ _ _ _ ic iv).mono ?_
        rintro e w5 ⟨rfl, hs5⟩
        go_wp2_with fail
        refine (common_any _ _ _ _ _ (i2.same hs5) (i1.same hs5)).mono ?_
        rintro e w6 ⟨vd, rfl, hod, hb6⟩
        go_wp2_with fail
        refine (same_any _ _ _ _ _ ((ic.same hs5).below hb6 (Nat.le_refl _)) hod.ints).mono ?_
        rintro e w7 ⟨rfl, hs7⟩
        go_wp2
        go_ret
        exact ⟨rfl, gr_sm (gr_tr (gr_sm (gr_sm hb4 hsm) hs5) hb6) hs7⟩
  · have hsf : shortB 100 [xs, ys] = false := by simpa using hs
    have HS := Lib.hid hsf
    clear hs hsf
    go_enter Try.func3, Try.ntmps3
    go_wp2_with fail
    refine (live_any _).mono ?_
    rintro e w1 ⟨rfl, hb1⟩
    have g1 := h1.below hb1 (Nat.le_refl _)
    have g2 := h2.below hb1 (Nat.le_refl _)
    go_wp2_with fail
    refine (short_any [xs, ys] _ _ (lit_two w1 _ _ _ xs ys rfl g1 g2)).mono ?_
    rintro e w2 ⟨rfl, hw2⟩
    rw [HS.out]
    have hb2 := gr_al hb1 (.cells #[.slice a1 xs.length c1, .slice a2 ys.length c2] 22)
    rw [hw2] at hb2
    clear hw2
    go_wp2
    go_ret
    exact ⟨rfl, hb2⟩
theorem law_levels' (xs ys : List Int) (v1 v2 : Value) (w : World) (h1 : Ints w v1 xs ∧ I64 xs) (h2 : Ints w v2 ys ∧ I64 ys) :
    Calls Try.prog 3 #[v1, v2] w (True_ w) := law_levels xs ys v1 v2 w h1.1 h2.1
end Go.Proofs.Ytkalomdbbgeemaa
