/- Walks of redlineref07.Ahead, Behind. -/
import Derived.Test.YtdcpoeaddhbjbaaRPtL
namespace Go.Proofs.Ytdcpoeaddhbjbaa
set_option maxRecDepth 100000
open Go.RowKit

/-- At each round's head: the point so far in its box; the list; the other boxes. -/
def RAInv (w : World) (B : Nat) (nb : Array Value) (v : Value) (L : List (List Int)) (E : List Int × Int × Int) (wr : World) : Prop :=
  ∃ a n c, wr.heap[w.heap.size + 1 + 1]? = some (.cells #[.slice a n c, .int .i64 E.2.1] 35 (0, 0)) ∧ Own wr B (.slice a n c) E.1 ∧ OwnL wr B v L ∧
    wr.heap[w.heap.size]? = some (.cells nb 26 (0, 0)) ∧ wr.heap[w.heap.size + 1]? = some (.cells #[.slice none 0 0, .int .i64 0] 35 (0, 0)) ∧ Below w.heap.size w wr ∧ B ≤ wr.heap.size
theorem RAInv.later {w wr w' : World} {B : Nat} {nb : Array Value} {v : Value} {L : List (List Int)} {E : List Int × Int × Int} (h : RAInv w B nb v L E wr) (hb : Below wr.heap.size wr w') : RAInv w B nb v L E w' := by
  obtain ⟨a, n, c, h1, h2, h3, h4, h5, h6, h7⟩ := h
  exact ⟨a, n, c, blk_below h1 hb, h2.below hb (Nat.le_refl _), h3.later hb, blk_below h4 hb, blk_below h5 hb, gr_tr h6 hb, Nat.le_trans h7 hb.size⟩
theorem RAInv.put {w wr : World} {B : Nat} {nb : Array Value} {v : Value} {L : List (List Int)} {E : List Int × Int × Int} (h : RAInv w B nb v L E wr) (hB : w.heap.size + 1 + 1 < B) {a : Option Addr} {n c : Nat} {P : List Int} (o : Int) (ho : Own wr B (.slice a n c) P) :
    RAInv w B nb v L (P, o, 0) (put2 wr (w.heap.size + 1 + 1) (.slice a n c) (.int .i64 o)) := by
  obtain ⟨a0, n0, c0, h1, h2, h3, h4, h5, h6, h7⟩ := h
  have hs : (wr.setCell ⟨w.heap.size + 1 + 1, 0, none⟩ (.slice a n c)).heap[w.heap.size + 1 + 1]? = some (.cells #[.slice a n c, .int .i64 E.2.1] 35 (0, 0)) := by
    simp [World.setCell, Array.getElem?_modify, h1]
  refine ⟨a, n, c, two_block h1 _ _, OwnKeep.put2 ho hB, (h3.put h1 (by decide) (by decide) 0 _).put hs (by decide) (by decide) 1 _, (put2_far (by omega)).trans h4, (put2_far (by omega)).trans h5, two_below h6 (by omega), by simpa [put2] using h7⟩

set_option maxHeartbeats 4000000 in
theorem rahead_own (S : Nat → Prop) (t : Tree) (cs : List Value) (p : List Int) (v : Value) (w : World) (h : NodeAt S w cs t) (hp : Ints w v p) (hs : sizeT t ≤ 1500000) :
    Calls Try.prog 46 #[.agg (List.toArray cs), v] w (fun e w' => ∃ a n c, e = .returned (.tuple #[.agg #[.slice a n c, .int .i64 (edgeR t ((leavesL t).filter (fun q => !(decide (0 ≤ cmpI q p) || aboveB q p))) true).2.1], .int .i64 (edgeR t ((leavesL t).filter (fun q => !(decide (0 ≤ cmpI q p) || aboveB q p))) true).2.2]) ∧ Own w' w.heap.size (.slice a n c) (edgeR t ((leavesL t).filter (fun q => !(decide (0 ≤ cmpI q p) || aboveB q p))) true).1 ∧ Below w.heap.size w w') := by
  obtain ⟨a1, n1, c1, a2, n2, c2, a3, n3, c3, rfl⟩ := h.form
  obtain ⟨pa, pn, pc, rfl⟩ := hp.slice3
  obtain ⟨hbw, hbox, hres, hout⟩ := three_boxes w #[.bool t.leaf, .slice a1 n1 c1, .slice a2 n2 c2, .slice a3 n3 c3] #[.slice none 0 0, .int .i64 0] #[.slice none 0 0, .int .i64 0] 26 35 35
  have HB := Lib.hid hbw; have HX := Lib.hid hbox; have HK := Lib.hid hres; have HO := Lib.hid hout; have HN0 := Lib.hid h; have HP0 := Lib.hid hp; have HN := Lib.hid (h.boxed hbw); have HS := Lib.hid hs
  obtain ⟨L, hL⟩ : ∃ L, leavesL t = L := ⟨_, rfl⟩
  have HME := Lib.hid (show ∀ q ∈ L, ∃ s, getT t q = some s from fun q hq => by rw [← hL] at hq; obtain ⟨s, h1, _⟩ := (mem_leaves t q).1 hq; exact ⟨s, h1⟩)
  have HI6 := Lib.hid (show ∀ q ∈ L, I64 q by rw [← hL]; exact leavesL_i64 t hs)
  have HLN := Lib.hid (show L.length * 24 ≤ 140737488351232 by rw [← hL]; exact leavesL_len t hs)
  obtain ⟨E, hE⟩ : ∃ E : Nat → List Int × Int × Int, ∀ k, edgeR t ((L.take k).filter (fun q => !(decide (0 ≤ cmpI q p) || aboveB q p))) true = E k := ⟨_, fun _ => rfl⟩
  have HE0 : Hid (E 0 = ([], 0, 14)) := Lib.hid (by rw [← hE]; exact edge_nil)
  have HES : Hid (∀ k, k < L.length → ∀ s, getT t (L.getD k []) = some s → E (k + 1) = if cmpI (L.getD k []) p < 0 ∧ aboveB (L.getD k []) p = false then (L.getD k [], (s.text.length : Int), 0) else E k) := Lib.hid (fun k hk s hg => by
    rw [← hE, ← hE, filter_take _ L k [] hk]
    generalize L.getD k [] = q at *
    by_cases hc : cmpI q p < 0 ∧ aboveB q p = false
    · rw [if_pos hc, if_pos (by simp [hc.2]; omega)]
      exact edge_snoc hg
    · rw [if_neg hc, if_neg (by
        intro h
        simp at h
        exact hc ⟨by omega, h.2⟩), List.append_nil])
  have HEL : Hid (edgeR t ((leavesL t).filter (fun q => !(decide (0 ≤ cmpI q p) || aboveB q p))) true = E L.length) := Lib.hid (by rw [← hE, List.take_length, hL])
  rw [HEL.out]
  have HLL := Lib.hid hL
  clear h hp hbw hbox hres hout hs hL hE HEL
  go_enter Try.func46, Try.ntmps46
  go_upto_region 3 with fail
  generalize World.alloc (World.alloc (World.alloc w _) _) _ = W at *
  obtain ⟨⟨k0, k1, k2, k3⟩, _⟩ := four_facts HX.out
  have HC := Lib.hid (rleaves_any S t _ W HN.out HS.out)
  go_wp2_with fail
  refine HC.out.mono ?_
  rintro e w1 ⟨v1, rfl, ho1, hb1⟩
  change OwnL w1 W.heap.size v1 (leavesL t) at ho1
  rw [HLL.out] at ho1
  obtain ⟨al, cl, rfl, hal⟩ := ho1.slice
  have HR0 : Hid (RAInv w W.heap.size #[.bool t.leaf, .slice a1 n1 c1, .slice a2 n2 c2, .slice a3 n3 c3] (.slice al L.length cl) L (E 0) w1) := Lib.hid (by
    rw [HE0.out]
    exact ⟨none, 0, 0, blk_below HO.out hb1, Own.nil _ _, ho1, blk_below HX.out hb1, blk_below HK.out hb1, gr_tr HB.out hb1, hb1.size⟩)
  have HAL := Lib.hid hal
  have HWB := Lib.hid (show w.heap.size + 1 + 1 < W.heap.size from lt_of_block HO.out)
  have HWL := Lib.hid (show w.heap.size ≤ W.heap.size from HB.out.size)
  have h8 := HLN.out
  clear ho1 hal hb1 HC k0 k1 k2 k3 HX HK HO HN HB HLL
  generalize W.heap.size = B at *
  go_wp2_with fail
  go_loopw [7, 14] (fun er i wr => ∃ k : Nat, k ≤ L.length ∧ er = .int .i64 (E k).2.2 ∧ i = .int .i64 k ∧ RAInv w B #[.bool t.leaf, .slice a1 n1 c1, .slice a2 n2 c2, .slice a3 n3 c3] (.slice al L.length cl) L (E k) wr) (fun _ i _ => L.length - (intOf i).toNat)
  case atStart => exact ⟨0, Nat.zero_le _, by rw [HE0.out], rfl, HR0.out⟩
  case round =>
    obtain ⟨k, hk, rfl, rfl, hr⟩ := hrel
    have HR := Lib.hid hr
    clear HR0 hr
    by_cases hlt : k < L.length
    · obtain ⟨g, rfl⟩ := HAL.out (by omega)
      obtain ⟨xa, xn, xc, -, -, hol, -, -, hbw, -⟩ := HR.out
      obtain ⟨g', cap', u, hv, hcap, hBg, hcell, -, hou, -⟩ := hol.elem k hlt
      simp only [Value.slice.injEq, Option.some.injEq, Addr.mk.injEq, and_true] at hv
      obtain ⟨rfl, -, rfl⟩ := hv
      obtain ⟨aq, nq, cq, rfl⟩ := hou.ints.slice3
      obtain ⟨s, hs⟩ := HME.out _ (getD_mem' hlt)
      have HST := Lib.hid (HES.out k hlt s hs)
      have HI := Lib.hid (HI6.out _ (getD_mem' hlt))
      have HG := Lib.hid hs; have HOU := Lib.hid hou; have HBW := Lib.hid hbw
      have HC1 := Lib.hid (rcompare_any (L.getD k []) p _ _ wr hou.ints (HP0.out.below hbw (Nat.le_refl _)))
      clear hol hou hs hbw
      generalize L.getD k [] = q at *
      go_wp2_with fail
      refine HC1.out.mono ?_
      rintro e w2 ⟨rfl, hs2⟩
      have l2 := sm_below hs2
      clear hs2 HC1 hcell
      by_cases hc : cmpI q p < 0
      · have d1 : decide (cmpI q p < 0) = true := by simpa using hc
        have HC2 := Lib.hid (rabove_any q p _ _ w2 (HOU.out.ints.below l2 (Nat.le_refl _)) (HP0.out.below (gr_tr HBW.out l2) (Nat.le_refl _)))
        have HCC := Lib.hid hc
        have L2 := Lib.hid l2
        clear hc l2
        go_wp2_with fail
        refine HC2.out.mono ?_
        rintro e w3 ⟨rfl, hs3⟩
        have l3 := gr_tr L2.out (sm_below hs3)
        clear hs3 HC2 d1 L2
        cases hab : aboveB q p
        · have hst : E (k + 1) = (q, (s.text.length : Int), 0) := by rw [HST.out, if_pos ⟨HCC.out, hab⟩]
          have hr3 := HR.out.later l3
          have hout : Own w3 B (.slice aq nq cq) q := HOU.out.below l3 (Nat.le_refl _)
          have HC3 := Lib.hid (rend_any S t s _ q (.slice aq nq cq) w3 (HN0.out.later (gr_tr HBW.out l3) (Nat.le_refl _)) hout.ints HI.out HG.out)
          obtain ⟨_, _, _, -, -, -, hnx, -, -, -⟩ := id hr3
          obtain ⟨⟨k0, k1, k2, k3⟩, _⟩ := four_facts hnx
          have HR3 := Lib.hid hr3; have HOU3 := Lib.hid hout; have HSS := Lib.hid hst
          clear hab hst hr3 hout hnx l3 HCC
          go_wp2_with fail
          refine HC3.out.mono ?_
          rintro e w4 ⟨rfl, hb4⟩
          have hr4 := HR3.out.later hb4
          have HR5 := Lib.hid (hr4.put HWB.out (s.text.length : Int) (HOU3.out.below hb4 (Nat.le_refl _)))
          obtain ⟨_, _, _, hox, -, -, -, -, -, -⟩ := id hr4
          obtain ⟨⟨q0, q1⟩, ⟨m0, m1⟩⟩ := two_facts hox
          clear k0 k1 k2 k3 hr4 hox hb4 HC3
          go_wp2_with fail
          go_roundw
          case rel => exact ⟨k + 1, by omega, by rw [HSS.out], by go_num, by rw [HSS.out]; exact HR5.out⟩
          case measure => simp [intOf]; omega
        · have HSS := Lib.hid (show E (k + 1) = E k by rw [HST.out, if_neg (fun h => by rw [hab] at h; exact absurd h.2 (by decide))])
          have HR5 := Lib.hid (HR.out.later l3)
          clear hab l3
          go_wp2_with fail
          go_roundw
          case rel => exact ⟨k + 1, by omega, by rw [HSS.out], by go_num, by rw [HSS.out]; exact HR5.out⟩
          case measure => simp [intOf]; omega
      · have d1 : decide (cmpI q p < 0) = false := by simpa using hc
        have HSS := Lib.hid (show E (k + 1) = E k by rw [HST.out, if_neg (fun h => hc h.1)])
        have HR5 := Lib.hid (HR.out.later l2)
        clear hc l2
        go_wp2_with fail
        go_roundw
        case rel => exact ⟨k + 1, by omega, by rw [HSS.out], by go_num, by rw [HSS.out]; exact HR5.out⟩
        case measure => simp [intOf]; omega
    · have hkn : k = L.length := by omega
      subst hkn
      obtain ⟨xa, xn, xc, hox, hown, -, -, hrx, hbw, -⟩ := HR.out
      obtain ⟨⟨k0, k1⟩, _⟩ := two_facts hox
      obtain ⟨⟨q0, q1⟩, ⟨m0, m1⟩⟩ := two_facts hrx
      have HF := Lib.hid (two_block hrx (.slice xa xn xc) (.int .i64 (E L.length).2.1))
      have HW := Lib.hid (two_below (u0 := .slice xa xn xc) (u1 := .int .i64 (E L.length).2.1) hbw (show w.heap.size ≤ w.heap.size + 1 by omega))
      have HV := Lib.hid ((OwnKeep.put2 hown (g := w.heap.size + 1) (u0 := .slice xa xn xc) (u1 := .int .i64 (E L.length).2.1) (by have := HWB.out; omega)).mono HWL.out)
      clear hox hown hrx hbw
      go_wp2_with fail
      have hf := HF.out; have hw := HW.out; have hv := HV.out
      simp only [put2] at hf hw hv
      generalize World.setCell (World.setCell wr _ _) _ _ = wf at *
      obtain ⟨⟨j0, j1⟩, _⟩ := two_facts hf
      exact bodyPost_ret (v := .tuple #[.agg #[.slice xa xn xc, .int .i64 (E L.length).2.1], .int .i64 (E L.length).2.2]) (by simp [results, Try.results46, go_sem, j0, j1]) rfl ⟨xa, xn, xc, rfl, hv, hw⟩

set_option maxHeartbeats 4000000 in
theorem rbehind_own (S : Nat → Prop) (t : Tree) (cs : List Value) (p : List Int) (v : Value) (w : World) (h : NodeAt S w cs t) (hp : Ints w v p) (hs : sizeT t ≤ 1500000) :
    Calls Try.prog 48 #[.agg (List.toArray cs), v] w (fun e w' => ∃ a n c, e = .returned (.tuple #[.agg #[.slice a n c, .int .i64 (edgeR t ((leavesL t).filter (fun q => !decide (cmpI q p < 0))) false).2.1], .int .i64 (edgeR t ((leavesL t).filter (fun q => !decide (cmpI q p < 0))) false).2.2]) ∧ Own w' w.heap.size (.slice a n c) (edgeR t ((leavesL t).filter (fun q => !decide (cmpI q p < 0))) false).1 ∧ Below w.heap.size w w') := by
  obtain ⟨a1, n1, c1, a2, n2, c2, a3, n3, c3, rfl⟩ := h.form
  obtain ⟨pa, pn, pc, rfl⟩ := hp.slice3
  obtain ⟨hbw, hbox, hres⟩ := two_boxes w #[.bool t.leaf, .slice a1 n1 c1, .slice a2 n2 c2, .slice a3 n3 c3] #[.slice none 0 0, .int .i64 0] 26 35
  have HB := Lib.hid hbw; have HX := Lib.hid hbox; have HK := Lib.hid hres; have HP0 := Lib.hid hp; have HN := Lib.hid (h.boxed hbw); have HS := Lib.hid hs
  obtain ⟨L, hL⟩ : ∃ L, leavesL t = L := ⟨_, rfl⟩
  have HLN := Lib.hid (show L.length * 24 ≤ 140737488351232 by rw [← hL]; exact leavesL_len t hs)
  obtain ⟨E, hE⟩ : ∃ E, edgeR t ((leavesL t).filter (fun q => !decide (cmpI q p < 0))) false = E := ⟨_, rfl⟩
  rw [hE]
  have HEN : Hid ((L.take L.length).filter (fun q => !decide (cmpI q p < 0)) = [] → E = ([], 0, 14)) := Lib.hid (fun hn => by
    rw [List.take_length] at hn
    rw [← hE, hL, hn]
    exact edge_nil)
  have HEH : Hid (∀ k, k < L.length → (L.take k).filter (fun q => !decide (cmpI q p < 0)) = [] → 0 ≤ cmpI (L.getD k []) p → E = (L.getD k [], 0, 0)) := Lib.hid (fun k hk hn hc => by
    have hfl : L.filter (fun q => !decide (cmpI q p < 0)) = (L.take k).filter (fun q => !decide (cmpI q p < 0)) ++ (L.drop k).filter (fun q => !decide (cmpI q p < 0)) := by rw [← List.filter_append, List.take_append_drop]
    have e : L.getD k [] = L[k] := by simp [hk]
    rw [e] at hc ⊢
    rw [← hE, hL, hfl, hn, List.nil_append, List.drop_eq_getElem_cons hk, List.filter_cons, if_pos (by simp; omega)]
    exact edge_head)
  have HEF : Hid (∀ k, k < L.length → (L.take k).filter (fun q => !decide (cmpI q p < 0)) = [] → cmpI (L.getD k []) p < 0 → (L.take (k + 1)).filter (fun q => !decide (cmpI q p < 0)) = []) := Lib.hid (fun k hk hn hc => by
    rw [filter_take _ L k [] hk, hn, List.nil_append, if_neg (by simpa using hc)])
  have HLL := Lib.hid hL
  clear h hp hbw hbox hres hs hL hE
  go_enter Try.func48, Try.ntmps48
  go_upto_region 1 with fail
  generalize World.alloc (World.alloc w _) _ = W at *
  obtain ⟨⟨k0, k1, k2, k3⟩, _⟩ := four_facts HX.out
  have HC := Lib.hid (rleaves_any S t _ W HN.out HS.out)
  go_wp2_with fail
  refine HC.out.mono ?_
  rintro e w1 ⟨v1, rfl, ho1, hb1⟩
  change OwnL w1 W.heap.size v1 (leavesL t) at ho1
  rw [HLL.out] at ho1
  obtain ⟨al, cl, rfl, hal⟩ := ho1.slice
  have HO1 := Lib.hid ho1; have HK1 := Lib.hid (blk_below HK.out hb1); have HB1 := Lib.hid (gr_tr HB.out hb1)
  have HAL := Lib.hid hal
  have HWB := Lib.hid (show w.heap.size + 1 < W.heap.size from lt_of_block HK.out)
  have HWL := Lib.hid (show w.heap.size ≤ W.heap.size from HB.out.size)
  have h8 := HLN.out
  clear ho1 hal hb1 HC k0 k1 k2 k3 HX HK HN HB HLL
  generalize W.heap.size = B at *
  go_wp2_with fail
  go_loopw [11] (fun i wr => ∃ k : Nat, k ≤ L.length ∧ i = .int .i64 k ∧ (L.take k).filter (fun q => !decide (cmpI q p < 0)) = [] ∧ OwnL wr B (.slice al L.length cl) L ∧ wr.heap[w.heap.size + 1]? = some (.cells #[.slice none 0 0, .int .i64 0] 35 (0, 0)) ∧ Below w.heap.size w wr) (fun i _ => L.length - (intOf i).toNat)
  case atStart => exact ⟨0, Nat.zero_le _, rfl, rfl, HO1.out, HK1.out, HB1.out⟩
  case round =>
    obtain ⟨k, hk, rfl, hnil, hol, hrx, hbw⟩ := hrel
    have HNIL := Lib.hid hnil; have HOL := Lib.hid hol; have HRX := Lib.hid hrx; have HBW := Lib.hid hbw
    clear HO1 HK1 HB1 hnil hol hrx hbw
    by_cases hlt : k < L.length
    · obtain ⟨g, rfl⟩ := HAL.out (by omega)
      obtain ⟨g', cap', u, hv, hcap, hBg, hcell, -, hou, -⟩ := HOL.out.elem k hlt
      simp only [Value.slice.injEq, Option.some.injEq, Addr.mk.injEq, and_true] at hv
      obtain ⟨rfl, -, rfl⟩ := hv
      obtain ⟨aq, nq, cq, rfl⟩ := hou.ints.slice3
      have HOU := Lib.hid hou
      have HF1 := Lib.hid (fun h => HEH.out k hlt HNIL.out h)
      have HF2 := Lib.hid (fun h => HEF.out k hlt HNIL.out h)
      have HC1 := Lib.hid (rcompare_any (L.getD k []) p _ _ wr hou.ints (HP0.out.below HBW.out (Nat.le_refl _)))
      clear hou
      generalize L.getD k [] = q at *
      go_wp2_with fail
      refine HC1.out.mono ?_
      rintro e w2 ⟨rfl, hs2⟩
      have l2 := sm_below hs2
      clear hs2 HC1 hcell
      by_cases hc : 0 ≤ cmpI q p
      · have d1 : decide (0 ≤ cmpI q p) = true := by simpa using hc
        have HE := Lib.hid (HF1.out hc)
        have hrx := blk_below HRX.out l2
        obtain ⟨⟨q0, q1⟩, ⟨m0, m1⟩⟩ := two_facts hrx
        have HF := Lib.hid (two_block hrx (.slice aq nq cq) (.int .i64 0))
        have HW := Lib.hid (two_below (u0 := .slice aq nq cq) (u1 := .int .i64 0) (gr_tr HBW.out l2) (show w.heap.size ≤ w.heap.size + 1 by omega))
        have HV := Lib.hid ((OwnKeep.put2 (HOU.out.below l2 (Nat.le_refl _)) (g := w.heap.size + 1) (u0 := .slice aq nq cq) (u1 := .int .i64 0) HWB.out).mono HWL.out)
        clear hc hrx l2
        go_wp2_with fail
        have hf := HF.out; have hw := HW.out; have hv := HV.out
        simp only [put2] at hf hw hv
        generalize World.setCell (World.setCell w2 _ _) _ _ = wf at *
        obtain ⟨⟨j0, j1⟩, _⟩ := two_facts hf
        exact bodyPost_ret (v := .tuple #[.agg #[.slice aq nq cq, .int .i64 0], .int .i64 0]) (by simp [results, Try.results48, go_sem, j0, j1]) rfl (by rw [HE.out]; exact ⟨aq, nq, cq, rfl, hv, hw⟩)
      · have d1 : decide (0 ≤ cmpI q p) = false := by simpa using hc
        have HN5 := Lib.hid (HF2.out (by omega)); have HO5 := Lib.hid (HOL.out.later l2); have HR5 := Lib.hid (blk_below HRX.out l2); have HB5 := Lib.hid (gr_tr HBW.out l2)
        clear hc l2
        go_wp2_with fail
        go_roundw
        case rel => exact ⟨k + 1, by omega, by go_num, HN5.out, HO5.out, HR5.out, HB5.out⟩
        case measure => simp [intOf]; omega
    · have hkn : k = L.length := by omega
      subst hkn
      have HE := Lib.hid (HEN.out HNIL.out)
      obtain ⟨⟨q0, q1⟩, ⟨m0, m1⟩⟩ := two_facts HRX.out
      have HF := Lib.hid (two_block HRX.out (.slice none 0 0) (.int .i64 0))
      have HW := Lib.hid (two_below (u0 := .slice none 0 0) (u1 := .int .i64 0) HBW.out (show w.heap.size ≤ w.heap.size + 1 by omega))
      go_wp2_with fail
      have hf := HF.out; have hw := HW.out
      simp only [put2] at hf hw
      generalize World.setCell (World.setCell wr _ _) _ _ = wf at *
      obtain ⟨⟨j0, j1⟩, _⟩ := two_facts hf
      exact bodyPost_ret (v := .tuple #[.agg #[.slice none 0 0, .int .i64 0], .int .i64 14]) (by simp [results, Try.results48, go_sem, j0, j1]) rfl (by rw [HE.out]; exact ⟨none, 0, 0, rfl, Own.nil _ _, hw⟩)
end Go.Proofs.Ytdcpoeaddhbjbaa
