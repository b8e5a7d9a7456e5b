/- The walk of the law TreePuts. -/
import Derived.Test.YtdcpoeaddhbjbaaMade5
import Derived.Test.YtdcpoeaddhbjbaaLive5
namespace Go.Proofs.Ytdcpoeaddhbjbaa
set_option maxRecDepth 100000
open Go.RowKit

set_option maxHeartbeats 8000000 in
set_option maxRecDepth 1000000 in
theorem law_tputs (t : Tree) (p : List Int) (m : Tree) (q : List Int) (v0 v1 v2 v3 : Value) (w : World) (h0 : NodeV w v0 t) (h1 : Ints w v1 p ∧ I64 p) (h2 : NodeV w v2 m) (h3 : Ints w v3 q ∧ I64 q) :
    Calls Try.prog 5 #[v0, v1, v2, v3] w (Yes w) := by
  obtain ⟨cs, rfl, hn⟩ := h0
  obtain ⟨ds, rfl, hm⟩ := h2
  obtain ⟨a1, n1, c1, a2, n2, c2, a3, n3, c3, rfl⟩ := hn.form
  obtain ⟨d1, e1, f1, d2, e2, f2, d3, e3, f3, rfl⟩ := hm.form
  obtain ⟨pa, pc, rfl⟩ := h1.1.slice
  obtain ⟨qa, qc, rfl⟩ := h3.1.slice
  have hq8 := h3.1.len
  have hp8 := h1.1.len
  obtain ⟨hbW, hx1, hx2⟩ := two_boxesN w #[.bool t.leaf, .slice a1 n1 c1, .slice a2 n2 c2, .slice a3 n3 c3] #[.bool m.leaf, .slice d1 e1 f1, .slice d2 e2 f2, .slice d3 e3 f3] 26 26
  have BN : BoxN _ _ _ _ _ _ t := ⟨hx1, hn.boxed hbW⟩
  have BM : BoxN _ _ _ _ _ _ m := ⟨hx2, hm.boxed hbW⟩
  have PP : PathP _ _ p := PathP.later h1 hbW
  have QQ : PathP _ _ q := PathP.later h3 hbW
  have LB := Lib.hid hbW
  clear hn hm h1 hbW hx1 hx2 h3
  go_enter Try.func5, Try.ntmps5
  go_upto_region 1 with fail
  generalize World.alloc (World.alloc w _) _ = W at *
  go_wp2_with fail
  refine (live5_any W).mono ?_
  rintro e w1 ⟨rfl, hb⟩
  replace BN := BN.later hb
  replace BM := BM.later hb
  replace PP := PP.later hb
  replace QQ := QQ.later hb
  replace LB := Lib.hid (gr_tr LB.out hb)
  clear hb
  obtain ⟨⟨bnc0, bnc1, bnc2, bnc3⟩, -⟩ := four_facts BN.1
  obtain ⟨⟨bmc0, bmc1, bmc2, bmc3⟩, -⟩ := four_facts BM.1
  go_wp2_with fail
  refine (few_box BN BM PP few5_any).mono ?_
  rintro e w2 ⟨fw, rfl, hb⟩
  replace BN := BN.later hb
  replace BM := BM.later hb
  replace PP := PP.later hb
  replace QQ := QQ.later hb
  replace LB := Lib.hid (gr_tr LB.out hb)
  clear bnc0 bnc1 bnc2 bnc3 bmc0 bmc1 bmc2 bmc3
  clear hb
  cases fw
  · go_wp2_with fail
    go_ret
    exact ⟨rfl, LB.out⟩
  by_cases hql : q.length ≤ 50
  case neg =>
    have hq2 : (50 : Int) < (q.length : Int) := by omega
    clear hql
    go_wp2_with fail
    go_ret
    exact ⟨rfl, LB.out⟩
  have hq2 : ¬ (50 : Int) < (q.length : Int) := by omega
  clear hql
  obtain ⟨⟨bnc0, bnc1, bnc2, bnc3⟩, -⟩ := four_facts BN.1
  cases hg : getT t p
  case none =>
    have HG := Lib.hid hg
    clear hg
    go_wp2_with fail
    refine (get_no BN PP HG.out).mono ?_
    rintro e w3 ⟨l3, a3, an3, ac3, b3, bn3, bc3, c3, cn3, cc3, rfl, hn, hb⟩
    have hal := gr_tr hb (gr_al (gr_refl w3) (.cells #[.bool l3, .slice a3 an3 ac3, .slice b3 bn3 bc3, .slice c3 cn3 cc3] 26))
    have B3 := BoxN.new hn
    replace BN := BN.later hal
    replace BM := BM.later hal
    replace PP := PP.later hal
    replace QQ := QQ.later hal
    replace LB := Lib.hid (gr_tr LB.out hal)
    clear bnc0 bnc1 bnc2 bnc3
    clear hn hb hal
    go_upto_region 6 with fail
    generalize World.alloc w3 _ = V3 at *
    obtain ⟨⟨bnc0, bnc1, bnc2, bnc3⟩, -⟩ := four_facts BN.1
    obtain ⟨⟨bmc0, bmc1, bmc2, bmc3⟩, -⟩ := four_facts BM.1
    go_wp2_with fail
    refine (put_no BN PP BM HG.out).mono ?_
    rintro e w4 ⟨l4, a4, an4, ac4, b4, bn4, bc4, c4, cn4, cc4, rfl, hn, hb⟩
    have hal := gr_tr hb (gr_al (gr_refl w4) (.cells #[.bool l4, .slice a4 an4 ac4, .slice b4 bn4 bc4, .slice c4 cn4 cc4] 26))
    have B4 := BoxN.new hn
    replace BN := BN.later hal
    replace BM := BM.later hal
    replace B3 := B3.later hal
    replace PP := PP.later hal
    replace QQ := QQ.later hal
    replace LB := Lib.hid (gr_tr LB.out hal)
    clear bnc0 bnc1 bnc2 bnc3 bmc0 bmc1 bmc2 bmc3
    clear hn hb hal
    go_upto_region 7 with fail
    generalize World.alloc w4 _ = V4 at *
    obtain ⟨⟨b3c0, b3c1, b3c2, b3c3⟩, -⟩ := four_facts B3.1
    obtain ⟨⟨b4c0, b4c1, b4c2, b4c3⟩, -⟩ := four_facts B4.1
    go_wp2_with fail
    refine (same_zero B3).mono ?_
    rintro e w5 ⟨rfl, hb⟩
    replace BN := BN.later hb
    replace BM := BM.later hb
    replace B3 := B3.later hb
    replace B4 := B4.later hb
    replace PP := PP.later hb
    replace QQ := QQ.later hb
    replace LB := Lib.hid (gr_tr LB.out hb)
    clear b3c0 b3c1 b3c2 b3c3 b4c0 b4c1 b4c2 b4c3
    clear hb
    obtain ⟨⟨b4c0, b4c1, b4c2, b4c3⟩, -⟩ := four_facts B4.1
    go_wp2_with fail
    refine (same_zero B4).mono ?_
    rintro e w6 ⟨rfl, hb⟩
    replace BN := BN.later hb
    replace BM := BM.later hb
    replace B3 := B3.later hb
    replace B4 := B4.later hb
    replace PP := PP.later hb
    replace QQ := QQ.later hb
    replace LB := Lib.hid (gr_tr LB.out hb)
    clear b4c0 b4c1 b4c2 b4c3
    clear hb
    go_wp2_with fail
    go_ret
    exact ⟨rfl, LB.out⟩
  case some s =>
    have HG := Lib.hid hg
    clear hg
    go_wp2_with fail
    refine (get_yes BN PP HG.out).mono ?_
    rintro e w3 ⟨l3, a3, an3, ac3, b3, bn3, bc3, c3, cn3, cc3, rfl, hn, hb⟩
    have hal := gr_tr hb (gr_al (gr_refl w3) (.cells #[.bool l3, .slice a3 an3 ac3, .slice b3 bn3 bc3, .slice c3 cn3 cc3] 26))
    have B3 := BoxN.new hn
    replace BN := BN.later hal
    replace BM := BM.later hal
    replace PP := PP.later hal
    replace QQ := QQ.later hal
    replace LB := Lib.hid (gr_tr LB.out hal)
    clear bnc0 bnc1 bnc2 bnc3
    clear hn hb hal
    go_upto_region 6 with fail
    generalize World.alloc w3 _ = V3 at *
    obtain ⟨⟨bnc0, bnc1, bnc2, bnc3⟩, -⟩ := four_facts BN.1
    obtain ⟨⟨bmc0, bmc1, bmc2, bmc3⟩, -⟩ := four_facts BM.1
    go_wp2_with fail
    refine (put_yes BN PP BM HG.out).mono ?_
    rintro e w4 ⟨l4, a4, an4, ac4, b4, bn4, bc4, c4, cn4, cc4, rfl, hn, hb⟩
    have hal := gr_tr hb (gr_al (gr_refl w4) (.cells #[.bool l4, .slice a4 an4 ac4, .slice b4 bn4 bc4, .slice c4 cn4 cc4] 26))
    have B4 := BoxN.new hn
    replace BN := BN.later hal
    replace BM := BM.later hal
    replace B3 := B3.later hal
    replace PP := PP.later hal
    replace QQ := QQ.later hal
    replace LB := Lib.hid (gr_tr LB.out hal)
    clear bnc0 bnc1 bnc2 bnc3 bmc0 bmc1 bmc2 bmc3
    clear hn hb hal
    go_upto_region 7 with fail
    generalize World.alloc w4 _ = V4 at *
    obtain ⟨⟨b4c0, b4c1, b4c2, b4c3⟩, -⟩ := four_facts B4.1
    go_wp2_with fail
    refine (get_yes B4 PP (get_put m t s p HG.out)).mono ?_
    rintro e w5 ⟨l5, a5, an5, ac5, b5, bn5, bc5, c5, cn5, cc5, rfl, hn, hb⟩
    have hal := gr_tr hb (gr_al (gr_refl w5) (.cells #[.bool l5, .slice a5 an5 ac5, .slice b5 bn5 bc5, .slice c5 cn5 cc5] 26))
    have B5 := BoxN.new hn
    replace BN := BN.later hal
    replace BM := BM.later hal
    replace B3 := B3.later hal
    replace B4 := B4.later hal
    replace PP := PP.later hal
    replace QQ := QQ.later hal
    replace LB := Lib.hid (gr_tr LB.out hal)
    clear b4c0 b4c1 b4c2 b4c3
    clear hn hb hal
    go_upto_region 12 with fail
    generalize World.alloc w5 _ = V5 at *
    obtain ⟨⟨b3c0, b3c1, b3c2, b3c3⟩, -⟩ := four_facts B3.1
    obtain ⟨⟨b4c0, b4c1, b4c2, b4c3⟩, -⟩ := four_facts B4.1
    go_wp2_with fail
    refine (put_yes B4 PP B3 (get_put m t s p HG.out)).mono ?_
    rintro e w6 ⟨l6, a6, an6, ac6, b6, bn6, bc6, c6, cn6, cc6, rfl, hn, hb⟩
    have hal := gr_tr hb (gr_al (gr_refl w6) (.cells #[.bool l6, .slice a6 an6 ac6, .slice b6 bn6 bc6, .slice c6 cn6 cc6] 26))
    have B6 := BoxN.new hn
    replace BN := BN.later hal
    replace BM := BM.later hal
    replace B3 := B3.later hal
    replace B4 := B4.later hal
    replace B5 := B5.later hal
    replace PP := PP.later hal
    replace QQ := QQ.later hal
    replace LB := Lib.hid (gr_tr LB.out hal)
    clear b3c0 b3c1 b3c2 b3c3 b4c0 b4c1 b4c2 b4c3
    clear hn hb hal
    go_upto_region 13 with fail
    generalize World.alloc w6 _ = V6 at *
    obtain ⟨⟨b5c0, b5c1, b5c2, b5c3⟩, -⟩ := four_facts B5.1
    obtain ⟨⟨bmc0, bmc1, bmc2, bmc3⟩, -⟩ := four_facts BM.1
    go_wp2_with fail
    refine (same_yes B5 BM rfl).mono ?_
    rintro e w7 ⟨rfl, hb⟩
    replace BN := BN.later hb
    replace BM := BM.later hb
    replace B3 := B3.later hb
    replace B4 := B4.later hb
    replace B5 := B5.later hb
    replace B6 := B6.later hb
    replace PP := PP.later hb
    replace QQ := QQ.later hb
    replace LB := Lib.hid (gr_tr LB.out hb)
    clear b5c0 b5c1 b5c2 b5c3 bmc0 bmc1 bmc2 bmc3
    clear hb
    obtain ⟨⟨b6c0, b6c1, b6c2, b6c3⟩, -⟩ := four_facts B6.1
    obtain ⟨⟨bnc0, bnc1, bnc2, bnc3⟩, -⟩ := four_facts BN.1
    go_wp2_with fail
    refine (same_yes B6 BN ((put_put m s t s p HG.out).trans (put_get t s p HG.out))).mono ?_
    rintro e w8 ⟨rfl, hb⟩
    replace BN := BN.later hb
    replace BM := BM.later hb
    replace B3 := B3.later hb
    replace B4 := B4.later hb
    replace B5 := B5.later hb
    replace B6 := B6.later hb
    replace PP := PP.later hb
    replace QQ := QQ.later hb
    replace LB := Lib.hid (gr_tr LB.out hb)
    clear b6c0 b6c1 b6c2 b6c3 bnc0 bnc1 bnc2 bnc3
    clear hb
    by_cases h1 : p = q
    case pos =>
      have H1 := Lib.hid (decide_eq_true h1)
      clear h1
      go_wp2_with fail
      refine (path_same PP QQ H1.out).mono ?_
      rintro e w9 ⟨rfl, hb⟩
      replace BN := BN.later hb
      replace BM := BM.later hb
      replace B3 := B3.later hb
      replace B4 := B4.later hb
      replace B5 := B5.later hb
      replace B6 := B6.later hb
      replace PP := PP.later hb
      replace QQ := QQ.later hb
      replace LB := Lib.hid (gr_tr LB.out hb)
      clear hb
      go_wp2_with fail
      go_ret
      exact ⟨rfl, LB.out⟩
    have H1 := Lib.hid h1
    clear h1
    go_wp2_with fail
    refine (path_same PP QQ (decide_eq_false H1.out)).mono ?_
    rintro e w9 ⟨rfl, hb⟩
    replace BN := BN.later hb
    replace BM := BM.later hb
    replace B3 := B3.later hb
    replace B4 := B4.later hb
    replace B5 := B5.later hb
    replace B6 := B6.later hb
    replace PP := PP.later hb
    replace QQ := QQ.later hb
    replace LB := Lib.hid (gr_tr LB.out hb)
    clear hb
    cases h2 : aboveB p q
    case true =>
      have H2 := Lib.hid h2
      clear h2
      go_wp2_with fail
      refine (path_above PP QQ H2.out).mono ?_
      rintro e w10 ⟨rfl, hb⟩
      replace BN := BN.later hb
      replace BM := BM.later hb
      replace B3 := B3.later hb
      replace B4 := B4.later hb
      replace B5 := B5.later hb
      replace B6 := B6.later hb
      replace PP := PP.later hb
      replace QQ := QQ.later hb
      replace LB := Lib.hid (gr_tr LB.out hb)
      clear hb
      go_wp2_with fail
      go_ret
      exact ⟨rfl, LB.out⟩
    have H2 := Lib.hid h2
    clear h2
    go_wp2_with fail
    refine (path_above PP QQ H2.out).mono ?_
    rintro e w10 ⟨rfl, hb⟩
    replace BN := BN.later hb
    replace BM := BM.later hb
    replace B3 := B3.later hb
    replace B4 := B4.later hb
    replace B5 := B5.later hb
    replace B6 := B6.later hb
    replace PP := PP.later hb
    replace QQ := QQ.later hb
    replace LB := Lib.hid (gr_tr LB.out hb)
    clear hb
    cases h3 : aboveB q p
    case true =>
      have H3 := Lib.hid h3
      clear h3
      go_wp2_with fail
      refine (path_above QQ PP H3.out).mono ?_
      rintro e w11 ⟨rfl, hb⟩
      replace BN := BN.later hb
      replace BM := BM.later hb
      replace B3 := B3.later hb
      replace B4 := B4.later hb
      replace B5 := B5.later hb
      replace B6 := B6.later hb
      replace PP := PP.later hb
      replace QQ := QQ.later hb
      replace LB := Lib.hid (gr_tr LB.out hb)
      clear hb
      go_wp2_with fail
      go_ret
      exact ⟨rfl, LB.out⟩
    have H3 := Lib.hid h3
    clear h3
    go_wp2_with fail
    refine (path_above QQ PP H3.out).mono ?_
    rintro e w11 ⟨rfl, hb⟩
    replace BN := BN.later hb
    replace BM := BM.later hb
    replace B3 := B3.later hb
    replace B4 := B4.later hb
    replace B5 := B5.later hb
    replace B6 := B6.later hb
    replace PP := PP.later hb
    replace QQ := QQ.later hb
    replace LB := Lib.hid (gr_tr LB.out hb)
    clear hb
    obtain ⟨⟨bnc0, bnc1, bnc2, bnc3⟩, -⟩ := four_facts BN.1
    have HO := Lib.hid (get_other m t s p q HG.out H1.out H2.out H3.out)
    cases hx : getT t q
    case none =>
      have HX := Lib.hid hx
      clear hx
      go_wp2_with fail
      refine (get_no BN QQ HX.out).mono ?_
      rintro e w12 ⟨l12, a12, an12, ac12, b12, bn12, bc12, c12, cn12, cc12, rfl, hn, hb⟩
      have hal := gr_tr hb (gr_al (gr_refl w12) (.cells #[.bool l12, .slice a12 an12 ac12, .slice b12 bn12 bc12, .slice c12 cn12 cc12] 26))
      have B12 := BoxN.new hn
      replace BN := BN.later hal
      replace BM := BM.later hal
      replace B3 := B3.later hal
      replace B4 := B4.later hal
      replace B5 := B5.later hal
      replace B6 := B6.later hal
      replace PP := PP.later hal
      replace QQ := QQ.later hal
      replace LB := Lib.hid (gr_tr LB.out hal)
      clear bnc0 bnc1 bnc2 bnc3
      clear hn hb hal
      go_upto_region 18 with fail
      generalize World.alloc w12 _ = V12 at *
      obtain ⟨⟨b4c0, b4c1, b4c2, b4c3⟩, -⟩ := four_facts B4.1
      go_wp2_with fail
      refine (get_no B4 QQ (HO.out.trans HX.out)).mono ?_
      rintro e w13 ⟨l13, a13, an13, ac13, b13, bn13, bc13, c13, cn13, cc13, rfl, hn, hb⟩
      have hal := gr_tr hb (gr_al (gr_refl w13) (.cells #[.bool l13, .slice a13 an13 ac13, .slice b13 bn13 bc13, .slice c13 cn13 cc13] 26))
      have B13 := BoxN.new hn
      replace BN := BN.later hal
      replace BM := BM.later hal
      replace B3 := B3.later hal
      replace B4 := B4.later hal
      replace B5 := B5.later hal
      replace B6 := B6.later hal
      replace B12 := B12.later hal
      replace PP := PP.later hal
      replace QQ := QQ.later hal
      replace LB := Lib.hid (gr_tr LB.out hal)
      clear b4c0 b4c1 b4c2 b4c3
      clear hn hb hal
      go_upto_region 19 with fail
      generalize World.alloc w13 _ = V13 at *
      obtain ⟨⟨b12c0, b12c1, b12c2, b12c3⟩, -⟩ := four_facts B12.1
      obtain ⟨⟨b13c0, b13c1, b13c2, b13c3⟩, -⟩ := four_facts B13.1
      go_wp2_with fail
      refine (same_yes B12 B13 rfl).mono ?_
      rintro e w14 ⟨rfl, hb⟩
      replace BN := BN.later hb
      replace BM := BM.later hb
      replace B3 := B3.later hb
      replace B4 := B4.later hb
      replace B5 := B5.later hb
      replace B6 := B6.later hb
      replace B12 := B12.later hb
      replace B13 := B13.later hb
      replace PP := PP.later hb
      replace QQ := QQ.later hb
      replace LB := Lib.hid (gr_tr LB.out hb)
      clear b12c0 b12c1 b12c2 b12c3 b13c0 b13c1 b13c2 b13c3
      clear hb
      go_wp2_with fail
      go_ret
      exact ⟨rfl, LB.out⟩
    case some x =>
      have HX := Lib.hid hx
      clear hx
      go_wp2_with fail
      refine (get_yes BN QQ HX.out).mono ?_
      rintro e w12 ⟨l12, a12, an12, ac12, b12, bn12, bc12, c12, cn12, cc12, rfl, hn, hb⟩
      have hal := gr_tr hb (gr_al (gr_refl w12) (.cells #[.bool l12, .slice a12 an12 ac12, .slice b12 bn12 bc12, .slice c12 cn12 cc12] 26))
      have B12 := BoxN.new hn
      replace BN := BN.later hal
      replace BM := BM.later hal
      replace B3 := B3.later hal
      replace B4 := B4.later hal
      replace B5 := B5.later hal
      replace B6 := B6.later hal
      replace PP := PP.later hal
      replace QQ := QQ.later hal
      replace LB := Lib.hid (gr_tr LB.out hal)
      clear bnc0 bnc1 bnc2 bnc3
      clear hn hb hal
      go_upto_region 18 with fail
      generalize World.alloc w12 _ = V12 at *
      obtain ⟨⟨b4c0, b4c1, b4c2, b4c3⟩, -⟩ := four_facts B4.1
      go_wp2_with fail
      refine (get_yes B4 QQ (HO.out.trans HX.out)).mono ?_
      rintro e w13 ⟨l13, a13, an13, ac13, b13, bn13, bc13, c13, cn13, cc13, rfl, hn, hb⟩
      have hal := gr_tr hb (gr_al (gr_refl w13) (.cells #[.bool l13, .slice a13 an13 ac13, .slice b13 bn13 bc13, .slice c13 cn13 cc13] 26))
      have B13 := BoxN.new hn
      replace BN := BN.later hal
      replace BM := BM.later hal
      replace B3 := B3.later hal
      replace B4 := B4.later hal
      replace B5 := B5.later hal
      replace B6 := B6.later hal
      replace B12 := B12.later hal
      replace PP := PP.later hal
      replace QQ := QQ.later hal
      replace LB := Lib.hid (gr_tr LB.out hal)
      clear b4c0 b4c1 b4c2 b4c3
      clear hn hb hal
      go_upto_region 19 with fail
      generalize World.alloc w13 _ = V13 at *
      obtain ⟨⟨b12c0, b12c1, b12c2, b12c3⟩, -⟩ := four_facts B12.1
      obtain ⟨⟨b13c0, b13c1, b13c2, b13c3⟩, -⟩ := four_facts B13.1
      go_wp2_with fail
      refine (same_yes B12 B13 rfl).mono ?_
      rintro e w14 ⟨rfl, hb⟩
      replace BN := BN.later hb
      replace BM := BM.later hb
      replace B3 := B3.later hb
      replace B4 := B4.later hb
      replace B5 := B5.later hb
      replace B6 := B6.later hb
      replace B12 := B12.later hb
      replace B13 := B13.later hb
      replace PP := PP.later hb
      replace QQ := QQ.later hb
      replace LB := Lib.hid (gr_tr LB.out hb)
      clear b12c0 b12c1 b12c2 b12c3 b13c0 b13c1 b13c2 b13c3
      clear hb
      go_wp2_with fail
      go_ret
      exact ⟨rfl, LB.out⟩
end Go.Proofs.Ytdcpoeaddhbjbaa
