/- The walk of the law TreeDoes. -/
import Derived.Test.YtdcpoeaddhbjbaaMade5
import Derived.Test.YtdcpoeaddhbjbaaLive5
import Derived.Test.YtdcpoeaddhbjbaaDoesL
namespace Go.Proofs.Ytdcpoeaddhbjbaa
set_option maxRecDepth 100000
open Go.RowKit

set_option maxHeartbeats 8000000 in
set_option maxRecDepth 1000000 in
theorem law_tdoes (t : Tree) (p : List Int) (m : Tree) (v0 v1 v2 : Value) (w : World) (h0 : NodeV w v0 t ∧ sizeT t ≤ 1048576) (h1 : Ints w v1 p ∧ I64 p) (h2 : NodeV w v2 m ∧ sizeT m ≤ 1048576) :
    Calls Try.prog 12 #[v0, v1, v2] w (Yes w) := by
  obtain ⟨h0, hs⟩ := h0
  replace h2 := h2.1
  obtain ⟨cs, rfl, hn⟩ := h0
  obtain ⟨ds, rfl, hm⟩ := h2
  obtain ⟨a1, n1, c1, a2, n2, c2, a3, n3, c3, rfl⟩ := hn.form
  obtain ⟨d1, e1, f1, d2, e2, f2, d3, e3, f3, rfl⟩ := hm.form
  obtain ⟨pa, pc, rfl⟩ := h1.1.slice
  have hp8 := h1.1.len
  obtain ⟨hbW, hx1, hx2⟩ := two_boxesN w #[.bool t.leaf, .slice a1 n1 c1, .slice a2 n2 c2, .slice a3 n3 c3] #[.bool m.leaf, .slice d1 e1 f1, .slice d2 e2 f2, .slice d3 e3 f3] 26 26
  have BN : BoxN _ _ _ _ _ _ t := ⟨hx1, hn.boxed hbW⟩
  have BM : BoxN _ _ _ _ _ _ m := ⟨hx2, hm.boxed hbW⟩
  have PP : PathP _ _ p := PathP.later h1 hbW
  have LB := Lib.hid hbW
  clear hn hm h1 hbW hx1 hx2
  go_enter Try.func12, Try.ntmps12
  go_upto_region 1 with fail
  generalize World.alloc (World.alloc w _) _ = W at *
  go_wp2_with fail
  refine (live5_any W).mono ?_
  rintro e w1 ⟨rfl, hb⟩
  replace BN := BN.later hb
  replace BM := BM.later hb
  replace PP := PP.later hb
  replace LB := Lib.hid (gr_tr LB.out hb)
  clear hb
  obtain ⟨⟨bnc0, bnc1, bnc2, bnc3⟩, -⟩ := four_facts BN.1
  obtain ⟨⟨bmc0, bmc1, bmc2, bmc3⟩, -⟩ := four_facts BM.1
  go_wp2_with fail
  refine (few_box BN BM PP few5_any).mono ?_
  rintro e w2 ⟨fw, rfl, hb⟩
  replace BN := BN.later hb
  replace BM := BM.later hb
  replace PP := PP.later hb
  replace LB := Lib.hid (gr_tr LB.out hb)
  clear bnc0 bnc1 bnc2 bnc3 bmc0 bmc1 bmc2 bmc3
  clear hb
  cases fw
  · go_wp2_with fail
    go_ret
    exact ⟨rfl, LB.out⟩
  have HSZ := Lib.hid (fun (s : Tree) (h : getT t (p.take (p.length - 1)) = some s) => kids_room h hs)
  obtain ⟨ge, hge⟩ : ∃ er, getE t p = er := ⟨_, rfl⟩
  have HGE := Lib.hid hge
  clear hge
  obtain ⟨ae, hae⟩ : ∃ er, addE t p m = er := ⟨_, rfl⟩
  have HAE := Lib.hid hae
  clear hae
  obtain ⟨ce, hce⟩ : ∃ er, cutE t p = er := ⟨_, rfl⟩
  have HCE := Lib.hid hce
  clear hce
  clear hs
  obtain ⟨⟨bnc0, bnc1, bnc2, bnc3⟩, -⟩ := four_facts BN.1
  go_wp2_with fail
  refine (rcopy_made BN).mono ?_
  rintro e w3 ⟨xl3, xa3, an3, ac3, xb3, bn3, bc3, xc3, cn3, cc3, rfl, hn, hb⟩
  have hal := gr_tr hb (gr_al (gr_refl w3) (.cells #[.bool xl3, .slice xa3 an3 ac3, .slice xb3 bn3 bc3, .slice xc3 cn3 cc3] 26))
  have B3 := BoxN.new hn
  replace BN := BN.later hal
  replace BM := BM.later hal
  replace PP := PP.later hal
  replace LB := Lib.hid (gr_tr LB.out hal)
  clear bnc0 bnc1 bnc2 bnc3
  clear hn hb hal
  go_upto_region 6 with fail
  generalize World.alloc w3 _ = V3 at *
  obtain ⟨⟨bnc0, bnc1, bnc2, bnc3⟩, -⟩ := four_facts BN.1
  go_wp2_with fail
  refine (gets_made BN PP HGE.out).mono ?_
  rintro e w4 ⟨xl4, xa4, an4, ac4, xb4, bn4, bc4, xc4, cn4, cc4, rfl, hn, hb⟩
  have hal := gr_tr hb (gr_al (gr_refl w4) (.cells #[.bool xl4, .slice xa4 an4 ac4, .slice xb4 bn4 bc4, .slice xc4 cn4 cc4] 26))
  have B4 := BoxN.new hn
  replace BN := BN.later hal
  replace BM := BM.later hal
  replace B3 := B3.later hal
  replace PP := PP.later hal
  replace LB := Lib.hid (gr_tr LB.out hal)
  clear bnc0 bnc1 bnc2 bnc3
  clear hn hb hal
  go_upto_region 7 with fail
  generalize World.alloc w4 _ = V4 at *
  obtain ⟨⟨bnc0, bnc1, bnc2, bnc3⟩, -⟩ := four_facts BN.1
  go_wp2_with fail
  refine (rgets_made BN PP HGE.out).mono ?_
  rintro e w5 ⟨xl5, xa5, an5, ac5, xb5, bn5, bc5, xc5, cn5, cc5, rfl, hn, hb⟩
  have hal := gr_tr hb (gr_al (gr_refl w5) (.cells #[.bool xl5, .slice xa5 an5 ac5, .slice xb5 bn5 bc5, .slice xc5 cn5 cc5] 26))
  have B5 := BoxN.new hn
  replace BN := BN.later hal
  replace BM := BM.later hal
  replace B3 := B3.later hal
  replace B4 := B4.later hal
  replace PP := PP.later hal
  replace LB := Lib.hid (gr_tr LB.out hal)
  clear bnc0 bnc1 bnc2 bnc3
  clear hn hb hal
  go_upto_region 8 with fail
  generalize World.alloc w5 _ = V5 at *
  obtain ⟨⟨bnc0, bnc1, bnc2, bnc3⟩, -⟩ := four_facts BN.1
  obtain ⟨⟨bmc0, bmc1, bmc2, bmc3⟩, -⟩ := four_facts BM.1
  go_wp2_with fail
  refine (puts_made BN PP BM HGE.out).mono ?_
  rintro e w6 ⟨xl6, xa6, an6, ac6, xb6, bn6, bc6, xc6, cn6, cc6, rfl, hn, hb⟩
  have hal := gr_tr hb (gr_al (gr_refl w6) (.cells #[.bool xl6, .slice xa6 an6 ac6, .slice xb6 bn6 bc6, .slice xc6 cn6 cc6] 26))
  have B6 := BoxN.new hn
  replace BN := BN.later hal
  replace BM := BM.later hal
  replace B3 := B3.later hal
  replace B4 := B4.later hal
  replace B5 := B5.later hal
  replace PP := PP.later hal
  replace LB := Lib.hid (gr_tr LB.out hal)
  clear bnc0 bnc1 bnc2 bnc3 bmc0 bmc1 bmc2 bmc3
  clear hn hb hal
  go_upto_region 9 with fail
  generalize World.alloc w6 _ = V6 at *
  obtain ⟨⟨bnc0, bnc1, bnc2, bnc3⟩, -⟩ := four_facts BN.1
  obtain ⟨⟨bmc0, bmc1, bmc2, bmc3⟩, -⟩ := four_facts BM.1
  go_wp2_with fail
  refine (rputs_made BN PP BM HGE.out).mono ?_
  rintro e w7 ⟨xl7, xa7, an7, ac7, xb7, bn7, bc7, xc7, cn7, cc7, rfl, hn, hb⟩
  have hal := gr_tr hb (gr_al (gr_refl w7) (.cells #[.bool xl7, .slice xa7 an7 ac7, .slice xb7 bn7 bc7, .slice xc7 cn7 cc7] 26))
  have B7 := BoxN.new hn
  replace BN := BN.later hal
  replace BM := BM.later hal
  replace B3 := B3.later hal
  replace B4 := B4.later hal
  replace B5 := B5.later hal
  replace B6 := B6.later hal
  replace PP := PP.later hal
  replace LB := Lib.hid (gr_tr LB.out hal)
  clear bnc0 bnc1 bnc2 bnc3 bmc0 bmc1 bmc2 bmc3
  clear hn hb hal
  go_upto_region 10 with fail
  generalize World.alloc w7 _ = V7 at *
  obtain ⟨⟨bnc0, bnc1, bnc2, bnc3⟩, -⟩ := four_facts BN.1
  obtain ⟨⟨bmc0, bmc1, bmc2, bmc3⟩, -⟩ := four_facts BM.1
  go_wp2_with fail
  refine (add_made BN PP BM HSZ.out HAE.out).mono ?_
  rintro e w8 ⟨xl8, xa8, an8, ac8, xb8, bn8, bc8, xc8, cn8, cc8, rfl, hn, hb⟩
  have hal := gr_tr hb (gr_al (gr_refl w8) (.cells #[.bool xl8, .slice xa8 an8 ac8, .slice xb8 bn8 bc8, .slice xc8 cn8 cc8] 26))
  have B8 := BoxN.new hn
  replace BN := BN.later hal
  replace BM := BM.later hal
  replace B3 := B3.later hal
  replace B4 := B4.later hal
  replace B5 := B5.later hal
  replace B6 := B6.later hal
  replace B7 := B7.later hal
  replace PP := PP.later hal
  replace LB := Lib.hid (gr_tr LB.out hal)
  clear bnc0 bnc1 bnc2 bnc3 bmc0 bmc1 bmc2 bmc3
  clear hn hb hal
  go_upto_region 11 with fail
  generalize World.alloc w8 _ = V8 at *
  obtain ⟨⟨bnc0, bnc1, bnc2, bnc3⟩, -⟩ := four_facts BN.1
  obtain ⟨⟨bmc0, bmc1, bmc2, bmc3⟩, -⟩ := four_facts BM.1
  go_wp2_with fail
  refine (radd_made BN PP BM HSZ.out HAE.out).mono ?_
  rintro e w9 ⟨xl9, xa9, an9, ac9, xb9, bn9, bc9, xc9, cn9, cc9, rfl, hn, hb⟩
  have hal := gr_tr hb (gr_al (gr_refl w9) (.cells #[.bool xl9, .slice xa9 an9 ac9, .slice xb9 bn9 bc9, .slice xc9 cn9 cc9] 26))
  have B9 := BoxN.new hn
  replace BN := BN.later hal
  replace BM := BM.later hal
  replace B3 := B3.later hal
  replace B4 := B4.later hal
  replace B5 := B5.later hal
  replace B6 := B6.later hal
  replace B7 := B7.later hal
  replace B8 := B8.later hal
  replace PP := PP.later hal
  replace LB := Lib.hid (gr_tr LB.out hal)
  clear bnc0 bnc1 bnc2 bnc3 bmc0 bmc1 bmc2 bmc3
  clear hn hb hal
  go_upto_region 12 with fail
  generalize World.alloc w9 _ = V9 at *
  obtain ⟨⟨bnc0, bnc1, bnc2, bnc3⟩, -⟩ := four_facts BN.1
  go_wp2_with fail
  refine (cut_made3 BN PP HCE.out).mono ?_
  rintro e w10 ⟨xl10, xa10, an10, ac10, xb10, bn10, bc10, xc10, cn10, cc10, L10, A10, An10, Ac10, B10_, Bn10, Bc10, C10, Cn10, Cc10, rfl, hn, hn2, hb⟩
  obtain ⟨hal, hx1, hx2⟩ := two_boxesN w10 #[.bool xl10, .slice xa10 an10 ac10, .slice xb10 bn10 bc10, .slice xc10 cn10 cc10] #[.bool L10, .slice A10 An10 Ac10, .slice B10_ Bn10 Bc10, .slice C10 Cn10 Cc10] 26 26
  have B10 : BoxN _ _ _ _ _ _ _ := ⟨hx1, hn.boxed hal⟩
  have D10 : BoxN _ _ _ _ _ _ _ := ⟨hx2, hn2.boxed hal⟩
  replace hal := gr_tr hb hal
  replace BN := BN.later hal
  replace BM := BM.later hal
  replace B3 := B3.later hal
  replace B4 := B4.later hal
  replace B5 := B5.later hal
  replace B6 := B6.later hal
  replace B7 := B7.later hal
  replace B8 := B8.later hal
  replace B9 := B9.later hal
  replace PP := PP.later hal
  replace LB := Lib.hid (gr_tr LB.out hal)
  clear bnc0 bnc1 bnc2 bnc3
  clear hn hn2 hb hal hx1 hx2
  go_upto_region 13 with fail
  generalize World.alloc (World.alloc w10 _) _ = V10 at *
  obtain ⟨⟨bnc0, bnc1, bnc2, bnc3⟩, -⟩ := four_facts BN.1
  go_wp2_with fail
  refine (rcut_made3 BN PP HCE.out).mono ?_
  rintro e w11 ⟨xl11, xa11, an11, ac11, xb11, bn11, bc11, xc11, cn11, cc11, L11, A11, An11, Ac11, B11_, Bn11, Bc11, C11, Cn11, Cc11, rfl, hn, hn2, hb⟩
  obtain ⟨hal, hx1, hx2⟩ := two_boxesN w11 #[.bool xl11, .slice xa11 an11 ac11, .slice xb11 bn11 bc11, .slice xc11 cn11 cc11] #[.bool L11, .slice A11 An11 Ac11, .slice B11_ Bn11 Bc11, .slice C11 Cn11 Cc11] 26 26
  have B11 : BoxN _ _ _ _ _ _ _ := ⟨hx1, hn.boxed hal⟩
  have D11 : BoxN _ _ _ _ _ _ _ := ⟨hx2, hn2.boxed hal⟩
  replace hal := gr_tr hb hal
  replace BN := BN.later hal
  replace BM := BM.later hal
  replace B3 := B3.later hal
  replace B4 := B4.later hal
  replace B5 := B5.later hal
  replace B6 := B6.later hal
  replace B7 := B7.later hal
  replace B8 := B8.later hal
  replace B9 := B9.later hal
  replace B10 := B10.later hal
  replace D10 := D10.later hal
  replace PP := PP.later hal
  replace LB := Lib.hid (gr_tr LB.out hal)
  clear bnc0 bnc1 bnc2 bnc3
  clear hn hn2 hb hal hx1 hx2
  go_upto_region 14 with fail
  generalize World.alloc (World.alloc w11 _) _ = V11 at *
  obtain ⟨⟨b4c0, b4c1, b4c2, b4c3⟩, -⟩ := four_facts B4.1
  obtain ⟨⟨b5c0, b5c1, b5c2, b5c3⟩, -⟩ := four_facts B5.1
  go_wp2_with fail
  refine (same4_yes B4 B5).mono ?_
  rintro e w12 ⟨rfl, hb⟩
  replace BN := BN.later hb
  replace BM := BM.later hb
  replace B3 := B3.later hb
  replace B4 := B4.later hb
  replace B5 := B5.later hb
  replace B6 := B6.later hb
  replace B7 := B7.later hb
  replace B8 := B8.later hb
  replace B9 := B9.later hb
  replace B10 := B10.later hb
  replace D10 := D10.later hb
  replace B11 := B11.later hb
  replace D11 := D11.later hb
  replace PP := PP.later hb
  replace LB := Lib.hid (gr_tr LB.out hb)
  clear b4c0 b4c1 b4c2 b4c3 b5c0 b5c1 b5c2 b5c3
  clear hb
  obtain ⟨⟨b6c0, b6c1, b6c2, b6c3⟩, -⟩ := four_facts B6.1
  obtain ⟨⟨b7c0, b7c1, b7c2, b7c3⟩, -⟩ := four_facts B7.1
  go_wp2_with fail
  refine (same4_yes B6 B7).mono ?_
  rintro e w13 ⟨rfl, hb⟩
  replace BN := BN.later hb
  replace BM := BM.later hb
  replace B3 := B3.later hb
  replace B4 := B4.later hb
  replace B5 := B5.later hb
  replace B6 := B6.later hb
  replace B7 := B7.later hb
  replace B8 := B8.later hb
  replace B9 := B9.later hb
  replace B10 := B10.later hb
  replace D10 := D10.later hb
  replace B11 := B11.later hb
  replace D11 := D11.later hb
  replace PP := PP.later hb
  replace LB := Lib.hid (gr_tr LB.out hb)
  clear b6c0 b6c1 b6c2 b6c3 b7c0 b7c1 b7c2 b7c3
  clear hb
  obtain ⟨⟨b8c0, b8c1, b8c2, b8c3⟩, -⟩ := four_facts B8.1
  obtain ⟨⟨b9c0, b9c1, b9c2, b9c3⟩, -⟩ := four_facts B9.1
  go_wp2_with fail
  refine (same4_yes B8 B9).mono ?_
  rintro e w14 ⟨rfl, hb⟩
  replace BN := BN.later hb
  replace BM := BM.later hb
  replace B3 := B3.later hb
  replace B4 := B4.later hb
  replace B5 := B5.later hb
  replace B6 := B6.later hb
  replace B7 := B7.later hb
  replace B8 := B8.later hb
  replace B9 := B9.later hb
  replace B10 := B10.later hb
  replace D10 := D10.later hb
  replace B11 := B11.later hb
  replace D11 := D11.later hb
  replace PP := PP.later hb
  replace LB := Lib.hid (gr_tr LB.out hb)
  clear b8c0 b8c1 b8c2 b8c3 b9c0 b9c1 b9c2 b9c3
  clear hb
  obtain ⟨⟨b10c0, b10c1, b10c2, b10c3⟩, -⟩ := four_facts B10.1
  obtain ⟨⟨b11c0, b11c1, b11c2, b11c3⟩, -⟩ := four_facts B11.1
  go_wp2_with fail
  refine (same4_yes B10 B11).mono ?_
  rintro e w15 ⟨rfl, hb⟩
  replace BN := BN.later hb
  replace BM := BM.later hb
  replace B3 := B3.later hb
  replace B4 := B4.later hb
  replace B5 := B5.later hb
  replace B6 := B6.later hb
  replace B7 := B7.later hb
  replace B8 := B8.later hb
  replace B9 := B9.later hb
  replace B10 := B10.later hb
  replace D10 := D10.later hb
  replace B11 := B11.later hb
  replace D11 := D11.later hb
  replace PP := PP.later hb
  replace LB := Lib.hid (gr_tr LB.out hb)
  clear b10c0 b10c1 b10c2 b10c3 b11c0 b11c1 b11c2 b11c3
  clear hb
  obtain ⟨⟨d10c0, d10c1, d10c2, d10c3⟩, -⟩ := four_facts D10.1
  obtain ⟨⟨d11c0, d11c1, d11c2, d11c3⟩, -⟩ := four_facts D11.1
  go_wp2_with fail
  refine (same4_yes D10 D11).mono ?_
  rintro e w16 ⟨rfl, hb⟩
  replace BN := BN.later hb
  replace BM := BM.later hb
  replace B3 := B3.later hb
  replace B4 := B4.later hb
  replace B5 := B5.later hb
  replace B6 := B6.later hb
  replace B7 := B7.later hb
  replace B8 := B8.later hb
  replace B9 := B9.later hb
  replace B10 := B10.later hb
  replace D10 := D10.later hb
  replace B11 := B11.later hb
  replace D11 := D11.later hb
  replace PP := PP.later hb
  replace LB := Lib.hid (gr_tr LB.out hb)
  clear d10c0 d10c1 d10c2 d10c3 d11c0 d11c1 d11c2 d11c3
  clear hb
  obtain ⟨⟨bnc0, bnc1, bnc2, bnc3⟩, -⟩ := four_facts BN.1
  obtain ⟨⟨b3c0, b3c1, b3c2, b3c3⟩, -⟩ := four_facts B3.1
  go_wp2_with fail
  refine (same4_yes BN B3).mono ?_
  rintro e w17 ⟨rfl, hb⟩
  replace BN := BN.later hb
  replace BM := BM.later hb
  replace B3 := B3.later hb
  replace B4 := B4.later hb
  replace B5 := B5.later hb
  replace B6 := B6.later hb
  replace B7 := B7.later hb
  replace B8 := B8.later hb
  replace B9 := B9.later hb
  replace B10 := B10.later hb
  replace D10 := D10.later hb
  replace B11 := B11.later hb
  replace D11 := D11.later hb
  replace PP := PP.later hb
  replace LB := Lib.hid (gr_tr LB.out hb)
  clear bnc0 bnc1 bnc2 bnc3 b3c0 b3c1 b3c2 b3c3
  clear hb
  go_wp2_with fail
  go_ret
  exact ⟨rfl, LB.out⟩
end Go.Proofs.Ytdcpoeaddhbjbaa
