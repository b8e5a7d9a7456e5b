/- The walk of the law TreeSizes. -/
import Derived.Test.YtdcpoeaddhbjbaaMade5
import Derived.Test.YtdcpoeaddhbjbaaLive5
import Derived.Test.YtdcpoeaddhbjbaaSizesL
import Derived.IntWalk
namespace Go.Proofs.Ytdcpoeaddhbjbaa
set_option maxRecDepth 100000
open Go.RowKit

set_option maxHeartbeats 8000000 in
set_option maxRecDepth 1000000 in
theorem law_tsizes (t : Tree) (p : List Int) (m : Tree) (v0 v1 v2 : Value) (w : World) (h0 : NodeV w v0 t ∧ szT t ≤ 1048576) (h1 : Ints w v1 p ∧ I64 p) (h2 : NodeV w v2 m ∧ szT m ≤ 1048576) :
    Calls Try.prog 14 #[v0, v1, v2] w (Yes w) := by
  obtain ⟨h0, hs1⟩ := h0
  obtain ⟨h2, hs2⟩ := h2
  obtain ⟨cs, rfl, hn⟩ := h0
  obtain ⟨ds, rfl, hm⟩ := h2
  obtain ⟨a1, n1, c1, a2, n2, c2, a3, n3, c3, rfl⟩ := hn.form
  obtain ⟨d1, e1, f1, d2, e2, f2, d3, e3, f3, rfl⟩ := hm.form
  obtain ⟨pa, pc, rfl⟩ := h1.1.slice
  have hp8 := h1.1.len
  obtain ⟨hbW, hx1, hx2⟩ := two_boxesN w #[.bool t.leaf, .slice a1 n1 c1, .slice a2 n2 c2, .slice a3 n3 c3] #[.bool m.leaf, .slice d1 e1 f1, .slice d2 e2 f2, .slice d3 e3 f3] 26 26
  have BN : BoxN _ _ _ _ _ _ t := ⟨hx1, hn.boxed hbW⟩
  have BM : BoxN _ _ _ _ _ _ m := ⟨hx2, hm.boxed hbW⟩
  have PP : PathP _ _ p := PathP.later h1 hbW
  have LB := Lib.hid hbW
  clear hn hm h1 hbW hx1 hx2
  go_enter Try.func14, Try.ntmps14
  go_upto_region 1 with fail
  generalize World.alloc (World.alloc w _) _ = W at *
  go_wp2_with fail
  refine (live5_any W).mono ?_
  rintro e w1 ⟨rfl, hb⟩
  replace BN := BN.later hb
  replace BM := BM.later hb
  replace PP := PP.later hb
  replace LB := Lib.hid (gr_tr LB.out hb)
  clear hb
  obtain ⟨⟨bnc0, bnc1, bnc2, bnc3⟩, -⟩ := four_facts BN.1
  obtain ⟨⟨bmc0, bmc1, bmc2, bmc3⟩, -⟩ := four_facts BM.1
  go_wp2_with fail
  refine (few_box BN BM PP few5_any).mono ?_
  rintro e w2 ⟨fw, rfl, hb⟩
  replace BN := BN.later hb
  replace BM := BM.later hb
  replace PP := PP.later hb
  replace LB := Lib.hid (gr_tr LB.out hb)
  clear bnc0 bnc1 bnc2 bnc3 bmc0 bmc1 bmc2 bmc3
  clear hb
  cases fw
  · go_wp2_with fail
    go_ret
    exact ⟨rfl, LB.out⟩
  have HSZ := Lib.hid (fun (s : Tree) (h : getT t (p.take (p.length - 1)) = some s) => kids_room h (Nat.le_trans (sz_ge t) hs1))
  have HS1 := Lib.hid hs1; have HS2 := Lib.hid hs2
  clear hs1 hs2
  obtain ⟨⟨bnc0, bnc1, bnc2, bnc3⟩, -⟩ := four_facts BN.1
  obtain ⟨⟨bmc0, bmc1, bmc2, bmc3⟩, -⟩ := four_facts BM.1
  by_cases h0 : p.length = 0
  case pos =>
    have HE := Lib.hid (addE_nil (t := t) (m := m) h0); have HP := Lib.hid (show parentE p = 6 by rw [parentE, if_pos h0]); have HG := Lib.hid (show getT t (p.take (p.length - 1)) = some t by rw [List.eq_nil_of_length_eq_zero h0]; rfl)
    clear h0
    go_wp2_with fail
    refine (add_no BN PP BM HSZ.out HE.out (by decide)).mono ?_
    rintro e w3 ⟨xl3, xa3, an3, ac3, xb3, bn3, bc3, xc3, cn3, cc3, rfl, hn, hb⟩
    have hal := gr_tr hb (gr_al (gr_refl w3) (.cells #[.bool xl3, .slice xa3 an3 ac3, .slice xb3 bn3 bc3, .slice xc3 cn3 cc3] 26))
    have B3 := BoxN.new hn
    replace BN := BN.later hal
    replace BM := BM.later hal
    replace PP := PP.later hal
    replace LB := Lib.hid (gr_tr LB.out hal)
    clear bnc0 bnc1 bnc2 bnc3 bmc0 bmc1 bmc2 bmc3
    clear hn hb hal
    go_upto_region 6 with fail
    generalize World.alloc w3 _ = V3 at *
    go_wp2_with fail
    refine (par PP HP.out).mono ?_
    rintro e w4 ⟨ua, un, uc, rfl, hU, hb⟩
    replace BN := BN.later hb
    replace BM := BM.later hb
    replace B3 := B3.later hb
    replace PP := PP.later hb
    replace LB := Lib.hid (gr_tr LB.out hb)
    have UU := hU
    clear hU hb
    obtain ⟨⟨bnc0, bnc1, bnc2, bnc3⟩, -⟩ := four_facts BN.1
    go_wp2_with fail
    refine (get_yes BN UU HG.out).mono ?_
    rintro e w5 ⟨xl5, xa5, an5, ac5, xb5, bn5, bc5, xc5, cn5, cc5, rfl, hn, hb⟩
    have hal := gr_tr hb (gr_al (gr_refl w5) (.cells #[.bool xl5, .slice xa5 an5 ac5, .slice xb5 bn5 bc5, .slice xc5 cn5 cc5] 26))
    have B5 := BoxN.new hn
    replace BN := BN.later hal
    replace BM := BM.later hal
    replace B3 := B3.later hal
    replace PP := PP.later hal
    replace UU := UU.later hal
    replace LB := Lib.hid (gr_tr LB.out hal)
    clear bnc0 bnc1 bnc2 bnc3
    clear hn hb hal
    go_upto_region 8 with fail
    generalize World.alloc w5 _ = V5 at *
    obtain ⟨⟨b5c0, b5c1, b5c2, b5c3⟩, -⟩ := four_facts B5.1
    go_wp2_with fail
    go_ret
    exact ⟨rfl, LB.out⟩
  case neg =>
    have HP := Lib.hid (show parentE p = 0 by rw [parentE, if_neg h0])
    have H0 := Lib.hid h0
    clear h0
    cases hg : getT t (p.take (p.length - 1))
    case none =>
      have HE := Lib.hid (addE_none (m := m) H0.out hg); have HG := Lib.hid hg
      clear hg
      go_wp2_with fail
      refine (add_no BN PP BM HSZ.out HE.out (by decide)).mono ?_
      rintro e w3 ⟨xl3, xa3, an3, ac3, xb3, bn3, bc3, xc3, cn3, cc3, rfl, hn, hb⟩
      have hal := gr_tr hb (gr_al (gr_refl w3) (.cells #[.bool xl3, .slice xa3 an3 ac3, .slice xb3 bn3 bc3, .slice xc3 cn3 cc3] 26))
      have B3 := BoxN.new hn
      replace BN := BN.later hal
      replace BM := BM.later hal
      replace PP := PP.later hal
      replace LB := Lib.hid (gr_tr LB.out hal)
      clear bnc0 bnc1 bnc2 bnc3 bmc0 bmc1 bmc2 bmc3
      clear hn hb hal
      go_upto_region 6 with fail
      generalize World.alloc w3 _ = V3 at *
      go_wp2_with fail
      refine (par PP HP.out).mono ?_
      rintro e w4 ⟨ua, un, uc, rfl, hU, hb⟩
      replace BN := BN.later hb
      replace BM := BM.later hb
      replace B3 := B3.later hb
      replace PP := PP.later hb
      replace LB := Lib.hid (gr_tr LB.out hb)
      have UU := hU
      clear hU hb
      obtain ⟨⟨bnc0, bnc1, bnc2, bnc3⟩, -⟩ := four_facts BN.1
      go_wp2_with fail
      refine (get_no BN UU HG.out).mono ?_
      rintro e w5 ⟨xl5, xa5, an5, ac5, xb5, bn5, bc5, xc5, cn5, cc5, rfl, hn, hb⟩
      have hal := gr_tr hb (gr_al (gr_refl w5) (.cells #[.bool xl5, .slice xa5 an5 ac5, .slice xb5 bn5 bc5, .slice xc5 cn5 cc5] 26))
      have B5 := BoxN.new hn
      replace BN := BN.later hal
      replace BM := BM.later hal
      replace B3 := B3.later hal
      replace PP := PP.later hal
      replace UU := UU.later hal
      replace LB := Lib.hid (gr_tr LB.out hal)
      clear bnc0 bnc1 bnc2 bnc3
      clear hn hb hal
      go_upto_region 8 with fail
      generalize World.alloc w5 _ = V5 at *
      obtain ⟨⟨b5c0, b5c1, b5c2, b5c3⟩, -⟩ := four_facts B5.1
      go_wp2_with fail
      go_ret
      exact ⟨rfl, LB.out⟩
    case some s =>
      cases hl : s.leaf
      case true =>
        have HE := Lib.hid (addE_leaf (m := m) H0.out hg hl); have HG := Lib.hid hg; have HL := Lib.hid hl
        clear hg hl
        go_wp2_with fail
        refine (add_no BN PP BM HSZ.out HE.out (by decide)).mono ?_
        rintro e w3 ⟨xl3, xa3, an3, ac3, xb3, bn3, bc3, xc3, cn3, cc3, rfl, hn, hb⟩
        have hal := gr_tr hb (gr_al (gr_refl w3) (.cells #[.bool xl3, .slice xa3 an3 ac3, .slice xb3 bn3 bc3, .slice xc3 cn3 cc3] 26))
        have B3 := BoxN.new hn
        replace BN := BN.later hal
        replace BM := BM.later hal
        replace PP := PP.later hal
        replace LB := Lib.hid (gr_tr LB.out hal)
        clear bnc0 bnc1 bnc2 bnc3 bmc0 bmc1 bmc2 bmc3
        clear hn hb hal
        go_upto_region 6 with fail
        generalize World.alloc w3 _ = V3 at *
        go_wp2_with fail
        refine (par PP HP.out).mono ?_
        rintro e w4 ⟨ua, un, uc, rfl, hU, hb⟩
        replace BN := BN.later hb
        replace BM := BM.later hb
        replace B3 := B3.later hb
        replace PP := PP.later hb
        replace LB := Lib.hid (gr_tr LB.out hb)
        have UU := hU
        clear hU hb
        obtain ⟨⟨bnc0, bnc1, bnc2, bnc3⟩, -⟩ := four_facts BN.1
        go_wp2_with fail
        refine (get_yes BN UU HG.out).mono ?_
        rintro e w5 ⟨xl5, xa5, an5, ac5, xb5, bn5, bc5, xc5, cn5, cc5, rfl, hn, hb⟩
        have hal := gr_tr hb (gr_al (gr_refl w5) (.cells #[.bool xl5, .slice xa5 an5 ac5, .slice xb5 bn5 bc5, .slice xc5 cn5 cc5] 26))
        have B5 := BoxN.new hn
        replace BN := BN.later hal
        replace BM := BM.later hal
        replace B3 := B3.later hal
        replace PP := PP.later hal
        replace UU := UU.later hal
        replace LB := Lib.hid (gr_tr LB.out hal)
        clear bnc0 bnc1 bnc2 bnc3
        clear hn hb hal
        go_upto_region 8 with fail
        generalize World.alloc w5 _ = V5 at *
        obtain rfl : xl5 = true := B5.leaf.trans HL.out
        obtain ⟨⟨b5c0, b5c1, b5c2, b5c3⟩, -⟩ := four_facts B5.1
        go_wp2_with fail
        go_ret
        exact ⟨rfl, LB.out⟩
      case false =>
        by_cases hi : lastI p < 0 ∨ (s.kids.length : Int) < lastI p
        case pos =>
          have HE := Lib.hid (addE_pos (m := m) H0.out hg hl hi); have HG := Lib.hid hg; have HL := Lib.hid hl
          clear hg hl hi
          go_wp2_with fail
          refine (add_no BN PP BM HSZ.out HE.out (by decide)).mono ?_
          rintro e w3 ⟨xl3, xa3, an3, ac3, xb3, bn3, bc3, xc3, cn3, cc3, rfl, hn, hb⟩
          have hal := gr_tr hb (gr_al (gr_refl w3) (.cells #[.bool xl3, .slice xa3 an3 ac3, .slice xb3 bn3 bc3, .slice xc3 cn3 cc3] 26))
          have B3 := BoxN.new hn
          replace BN := BN.later hal
          replace BM := BM.later hal
          replace PP := PP.later hal
          replace LB := Lib.hid (gr_tr LB.out hal)
          clear bnc0 bnc1 bnc2 bnc3 bmc0 bmc1 bmc2 bmc3
          clear hn hb hal
          go_upto_region 6 with fail
          generalize World.alloc w3 _ = V3 at *
          go_wp2_with fail
          refine (par PP HP.out).mono ?_
          rintro e w4 ⟨ua, un, uc, rfl, hU, hb⟩
          replace BN := BN.later hb
          replace BM := BM.later hb
          replace B3 := B3.later hb
          replace PP := PP.later hb
          replace LB := Lib.hid (gr_tr LB.out hb)
          have UU := hU
          clear hU hb
          obtain ⟨⟨bnc0, bnc1, bnc2, bnc3⟩, -⟩ := four_facts BN.1
          go_wp2_with fail
          refine (get_yes BN UU HG.out).mono ?_
          rintro e w5 ⟨xl5, xa5, an5, ac5, xb5, bn5, bc5, xc5, cn5, cc5, rfl, hn, hb⟩
          have hal := gr_tr hb (gr_al (gr_refl w5) (.cells #[.bool xl5, .slice xa5 an5 ac5, .slice xb5 bn5 bc5, .slice xc5 cn5 cc5] 26))
          have B5 := BoxN.new hn
          replace BN := BN.later hal
          replace BM := BM.later hal
          replace B3 := B3.later hal
          replace PP := PP.later hal
          replace UU := UU.later hal
          replace LB := Lib.hid (gr_tr LB.out hal)
          clear bnc0 bnc1 bnc2 bnc3
          clear hn hb hal
          go_upto_region 8 with fail
          generalize World.alloc w5 _ = V5 at *
          obtain rfl : xl5 = false := B5.leaf.trans HL.out
          obtain ⟨⟨b5c0, b5c1, b5c2, b5c3⟩, -⟩ := four_facts B5.1
          go_wp2_with fail
          go_ret
          exact ⟨rfl, LB.out⟩
        case neg =>
          obtain ⟨-, hr⟩ := add_is (m := m) (by have := H0.out; omega) hg hl (by omega) (by omega)
          have hsz := sz_added (m := m) (i := lastI p) hg (by omega)
          have hkl : (insT (lastI p) m s).kids.length = s.kids.length + 1 := by show (s.kids.insertIdx _ _).length = _; rw [List.length_insertIdx, if_pos (by omega)]
          have hn80 := HSZ.out s hg
          have HR := Lib.hid hr; have HG := Lib.hid hg; have HZ := Lib.hid hsz; have HKL := Lib.hid hkl
          clear hr hg hl hi hsz hkl
          go_wp2_with fail
          refine (add_yes BN PP BM HSZ.out HR.out).mono ?_
          rintro e w3 ⟨xl3, xa3, an3, ac3, xb3, bn3, bc3, xc3, cn3, cc3, rfl, hn, hb⟩
          have hal := gr_tr hb (gr_al (gr_refl w3) (.cells #[.bool xl3, .slice xa3 an3 ac3, .slice xb3 bn3 bc3, .slice xc3 cn3 cc3] 26))
          have B3 := BoxN.new hn
          replace BN := BN.later hal
          replace BM := BM.later hal
          replace PP := PP.later hal
          replace LB := Lib.hid (gr_tr LB.out hal)
          clear bnc0 bnc1 bnc2 bnc3 bmc0 bmc1 bmc2 bmc3
          clear hn hb hal
          go_upto_region 6 with fail
          generalize World.alloc w3 _ = V3 at *
          go_wp2_with fail
          refine (par PP HP.out).mono ?_
          rintro e w4 ⟨ua, un, uc, rfl, hU, hb⟩
          replace BN := BN.later hb
          replace BM := BM.later hb
          replace B3 := B3.later hb
          replace PP := PP.later hb
          replace LB := Lib.hid (gr_tr LB.out hb)
          have UU := hU
          clear hU hb
          obtain ⟨⟨bnc0, bnc1, bnc2, bnc3⟩, -⟩ := four_facts BN.1
          go_wp2_with fail
          refine (get_yes BN UU HG.out).mono ?_
          rintro e w5 ⟨xl5, xa5, an5, ac5, xb5, bn5, bc5, xc5, cn5, cc5, rfl, hn, hb⟩
          have hal := gr_tr hb (gr_al (gr_refl w5) (.cells #[.bool xl5, .slice xa5 an5 ac5, .slice xb5 bn5 bc5, .slice xc5 cn5 cc5] 26))
          have B5 := BoxN.new hn
          replace BN := BN.later hal
          replace BM := BM.later hal
          replace B3 := B3.later hal
          replace PP := PP.later hal
          replace UU := UU.later hal
          replace LB := Lib.hid (gr_tr LB.out hal)
          clear bnc0 bnc1 bnc2 bnc3
          clear hn hb hal
          go_upto_region 8 with fail
          generalize World.alloc w5 _ = V5 at *
          obtain ⟨⟨b3c0, b3c1, b3c2, b3c3⟩, -⟩ := four_facts B3.1
          go_wp2_with fail
          refine (get_yes B3 UU (get_put _ t s _ HG.out)).mono ?_
          rintro e w10 ⟨xl10, xa10, an10, ac10, xb10, bn10, bc10, xc10, cn10, cc10, rfl, hn, hb⟩
          have hal := gr_tr hb (gr_al (gr_refl w10) (.cells #[.bool xl10, .slice xa10 an10 ac10, .slice xb10 bn10 bc10, .slice xc10 cn10 cc10] 26))
          have B10 := BoxN.new hn
          replace BN := BN.later hal
          replace BM := BM.later hal
          replace B3 := B3.later hal
          replace B5 := B5.later hal
          replace PP := PP.later hal
          replace UU := UU.later hal
          replace LB := Lib.hid (gr_tr LB.out hal)
          clear b3c0 b3c1 b3c2 b3c3
          clear hn hb hal
          go_upto_region 11 with fail
          generalize World.alloc w10 _ = V10 at *
          obtain rfl : cn5 = s.kids.length := B5.kids
          obtain rfl : cn10 = s.kids.length + 1 := B10.kids.trans HKL.out
          have hst := HS1.out; have hsm := HS2.out
          have CA := Lib.hid (sizeL (n := (szT t : Int) + (szT m : Int)) B3 (by have := HZ.out; omega) (by have := HZ.out; omega)); have CN := Lib.hid (sizeL (n := (szT t : Int)) BN (by omega) rfl); have CM := Lib.hid (sizeL (n := (szT m : Int)) BM (by omega) rfl)
          have HK : Hid (∀ w', Below V10.heap.size V10 w' → w'.cell? ⟨w3.heap.size, 0, none⟩ = some (.bool xl3) ∧ w'.cell? ⟨w3.heap.size, 1, none⟩ = some (.slice xa3 an3 ac3) ∧ w'.cell? ⟨w3.heap.size, 2, none⟩ = some (.slice xb3 bn3 bc3) ∧ w'.cell? ⟨w3.heap.size, 3, none⟩ = some (.slice xc3 cn3 cc3) ∧ w'.cell? ⟨w.heap.size, 0, none⟩ = some (.bool t.leaf) ∧ w'.cell? ⟨w.heap.size, 1, none⟩ = some (.slice a1 n1 c1) ∧ w'.cell? ⟨w.heap.size, 2, none⟩ = some (.slice a2 n2 c2) ∧ w'.cell? ⟨w.heap.size, 3, none⟩ = some (.slice a3 n3 c3) ∧ w'.cell? ⟨w.heap.size + 1, 0, none⟩ = some (.bool m.leaf) ∧ w'.cell? ⟨w.heap.size + 1, 1, none⟩ = some (.slice d1 e1 f1) ∧ w'.cell? ⟨w.heap.size + 1, 2, none⟩ = some (.slice d2 e2 f2) ∧ w'.cell? ⟨w.heap.size + 1, 3, none⟩ = some (.slice d3 e3 f3) ∧ w'.cell? ⟨w10.heap.size, 3, none⟩ = some (.slice xc10 (s.kids.length + 1) cc10) ∧ w'.cell? ⟨w5.heap.size, 3, none⟩ = some (.slice xc5 s.kids.length cc5)) := Lib.hid (fun w' hb => by
            obtain ⟨⟨x0, x1, x2, x3⟩, -⟩ := four_facts (B3.later hb).1
            obtain ⟨⟨y0, y1, y2, y3⟩, -⟩ := four_facts (BN.later hb).1
            obtain ⟨⟨z0, z1, z2, z3⟩, -⟩ := four_facts (BM.later hb).1
            exact ⟨x0, x1, x2, x3, y0, y1, y2, y3, z0, z1, z2, z3, (four_facts (B10.later hb).1).1.2.2.2, (four_facts (B5.later hb).1).1.2.2.2⟩)
          obtain ⟨st, hst2⟩ : ∃ st, szT t = st := ⟨_, rfl⟩
          obtain ⟨sm, hsm2⟩ : ∃ sm, szT m = sm := ⟨_, rfl⟩
          rw [hst2] at CA CN hst; rw [hsm2] at CA CM hsm
          obtain ⟨sk, hsk⟩ : ∃ sk, s.kids.length = sk := ⟨_, rfl⟩
          rw [hsk] at HK hn80
          simp only [hsk] at B5 B10
          clear hst2 hsm2 B3 B5 B10 BN BM PP UU HKL HG HR HZ HSZ HS1 HS2 H0 HP
          simp only [hsk]
          clear hsk
          have hw1 : IntKind.i64.wrap ((st : Int) + (sm : Int)) = (st : Int) + (sm : Int) := IntWalk.i64_in _ (by omega)
          have hw2 : IntKind.i64.wrap ((sk : Int) + 1) = (sk : Int) + 1 := IntWalk.i64_in _ (by omega)
          have l := gr_dr (gr_refl V10)
          go_region_held3 (fun w' => w'.cell? ⟨w3.heap.size, 0, none⟩ = some (.bool xl3) ∧ w'.cell? ⟨w3.heap.size, 1, none⟩ = some (.slice xa3 an3 ac3) ∧ w'.cell? ⟨w3.heap.size, 2, none⟩ = some (.slice xb3 bn3 bc3) ∧ w'.cell? ⟨w3.heap.size, 3, none⟩ = some (.slice xc3 cn3 cc3) ∧ w'.cell? ⟨w.heap.size, 0, none⟩ = some (.bool t.leaf) ∧ w'.cell? ⟨w.heap.size, 1, none⟩ = some (.slice a1 n1 c1) ∧ w'.cell? ⟨w.heap.size, 2, none⟩ = some (.slice a2 n2 c2) ∧ w'.cell? ⟨w.heap.size, 3, none⟩ = some (.slice a3 n3 c3) ∧ w'.cell? ⟨w.heap.size + 1, 0, none⟩ = some (.bool m.leaf) ∧ w'.cell? ⟨w.heap.size + 1, 1, none⟩ = some (.slice d1 e1 f1) ∧ w'.cell? ⟨w.heap.size + 1, 2, none⟩ = some (.slice d2 e2 f2) ∧ w'.cell? ⟨w.heap.size + 1, 3, none⟩ = some (.slice d3 e3 f3) ∧ w'.cell? ⟨w10.heap.size, 3, none⟩ = some (.slice xc10 (sk + 1) cc10) ∧ w'.cell? ⟨w5.heap.size, 3, none⟩ = some (.slice xc5 sk cc5))
            (with_reducible exact HK.out _ l)
            (first
              | ((try rw [if_pos (by rfl)]); (try go_simp); go_at_call 52; (with_reducible refine (CA.out _ l).mono ?_); rintro e w11 ⟨rfl, hb5⟩; replace l := gr_tr l hb5; clear hb5; (try dsimp only))
              | ((try rw [if_pos (by rfl)]); (try go_simp); go_at_call 52; (with_reducible refine (CN.out _ l).mono ?_); rintro e w11 ⟨rfl, hb5⟩; replace l := gr_tr l hb5; clear hb5; (try dsimp only))
              | ((try rw [if_pos (by rfl)]); (try go_simp); go_at_call 52; (with_reducible refine (CM.out _ l).mono ?_); rintro e w11 ⟨rfl, hb5⟩; replace l := gr_tr l hb5; clear hb5; (try dsimp only)))
          all_goals
            go_wp2_with fail
            go_ret
            exact ⟨ret_bool (by simp), gr_tr LB.out l⟩
end Go.Proofs.Ytdcpoeaddhbjbaa
