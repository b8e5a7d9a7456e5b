/- The walk of the law TreeBack. -/
import Derived.Test.YtdcpoeaddhbjbaaMade5
import Derived.Test.YtdcpoeaddhbjbaaLive5
import Derived.Test.YtdcpoeaddhbjbaaBackL
import Derived.Deep.DeepCutAuto
import Derived.IntWalk
namespace Go.Proofs.Ytdcpoeaddhbjbaa
set_option maxRecDepth 100000
open Go.RowKit

set_option maxHeartbeats 8000000 in
set_option maxRecDepth 1000000 in
theorem law_tback (t : Tree) (p : List Int) (m : Tree) (v0 v1 v2 : Value) (w : World) (h0 : NodeV w v0 t ∧ sizeT t ≤ 1048576) (h1 : Ints w v1 p ∧ I64 p) (h2 : NodeV w v2 m ∧ sizeT m ≤ 1048576) :
    Calls Try.prog 13 #[v0, v1, v2] w (Yes w) := by
  obtain ⟨h0, hs⟩ := h0
  replace h2 := h2.1
  obtain ⟨cs, rfl, hn⟩ := h0
  obtain ⟨ds, rfl, hm⟩ := h2
  obtain ⟨a1, n1, c1, a2, n2, c2, a3, n3, c3, rfl⟩ := hn.form
  obtain ⟨d1, e1, f1, d2, e2, f2, d3, e3, f3, rfl⟩ := hm.form
  obtain ⟨pa, pc, rfl⟩ := h1.1.slice
  have hp8 := h1.1.len
  obtain ⟨hbW, hx1, hx2⟩ := two_boxesN w #[.bool t.leaf, .slice a1 n1 c1, .slice a2 n2 c2, .slice a3 n3 c3] #[.bool m.leaf, .slice d1 e1 f1, .slice d2 e2 f2, .slice d3 e3 f3] 26 26
  have BN : BoxN _ _ _ _ _ _ t := ⟨hx1, hn.boxed hbW⟩
  have BM : BoxN _ _ _ _ _ _ m := ⟨hx2, hm.boxed hbW⟩
  have PP : PathP _ _ p := PathP.later h1 hbW
  have LB := Lib.hid hbW
  clear hn hm h1 hbW hx1 hx2
  go_enter Try.func13, Try.ntmps13
  go_upto_region 1 with fail
  generalize World.alloc (World.alloc w _) _ = W at *
  go_wp2_with fail
  refine (live5_any W).mono ?_
  rintro e w1 ⟨rfl, hb⟩
  replace BN := BN.later hb
  replace BM := BM.later hb
  replace PP := PP.later hb
  replace LB := Lib.hid (gr_tr LB.out hb)
  clear hb
  obtain ⟨⟨bnc0, bnc1, bnc2, bnc3⟩, -⟩ := four_facts BN.1
  obtain ⟨⟨bmc0, bmc1, bmc2, bmc3⟩, -⟩ := four_facts BM.1
  go_wp2_with fail
  refine (few_box BN BM PP few5_any).mono ?_
  rintro e w2 ⟨fw, rfl, hb⟩
  replace BN := BN.later hb
  replace BM := BM.later hb
  replace PP := PP.later hb
  replace LB := Lib.hid (gr_tr LB.out hb)
  clear bnc0 bnc1 bnc2 bnc3 bmc0 bmc1 bmc2 bmc3
  clear hb
  cases fw
  · go_wp2_with fail
    go_ret
    exact ⟨rfl, LB.out⟩
  have hpp : p.length ≤ 9223372036854775807 := by omega
  have HSZ := Lib.hid (fun (s : Tree) (h : getT t (p.take (p.length - 1)) = some s) => kids_room h hs)
  obtain ⟨er, he⟩ : ∃ er, addE t p m = er := ⟨_, rfl⟩
  have HE := Lib.hid he
  clear he hs
  obtain ⟨⟨bnc0, bnc1, bnc2, bnc3⟩, -⟩ := four_facts BN.1
  obtain ⟨⟨bmc0, bmc1, bmc2, bmc3⟩, -⟩ := four_facts BM.1
  go_wp2_with fail
  refine (add_made BN PP BM HSZ.out HE.out).mono ?_
  rintro e w3 ⟨xl3, xa3, an3, ac3, xb3, bn3, bc3, xc3, cn3, cc3, rfl, hn, hb⟩
  have hal := gr_tr hb (gr_al (gr_refl w3) (.cells #[.bool xl3, .slice xa3 an3 ac3, .slice xb3 bn3 bc3, .slice xc3 cn3 cc3] 26))
  have B3 := BoxN.new hn
  replace BN := BN.later hal
  replace BM := BM.later hal
  replace PP := PP.later hal
  replace LB := Lib.hid (gr_tr LB.out hal)
  clear bnc0 bnc1 bnc2 bnc3 bmc0 bmc1 bmc2 bmc3
  clear hn hb hal
  go_upto_region 6 with fail
  generalize World.alloc w3 _ = V3 at *
  go_upto_if 34 with fail
  go_cut [] (fun wx => Hid (BoxN wx w.heap.size (.bool t.leaf) (.slice a1 n1 c1) (.slice a2 n2 c2) (.slice a3 n3 c3) t) ∧ Hid (BoxN wx (w.heap.size + 1) (.bool m.leaf) (.slice d1 e1 f1) (.slice d2 e2 f2) (.slice d3 e3 f3) m) ∧ Hid (PathP wx (.slice pa p.length pc) p) ∧ Hid (Below w.heap.size w wx))
  case first =>
    by_cases h0 : er = 0
    case pos =>
      subst h0
      obtain ⟨hpos, s, hs, hl, hi0, hi1, hr⟩ := add_ok HE.out
      rw [hr] at B3
      obtain ⟨hc1, hc2⟩ := cut_added (m := m) hpos hs hi0 hi1
      have HC1 := Lib.hid hc1; have HC2 := Lib.hid hc2
      clear hs hl hi0 hi1 hr hc1 hc2
      simp only [Option.getD_some] at B3
      obtain ⟨⟨b3c0, b3c1, b3c2, b3c3⟩, -⟩ := four_facts B3.1
      go_wp2_with fail
      refine (cut_yes B3 PP hpos HC1.out).mono ?_
      rintro e w4 ⟨xl4, xa4, an4, ac4, xb4, bn4, bc4, xc4, cn4, cc4, L4, A4, An4, Ac4, B4_, Bn4, Bc4, C4, Cn4, Cc4, rfl, hn, hn2, hb⟩
      obtain ⟨hal, hx1, hx2⟩ := two_boxesN w4 #[.bool xl4, .slice xa4 an4 ac4, .slice xb4 bn4 bc4, .slice xc4 cn4 cc4] #[.bool L4, .slice A4 An4 Ac4, .slice B4_ Bn4 Bc4, .slice C4 Cn4 Cc4] 26 26
      have B4 : BoxN _ _ _ _ _ _ _ := ⟨hx1, hn.boxed hal⟩
      have D4 : BoxN _ _ _ _ _ _ _ := ⟨hx2, hn2.boxed hal⟩
      replace hal := gr_tr hb hal
      replace BN := BN.later hal
      replace BM := BM.later hal
      replace B3 := B3.later hal
      replace PP := PP.later hal
      replace LB := Lib.hid (gr_tr LB.out hal)
      clear b3c0 b3c1 b3c2 b3c3
      clear hn hn2 hb hal hx1 hx2
      go_upto_region 8 with fail
      generalize World.alloc (World.alloc w4 _) _ = V4 at *
      obtain ⟨⟨b4c0, b4c1, b4c2, b4c3⟩, -⟩ := four_facts B4.1
      obtain ⟨⟨bnc0, bnc1, bnc2, bnc3⟩, -⟩ := four_facts BN.1
      go_wp2_with fail
      refine (same_yes B4 BN HC2.out).mono ?_
      rintro e w5 ⟨rfl, hb⟩
      replace BN := BN.later hb
      replace BM := BM.later hb
      replace B3 := B3.later hb
      replace B4 := B4.later hb
      replace D4 := D4.later hb
      replace PP := PP.later hb
      replace LB := Lib.hid (gr_tr LB.out hb)
      clear b4c0 b4c1 b4c2 b4c3 bnc0 bnc1 bnc2 bnc3
      clear hb
      obtain ⟨⟨d4c0, d4c1, d4c2, d4c3⟩, -⟩ := four_facts D4.1
      obtain ⟨⟨bmc0, bmc1, bmc2, bmc3⟩, -⟩ := four_facts BM.1
      go_wp2_with fail
      refine (same_yes D4 BM rfl).mono ?_
      rintro e w6 ⟨rfl, hb⟩
      replace BN := BN.later hb
      replace BM := BM.later hb
      replace B3 := B3.later hb
      replace B4 := B4.later hb
      replace D4 := D4.later hb
      replace PP := PP.later hb
      replace LB := Lib.hid (gr_tr LB.out hb)
      clear d4c0 d4c1 d4c2 d4c3 bmc0 bmc1 bmc2 bmc3
      clear hb
      go_wp2_with fail
      go_meet
      exact ⟨Lib.hid BN, Lib.hid BM, Lib.hid PP, LB⟩
    case neg =>
      have q : (er == 0) = false := by simpa using h0
      clear h0 HE
      go_wp2_with fail
      go_meet
      exact ⟨Lib.hid BN, Lib.hid BM, Lib.hid PP, LB⟩
  case rest =>
    obtain ⟨HN, HM, HP, HB⟩ := hcut
    clear BN BM PP LB B3
    have BN := HN.out; have BM := HM.out; have PP := HP.out
    have LB := HB
    clear HN HM HP HB HE
    obtain ⟨ec, hec⟩ : ∃ ec, cutE t p = ec := ⟨_, rfl⟩
    obtain ⟨⟨bnc0, bnc1, bnc2, bnc3⟩, -⟩ := four_facts BN.1
    by_cases hc0 : ec = 0
    case neg =>
      have q : (ec != 0) = true := by simpa using hc0
      have HC := Lib.hid hec; have HC0 := Lib.hid hc0
      clear hec hc0
      go_wp2_with fail
      refine (cut_no BN PP HC.out HC0.out).mono ?_
      rintro e w7 ⟨xl7, xa7, an7, ac7, xb7, bn7, bc7, xc7, cn7, cc7, L7, A7, An7, Ac7, B7_, Bn7, Bc7, C7, Cn7, Cc7, rfl, hn, hn2, hb⟩
      obtain ⟨hal, hx1, hx2⟩ := two_boxesN w7 #[.bool xl7, .slice xa7 an7 ac7, .slice xb7 bn7 bc7, .slice xc7 cn7 cc7] #[.bool L7, .slice A7 An7 Ac7, .slice B7_ Bn7 Bc7, .slice C7 Cn7 Cc7] 26 26
      have B7 : BoxN _ _ _ _ _ _ _ := ⟨hx1, hn.boxed hal⟩
      have D7 : BoxN _ _ _ _ _ _ _ := ⟨hx2, hn2.boxed hal⟩
      replace hal := gr_tr hb hal
      replace BN := BN.later hal
      replace BM := BM.later hal
      replace PP := PP.later hal
      replace LB := Lib.hid (gr_tr LB.out hal)
      clear bnc0 bnc1 bnc2 bnc3
      clear hn hn2 hb hal hx1 hx2
      go_upto_region 12 with fail
      generalize World.alloc (World.alloc w7 _) _ = V7 at *
      obtain ⟨⟨b7c0, b7c1, b7c2, b7c3⟩, -⟩ := four_facts B7.1
      go_wp2_with fail
      refine (same_zero B7).mono ?_
      rintro e w8 ⟨rfl, hb⟩
      replace BN := BN.later hb
      replace BM := BM.later hb
      replace B7 := B7.later hb
      replace D7 := D7.later hb
      replace PP := PP.later hb
      replace LB := Lib.hid (gr_tr LB.out hb)
      clear b7c0 b7c1 b7c2 b7c3
      clear hb
      obtain ⟨⟨d7c0, d7c1, d7c2, d7c3⟩, -⟩ := four_facts D7.1
      go_wp2_with fail
      refine (same_zero D7).mono ?_
      rintro e w9 ⟨rfl, hb⟩
      replace BN := BN.later hb
      replace BM := BM.later hb
      replace B7 := B7.later hb
      replace D7 := D7.later hb
      replace PP := PP.later hb
      replace LB := Lib.hid (gr_tr LB.out hb)
      clear d7c0 d7c1 d7c2 d7c3
      clear hb
      go_wp2_with fail
      go_ret
      exact ⟨rfl, LB.out⟩
    subst hc0
    obtain ⟨hpos, m2, hm2⟩ := cut_ok hec
    obtain ⟨s, hs, hi0, hi1, hkm⟩ := get_last hpos hm2
    obtain ⟨ha1, ha2, ha3, ha4⟩ := add_cut hs hi0 hi1 hkm
    have HM2 := Lib.hid hm2; have HS := Lib.hid hs; have HA1 := Lib.hid ha1; have HA2 := Lib.hid ha2; have HA3 := Lib.hid ha3; have HA4 := Lib.hid ha4; have HI0 := Lib.hid hi0
    clear hec hm2 hs hi0 hi1 hkm ha1 ha2 ha3 ha4
    go_wp2_with fail
    refine (cut_yes BN PP hpos HM2.out).mono ?_
    rintro e w7 ⟨xl7, xa7, an7, ac7, xb7, bn7, bc7, xc7, cn7, cc7, L7, A7, An7, Ac7, B7_, Bn7, Bc7, C7, Cn7, Cc7, rfl, hn, hn2, hb⟩
    obtain ⟨hal, hx1, hx2⟩ := two_boxesN w7 #[.bool xl7, .slice xa7 an7 ac7, .slice xb7 bn7 bc7, .slice xc7 cn7 cc7] #[.bool L7, .slice A7 An7 Ac7, .slice B7_ Bn7 Bc7, .slice C7 Cn7 Cc7] 26 26
    have B7 : BoxN _ _ _ _ _ _ _ := ⟨hx1, hn.boxed hal⟩
    have D7 : BoxN _ _ _ _ _ _ _ := ⟨hx2, hn2.boxed hal⟩
    replace hal := gr_tr hb hal
    replace BN := BN.later hal
    replace BM := BM.later hal
    replace PP := PP.later hal
    replace LB := Lib.hid (gr_tr LB.out hal)
    clear bnc0 bnc1 bnc2 bnc3
    clear hn hn2 hb hal hx1 hx2
    go_upto_region 13 with fail
    generalize World.alloc (World.alloc w7 _) _ = V7 at *
    obtain ⟨⟨bnc0, bnc1, bnc2, bnc3⟩, -⟩ := four_facts BN.1
    have hw1 : IntKind.i64.wrap ((p.length : Int) - 1) = (p.length : Int) - 1 := IntWalk.i64_in _ (by omega)
    have hw2 : ((p.length : Int) - 1).toNat = p.length - 1 := by omega
    have hw3 : (0 : Int) ≤ (p.length : Int) - 1 := by omega
    have hl1 : (1 : Int) ≤ (p.length : Int) := by omega
    have hcap : p.length ≤ pc := PP.1.cap
    have hw5 : (p.length : Int) - 1 ≤ (pc : Int) := by omega
    have l := gr_dr (gr_refl V7)
    go_cut [15, 16] (fun u v wx => ∃ (g : Nat) (x1 : Option Addr) (y1 z1 : Nat) (x2 : Option Addr) (y2 z2 : Nat) (x3 : Option Addr) (y3 z3 : Nat), u = .pointer (some ⟨g, 0, none⟩) ∧ v = .int .i64 0 ∧ Hid (BoxN wx g (.bool s.leaf) (.slice x1 y1 z1) (.slice x2 y2 z2) (.slice x3 y3 z3) s) ∧ Hid (Below V7.heap.size V7 wx))
    case first =>
      have la : Below V7.heap.size V7 (World.drew (V7.alloc (.cells #[.bool false, .slice none 0 0, .slice none 0 0, .slice none 0 0] 26))) := gr_dr (gr_al (gr_refl V7) _)
      have CA := Lib.hid (get_tr (BN.later l) (PP.later l).up HS.out)
      have CB := Lib.hid (get_tr (BN.later la) (PP.later la).up HS.out)
      have HK : Hid (∀ w', Below V7.heap.size V7 w' → w'.cell? ⟨w.heap.size, 0, none⟩ = some (.bool t.leaf) ∧ w'.cell? ⟨w.heap.size, 1, none⟩ = some (.slice a1 n1 c1) ∧ w'.cell? ⟨w.heap.size, 2, none⟩ = some (.slice a2 n2 c2) ∧ w'.cell? ⟨w.heap.size, 3, none⟩ = some (.slice a3 n3 c3)) := Lib.hid (fun w' h => (four_facts (BN.later h).1).1)
      have HZ := Lib.hid (heap_alloc_new V7 (.cells #[.bool false, .slice none 0 0, .slice none 0 0, .slice none 0 0] 26))
      clear bnc0 bnc1 bnc2 bnc3
      go_region_held3 (fun w' => w'.cell? ⟨w.heap.size, 0, none⟩ = some (.bool t.leaf) ∧ w'.cell? ⟨w.heap.size, 1, none⟩ = some (.slice a1 n1 c1) ∧ w'.cell? ⟨w.heap.size, 2, none⟩ = some (.slice a2 n2 c2) ∧ w'.cell? ⟨w.heap.size, 3, none⟩ = some (.slice a3 n3 c3))
        (first | with_reducible exact HK.out _ l | with_reducible exact HK.out _ la | with_reducible exact HK.out _ (gr_al l _) | with_reducible exact HK.out _ (set4z l (Nat.le_refl _)) | with_reducible exact HK.out _ (set4z (gr_al l _) l.size))
        (first
          | (go_at_call 17; (with_reducible refine CA.out.mono ?_); rintro e w8 ⟨g1, g2, g3, g4, g5, g6, g7, g8, g9, rfl, ht, hb⟩; replace l := gr_tr l hb)
          | (go_at_call 17; (with_reducible refine CB.out.mono ?_); rintro e w8 ⟨g1, g2, g3, g4, g5, g6, g7, g8, g9, rfl, ht, hb⟩; replace l := gr_tr la hb; have hz := blk_below (w := World.drew (V7.alloc _)) HZ.out hb; obtain ⟨⟨y0, y1, y2, y3⟩, ⟨z0, z1, z2, z3⟩⟩ := four_facts hz))
      · go_wp2_with fail
        go_meet
        exact ⟨w8.heap.size, g1, g2, g3, g4, g5, g6, g7, g8, g9, rfl, rfl, Lib.hid ⟨heap_alloc_new w8 _, (ht.nodeAt.weaken fun _ _ => trivial).boxed (gr_al (gr_refl w8) _)⟩, Lib.hid (gr_al l _)⟩
      · have q1 := four_block (u0 := .bool s.leaf) (u1 := .slice g1 g2 g3) (u2 := .slice g4 g5 g6) (u3 := .slice g7 g8 g9) hz
        have q2 := ht.keep (w' := set4 w8 V7.heap.size 0 (.bool s.leaf) (.slice g1 g2 g3) (.slice g4 g5 g6) (.slice g7 g8 g9)) fun b hb => four_stored b (by have : (World.drew (V7.alloc (.cells #[.bool false, .slice none 0 0, .slice none 0 0, .slice none 0 0] 26))).heap.size = V7.heap.size + 1 := (by simp); omega)
        simp only [set4, Nat.zero_add] at q1 q2
        have HQ1 := Lib.hid q1; have HQ2 := Lib.hid q2
        clear q1 q2 hz y0 y1 y2 y3 z0 z1 z2 z3
        go_wp2_with fail
        go_meet
        exact ⟨V7.heap.size, g1, g2, g3, g4, g5, g6, g7, g8, g9, rfl, rfl, Lib.hid ⟨HQ1.out, HQ2.out.nodeAt.weaken fun _ _ => trivial⟩, Lib.hid (set4z l (Nat.le_refl _))⟩
    case rest =>
      obtain ⟨g, x1, y1, z1, x2, y2, z2, x3, y3, z3, rfl, rfl, HB15, HL15⟩ := hcut
      clear bnc0 bnc1 bnc2 bnc3 l
      have hb := HL15.out
      replace BN := BN.later hb
      replace BM := BM.later hb
      replace B7 := B7.later hb
      replace D7 := D7.later hb
      replace PP := PP.later hb
      replace LB := Lib.hid (gr_tr LB.out hb)
      clear hb HL15
      have B15 := HB15.out
      clear HB15
      cases hl : s.leaf
      case true =>
        rw [hl] at B15
        clear hl
        obtain ⟨⟨b15c0, b15c1, b15c2, b15c3⟩, -⟩ := four_facts B15.1
        go_wp2_with fail
        go_ret
        exact ⟨rfl, LB.out⟩
      case false =>
        rw [hl] at B15
        have HLF := Lib.hid hl
        clear hl
        obtain ⟨⟨b15c0, b15c1, b15c2, b15c3⟩, -⟩ := four_facts B15.1
        obtain ⟨⟨b7c0, b7c1, b7c2, b7c3⟩, -⟩ := four_facts B7.1
        obtain ⟨⟨d7c0, d7c1, d7c2, d7c3⟩, -⟩ := four_facts D7.1
        have HR := Lib.hid (add_is (m := m2) hpos HA1.out HLF.out HI0.out HA2.out).2
        rw [HA3.out] at HR
        go_wp2_with fail
        refine (add_yes B7 PP D7 (fun s2 h2 => by obtain rfl := Option.some.inj (HA1.out.symm.trans h2); have h3 := HSZ.out s HS.out; have h4 := HA4.out; omega) HR.out).mono ?_
        rintro e w16 ⟨xl16, xa16, an16, ac16, xb16, bn16, bc16, xc16, cn16, cc16, rfl, hn, hb⟩
        have hal := gr_tr hb (gr_al (gr_refl w16) (.cells #[.bool xl16, .slice xa16 an16 ac16, .slice xb16 bn16 bc16, .slice xc16 cn16 cc16] 26))
        have B16 := BoxN.new hn
        replace BN := BN.later hal
        replace BM := BM.later hal
        replace B7 := B7.later hal
        replace D7 := D7.later hal
        replace B15 := B15.later hal
        replace PP := PP.later hal
        replace LB := Lib.hid (gr_tr LB.out hal)
        clear b15c0 b15c1 b15c2 b15c3 b7c0 b7c1 b7c2 b7c3 d7c0 d7c1 d7c2 d7c3
        clear hn hb hal
        go_upto_region 17 with fail
        generalize World.alloc w16 _ = V16 at *
        obtain ⟨⟨b16c0, b16c1, b16c2, b16c3⟩, -⟩ := four_facts B16.1
        obtain ⟨⟨bnc0, bnc1, bnc2, bnc3⟩, -⟩ := four_facts BN.1
        go_wp2_with fail
        refine (same_yes B16 BN rfl).mono ?_
        rintro e w17 ⟨rfl, hb⟩
        replace BN := BN.later hb
        replace BM := BM.later hb
        replace B7 := B7.later hb
        replace D7 := D7.later hb
        replace B15 := B15.later hb
        replace B16 := B16.later hb
        replace PP := PP.later hb
        replace LB := Lib.hid (gr_tr LB.out hb)
        clear b16c0 b16c1 b16c2 b16c3 bnc0 bnc1 bnc2 bnc3
        clear hb
        go_wp2_with fail
        go_ret
        exact ⟨rfl, LB.out⟩
end Go.Proofs.Ytdcpoeaddhbjbaa
