/- The walk of the law PointBeside. (genpbes.py wrote it.) -/
import Derived.Test.YtdcpoeaddhbjbaaAhead
import Derived.Test.YtdcpoeaddhbjbaaBesideP
namespace Go.Proofs.Ytdcpoeaddhbjbaa
set_option maxRecDepth 100000
open Go.RowKit

set_option maxHeartbeats 8000000 in
set_option maxRecDepth 1000000 in
theorem law_pbes (t : Tree) (q : List Int) (x : List Int × Int) (v1 v2 v3 : Value) (w : World) (h1 : NodeV w v1 t ∧ sizeT t ≤ 1048576) (h2 : Ints w v2 q ∧ I64 q) (h3 : PointV w v3 x) :
    Calls Try.prog 10 #[v1, v2, v3] w (Yes w) := by
  obtain ⟨p, off⟩ := x
  obtain ⟨⟨cs, rfl, hn⟩, hsz⟩ := h1
  obtain ⟨a1, n1, c1, a2, n2, c2, a3, n3, c3, rfl⟩ := hn.form
  obtain ⟨iq, -⟩ := h2
  obtain ⟨aq, cq, rfl⟩ := iq.slice
  have hq8 := iq.len
  obtain ⟨ap, np, cp, rfl, ip, i64p⟩ := h3
  obtain ⟨hb, hx1, hx2⟩ := two_boxes w #[.bool t.leaf, .slice a1 n1 c1, .slice a2 n2 c2, .slice a3 n3 c3] #[.slice ap np cp, .int .i64 off] 26 35
  have HS := Lib.hid (show sizeT t ≤ 1500000 by omega); have HI64 := Lib.hid i64p
  have HB := Lib.hid hb; have HX1 := Lib.hid hx1; have HX2 := Lib.hid hx2
  have HN := Lib.hid (hn.boxed hb); have HP := Lib.hid (ip.below hb (Nat.le_refl _)); have HQ := Lib.hid (iq.below hb (Nat.le_refl _))
  clear hn ip iq hb hx1 hx2 hsz i64p
  obtain ⟨PA, oa, ea, hF⟩ : ∃ PA oa ea, edgeR t ((leavesL t).filter (fun x => !(decide (0 ≤ cmpI x q) || aboveB x q))) true = (PA, oa, ea) := ⟨_, _, _, rfl⟩
  obtain ⟨PB, ob, eb, hL⟩ : ∃ PB ob eb, edgeR t ((leavesL t).filter (fun x => !decide (cmpI x q < 0))) false = (PB, ob, eb) := ⟨_, _, _, rfl⟩
  have HFC := Lib.hid (fun w' (h : NodeAt Any w' [.bool t.leaf, .slice a1 n1 c1, .slice a2 n2 c2, .slice a3 n3 c3] t) (hq : Ints w' (.slice aq q.length cq) q) => by
    have h2 := ahead_any Any t _ q _ w' h hq HS.out
    rw [hF] at h2
    exact h2)
  have HLC := Lib.hid (fun w' (h : NodeAt Any w' [.bool t.leaf, .slice a1 n1 c1, .slice a2 n2 c2, .slice a3 n3 c3] t) (hq : Ints w' (.slice aq q.length cq) q) => by
    have h2 := behind_any Any t _ q _ w' h hq HS.out
    rw [hL] at h2
    exact h2)
  have HA0 := ahead_ok t q p off
  have HB0 := behind_ok t q p off
  rw [hF] at HA0
  rw [hL] at HB0
  have HAD := Lib.hid HA0.1; have HAO := Lib.hid HA0.2
  have HBD := Lib.hid HB0.1; have HBO := Lib.hid HB0.2
  clear hF hL HA0 HB0
  dsimp only at HAD HAO HBD HBO
  go_enter Try.func10, Try.ntmps10
  go_upto_region 1 with fail
  generalize World.alloc (World.alloc w _) _ = W at *
  have BN := Lib.hid (nodeL HX1.out)
  have BP := Lib.hid (boxes2L HX2.out HX2.out)
  go_wp2_with fail
  refine (live7_any W).mono ?_
  rintro e w1 ⟨rfl, l⟩
  obtain ⟨k0, k1, k2, k3⟩ := BN.out _ l
  obtain ⟨q0, q1, -, -⟩ := BP.out _ l
  have L := Lib.hid l
  clear l
  go_wp2_with fail
  refine (fewN_any t _ Any 150 _ (HN.out.boxed L.out)).mono ?_
  rintro e w2 ⟨fw, rfl, l2⟩
  have L2 := Lib.hid (gr_tr L.out l2)
  clear l2 k0 k1 k2 k3 q0 q1 L
  obtain ⟨k0, k1, k2, k3⟩ := BN.out _ L2.out
  obtain ⟨q0, q1, -, -⟩ := BP.out _ L2.out
  cases fw
  · go_wp2_with fail
    go_ret
    exact ⟨rfl, gr_tr HB.out L2.out⟩
  go_wp2_with fail
  refine (short7_any 1 _ _ (pts_lit [[.slice ap np cp, .int .i64 off]] rfl rfl (by decide) rfl (by simp))).mono ?_
  rintro e w3 ⟨sh, rfl, l3⟩
  have L3 := Lib.hid (gr_tr (gr_al L2.out _) l3)
  clear l3 k0 k1 k2 k3 q0 q1 L2
  cases sh
  · go_wp2_with fail
    go_ret
    exact ⟨rfl, gr_tr HB.out L3.out⟩
  by_cases h50 : (50 : Int) < (q.length : Int)
  · go_wp2_with fail
    go_ret
    exact ⟨rfl, gr_tr HB.out L3.out⟩
  · obtain ⟨k0, k1, k2, k3⟩ := BN.out _ L3.out
    · go_wp2_with fail
      refine (HFC.out _ (HN.out.boxed L3.out) (HQ.out.below L3.out (Nat.le_refl _))).mono ?_
      rintro e w4 ⟨fa, fn, fc, rfl, ⟨if_, _⟩, l4⟩
      have hal4 := gr_al (gr_refl w4) (.cells #[.slice fa fn fc, .int .i64 oa] 35)
      have L4 := Lib.hid (gr_tr (gr_tr L3.out l4) hal4)
      have IF := Lib.hid (if_.below hal4 (Nat.le_refl _))
      have XF := Lib.hid (heap_alloc_new w4 (.cells #[.slice fa fn fc, .int .i64 oa] 35))
      clear if_ l4 hal4 k0 k1 k2 k3
      obtain ⟨k0, k1, k2, k3⟩ := BN.out _ L4.out
      go_wp2_with fail
      generalize World.alloc w4 _ = W4 at *
      refine (HLC.out _ (HN.out.boxed L4.out) (HQ.out.below L4.out (Nat.le_refl _))).mono ?_
      rintro e w5 ⟨la, ln, lc, rfl, ⟨il, _⟩, l5⟩
      have hal5 := gr_al (gr_refl w5) (.cells #[.slice la ln lc, .int .i64 ob] 35)
      have L5 := Lib.hid (gr_tr (gr_tr L4.out l5) hal5)
      have IB := Lib.hid (il.below hal5 (Nat.le_refl _))
      have IA := Lib.hid (IF.out.below (gr_tr l5 hal5) (Nat.le_refl _))
      have XL := Lib.hid (heap_alloc_new w5 (.cells #[.slice la ln lc, .int .i64 ob] 35))
      have XF5 := Lib.hid (blk_below XF.out (gr_tr l5 hal5))
      clear il l5 hal5 k0 k1 k2 k3 XF IF
      go_upto_region 7 with fail
      generalize World.alloc w5 _ = W5 at *
      have BAB := Lib.hid (boxes2L XF5.out XL.out)
      have BN5 := Lib.hid (nodeL (blk_below HX1.out L5.out))
      have BP5 := Lib.hid (boxes2L (blk_below HX2.out L5.out) (blk_below HX2.out L5.out))
      have HN5 := Lib.hid (HN.out.boxed L5.out); have HP5 := Lib.hid (HP.out.below L5.out (Nat.le_refl _)); have HQ5 := Lib.hid (HQ.out.below L5.out (Nat.le_refl _))
      have LB := Lib.hid (gr_tr HB.out L5.out)
      clear BN BP HN HP HQ L3 L4 L5 HX1 HX2 XF5 XL HB HFC HLC
      have HCP := Lib.hid (fun x hx => chkL (x := x) HN5.out HP5.out HI64.out (off := off) hx)
      obtain ⟨k0, k1, k2, k3⟩ := BN5.out _ (gr_refl W5)
      obtain ⟨q0, q1, -, -⟩ := BP5.out _ (gr_refl W5)
      obtain ⟨r0, r1, s0, s1⟩ := BAB.out _ (gr_refl W5)
      have LC := Lib.hid (gr_refl W5)
      rcases HAD.out with ⟨rfl, c1, c2, c3⟩ | hea
      · have HCA := Lib.hid (chkL HN5.out IA.out (leavesL_i64 t HS.out _ (check_mem c1)) c1)
        have HRA := Lib.hid (fun w' (l : Below W5.heap.size W5 w') => compare_any PA q _ _ w' (IA.out.below l (Nat.le_refl _)) (HQ5.out.below l (Nat.le_refl _)))
        have HVA := Lib.hid (fun w' (l : Below W5.heap.size W5 w') => above_any PA q _ _ w' (IA.out.below l (Nat.le_refl _)) (HQ5.out.below l (Nat.le_refl _)))
        rw [c3] at HVA
        have c4 : ¬ 0 ≤ cmpI PA q := by omega
        clear c1 c2 c3 HAD
        generalize cmpI PA q = ra at *
        go_wp2_with fail
        refine (HCA.out _ LC.out).mono ?_
        rintro e w' ⟨rfl, l⟩
        clear LC k0 k1 k2 k3 q0 q1 r0 r1 s0 s1
        obtain ⟨k0, k1, k2, k3⟩ := BN5.out _ l
        obtain ⟨q0, q1, -, -⟩ := BP5.out _ l
        obtain ⟨r0, r1, s0, s1⟩ := BAB.out _ l
        have LC := Lib.hid l
        clear l
        go_wp2_with fail
        refine (HRA.out _ LC.out).mono ?_
        rintro e w' ⟨rfl, rfl⟩
        go_wp2_with fail
        refine (HVA.out _ LC.out).mono ?_
        rintro e w' ⟨rfl, l⟩
        replace l := gr_sm LC.out l
        clear LC k0 k1 k2 k3 q0 q1 r0 r1 s0 s1
        obtain ⟨k0, k1, k2, k3⟩ := BN5.out _ l
        obtain ⟨q0, q1, -, -⟩ := BP5.out _ l
        obtain ⟨r0, r1, s0, s1⟩ := BAB.out _ l
        have LC := Lib.hid l
        clear l
        rcases HBD.out with ⟨rfl, c1, c2, rfl⟩ | hfb
        · have HCB := Lib.hid (chkL HN5.out IB.out (leavesL_i64 t HS.out _ (check_mem c1)) c1)
          have HRB := Lib.hid (fun w' (l : Below W5.heap.size W5 w') => compare_any PB q _ _ w' (IB.out.below l (Nat.le_refl _)) (HQ5.out.below l (Nat.le_refl _)))
          have c3 : ¬ cmpI PB q < 0 := by omega
          clear c1 c2 HBD
          generalize cmpI PB q = rb at *
          go_wp2_with fail
          refine (HCB.out _ LC.out).mono ?_
          rintro e w' ⟨rfl, l⟩
          clear LC k0 k1 k2 k3 q0 q1 r0 r1 s0 s1
          obtain ⟨k0, k1, k2, k3⟩ := BN5.out _ l
          obtain ⟨q0, q1, -, -⟩ := BP5.out _ l
          obtain ⟨r0, r1, s0, s1⟩ := BAB.out _ l
          have LC := Lib.hid l
          clear l
          go_wp2_with fail
          refine (HRB.out _ LC.out).mono ?_
          rintro e w' ⟨rfl, rfl⟩
          by_cases hck : checkT t p off = 0
          · have HC := Lib.hid (HCP.out 0 hck)
            by_cases hge : 0 ≤ cmpI p q
            · have hb := HBO.out hck hge
              have hy := hb.2
              have HK := Lib.hid (cmpL (a := 0) (b := off) IB.out HP5.out rfl)
              have HR := Lib.hid (fun w' (l : Below W5.heap.size W5 w') => compare_any p q _ _ w' (HP5.out.below l (Nat.le_refl _)) (HQ5.out.below l (Nat.le_refl _)))
              clear hb hck HBO HAO HCP
              generalize cmpI p q = r at *
              generalize cmpP PB 0 p off = y at *
              go_wp2_with fail
              refine (HC.out _ LC.out).mono ?_
              rintro e w' ⟨rfl, l⟩
              clear LC k0 k1 k2 k3 q0 q1 r0 r1 s0 s1
              obtain ⟨k0, k1, k2, k3⟩ := BN5.out _ l
              obtain ⟨q0, q1, -, -⟩ := BP5.out _ l
              obtain ⟨r0, r1, s0, s1⟩ := BAB.out _ l
              have LC := Lib.hid l
              clear l
              go_wp2_with fail
              refine (HR.out _ LC.out).mono ?_
              rintro e w' ⟨rfl, rfl⟩
              go_wp2_with fail
              refine (HK.out _ LC.out).mono ?_
              rintro e w' ⟨rfl, l⟩
              clear LC k0 k1 k2 k3 q0 q1 r0 r1 s0 s1
              obtain ⟨k0, k1, k2, k3⟩ := BN5.out _ l
              obtain ⟨q0, q1, -, -⟩ := BP5.out _ l
              obtain ⟨r0, r1, s0, s1⟩ := BAB.out _ l
              have LC := Lib.hid l
              clear l
              go_wp2_with fail
              go_ret
              exact ⟨rfl, gr_tr LB.out LC.out⟩
            · by_cases hab : aboveB p q = true
              · have HR := Lib.hid (fun w' (l : Below W5.heap.size W5 w') => compare_any p q _ _ w' (HP5.out.below l (Nat.le_refl _)) (HQ5.out.below l (Nat.le_refl _)))
                have HA := Lib.hid (fun w' (l : Below W5.heap.size W5 w') => above_any p q _ _ w' (HP5.out.below l (Nat.le_refl _)) (HQ5.out.below l (Nat.le_refl _)))
                rw [hab] at HA
                clear hab hck HBO HAO HCP
                generalize cmpI p q = r at *
                go_wp2_with fail
                refine (HC.out _ LC.out).mono ?_
                rintro e w' ⟨rfl, l⟩
                clear LC k0 k1 k2 k3 q0 q1 r0 r1 s0 s1
                obtain ⟨k0, k1, k2, k3⟩ := BN5.out _ l
                obtain ⟨q0, q1, -, -⟩ := BP5.out _ l
                obtain ⟨r0, r1, s0, s1⟩ := BAB.out _ l
                have LC := Lib.hid l
                clear l
                go_wp2_with fail
                refine (HR.out _ LC.out).mono ?_
                rintro e w' ⟨rfl, rfl⟩
                go_wp2_with fail
                refine (HA.out _ LC.out).mono ?_
                rintro e w' ⟨rfl, l⟩
                replace l := gr_sm LC.out l
                clear LC k0 k1 k2 k3 q0 q1 r0 r1 s0 s1
                obtain ⟨k0, k1, k2, k3⟩ := BN5.out _ l
                obtain ⟨q0, q1, -, -⟩ := BP5.out _ l
                obtain ⟨r0, r1, s0, s1⟩ := BAB.out _ l
                have LC := Lib.hid l
                clear l
                go_wp2_with fail
                go_ret
                exact ⟨rfl, gr_tr LB.out LC.out⟩
              · replace hab : aboveB p q = false := by simpa using hab
                have ha := HAO.out hck (by omega) hab
                have hy := ha.2
                have HK := Lib.hid (cmpL (a := off) (b := oa) HP5.out IA.out rfl)
                have HR := Lib.hid (fun w' (l : Below W5.heap.size W5 w') => compare_any p q _ _ w' (HP5.out.below l (Nat.le_refl _)) (HQ5.out.below l (Nat.le_refl _)))
                have HA := Lib.hid (fun w' (l : Below W5.heap.size W5 w') => above_any p q _ _ w' (HP5.out.below l (Nat.le_refl _)) (HQ5.out.below l (Nat.le_refl _)))
                rw [hab] at HA
                clear ha hab hck HBO HAO HCP
                generalize cmpI p q = r at *
                generalize cmpP p off PA oa = y at *
                go_wp2_with fail
                refine (HC.out _ LC.out).mono ?_
                rintro e w' ⟨rfl, l⟩
                clear LC k0 k1 k2 k3 q0 q1 r0 r1 s0 s1
                obtain ⟨k0, k1, k2, k3⟩ := BN5.out _ l
                obtain ⟨q0, q1, -, -⟩ := BP5.out _ l
                obtain ⟨r0, r1, s0, s1⟩ := BAB.out _ l
                have LC := Lib.hid l
                clear l
                go_wp2_with fail
                refine (HR.out _ LC.out).mono ?_
                rintro e w' ⟨rfl, rfl⟩
                go_wp2_with fail
                refine (HA.out _ LC.out).mono ?_
                rintro e w' ⟨rfl, l⟩
                replace l := gr_sm LC.out l
                clear LC k0 k1 k2 k3 q0 q1 r0 r1 s0 s1
                obtain ⟨k0, k1, k2, k3⟩ := BN5.out _ l
                obtain ⟨q0, q1, -, -⟩ := BP5.out _ l
                obtain ⟨r0, r1, s0, s1⟩ := BAB.out _ l
                have LC := Lib.hid l
                clear l
                go_wp2_with fail
                refine (HK.out _ LC.out).mono ?_
                rintro e w' ⟨rfl, l⟩
                clear LC k0 k1 k2 k3 q0 q1 r0 r1 s0 s1
                obtain ⟨k0, k1, k2, k3⟩ := BN5.out _ l
                obtain ⟨q0, q1, -, -⟩ := BP5.out _ l
                obtain ⟨r0, r1, s0, s1⟩ := BAB.out _ l
                have LC := Lib.hid l
                clear l
                go_wp2_with fail
                go_ret
                exact ⟨rfl, gr_tr LB.out LC.out⟩
          · have HC := Lib.hid (HCP.out _ rfl)
            have hnz : (checkT t p off != 0) = true := by simpa using hck
            clear HCP HBO HAO hck
            generalize checkT t p off = z at *
            go_wp2_with fail
            refine (HC.out _ LC.out).mono ?_
            rintro e w' ⟨rfl, l⟩
            clear LC k0 k1 k2 k3 q0 q1 r0 r1 s0 s1
            obtain ⟨k0, k1, k2, k3⟩ := BN5.out _ l
            obtain ⟨q0, q1, -, -⟩ := BP5.out _ l
            obtain ⟨r0, r1, s0, s1⟩ := BAB.out _ l
            have LC := Lib.hid l
            clear l
            go_wp2_with fail
            go_ret
            exact ⟨rfl, gr_tr LB.out LC.out⟩
        · have hfz : (eb == 0) = false := by rw [beq_eq_false_iff_ne]; exact hfb
          clear HBD
          by_cases hck : checkT t p off = 0
          · have HC := Lib.hid (HCP.out 0 hck)
            by_cases hge : 0 ≤ cmpI p q
            · have hb := HBO.out hck hge
              exact absurd hb.1 hfb
            · by_cases hab : aboveB p q = true
              · have HR := Lib.hid (fun w' (l : Below W5.heap.size W5 w') => compare_any p q _ _ w' (HP5.out.below l (Nat.le_refl _)) (HQ5.out.below l (Nat.le_refl _)))
                have HA := Lib.hid (fun w' (l : Below W5.heap.size W5 w') => above_any p q _ _ w' (HP5.out.below l (Nat.le_refl _)) (HQ5.out.below l (Nat.le_refl _)))
                rw [hab] at HA
                clear hab hck HBO HAO HCP
                generalize cmpI p q = r at *
                go_wp2_with fail
                refine (HC.out _ LC.out).mono ?_
                rintro e w' ⟨rfl, l⟩
                clear LC k0 k1 k2 k3 q0 q1 r0 r1 s0 s1
                obtain ⟨k0, k1, k2, k3⟩ := BN5.out _ l
                obtain ⟨q0, q1, -, -⟩ := BP5.out _ l
                obtain ⟨r0, r1, s0, s1⟩ := BAB.out _ l
                have LC := Lib.hid l
                clear l
                go_wp2_with fail
                refine (HR.out _ LC.out).mono ?_
                rintro e w' ⟨rfl, rfl⟩
                go_wp2_with fail
                refine (HA.out _ LC.out).mono ?_
                rintro e w' ⟨rfl, l⟩
                replace l := gr_sm LC.out l
                clear LC k0 k1 k2 k3 q0 q1 r0 r1 s0 s1
                obtain ⟨k0, k1, k2, k3⟩ := BN5.out _ l
                obtain ⟨q0, q1, -, -⟩ := BP5.out _ l
                obtain ⟨r0, r1, s0, s1⟩ := BAB.out _ l
                have LC := Lib.hid l
                clear l
                go_wp2_with fail
                go_ret
                exact ⟨rfl, gr_tr LB.out LC.out⟩
              · replace hab : aboveB p q = false := by simpa using hab
                have ha := HAO.out hck (by omega) hab
                have hy := ha.2
                have HK := Lib.hid (cmpL (a := off) (b := oa) HP5.out IA.out rfl)
                have HR := Lib.hid (fun w' (l : Below W5.heap.size W5 w') => compare_any p q _ _ w' (HP5.out.below l (Nat.le_refl _)) (HQ5.out.below l (Nat.le_refl _)))
                have HA := Lib.hid (fun w' (l : Below W5.heap.size W5 w') => above_any p q _ _ w' (HP5.out.below l (Nat.le_refl _)) (HQ5.out.below l (Nat.le_refl _)))
                rw [hab] at HA
                clear ha hab hck HBO HAO HCP
                generalize cmpI p q = r at *
                generalize cmpP p off PA oa = y at *
                go_wp2_with fail
                refine (HC.out _ LC.out).mono ?_
                rintro e w' ⟨rfl, l⟩
                clear LC k0 k1 k2 k3 q0 q1 r0 r1 s0 s1
                obtain ⟨k0, k1, k2, k3⟩ := BN5.out _ l
                obtain ⟨q0, q1, -, -⟩ := BP5.out _ l
                obtain ⟨r0, r1, s0, s1⟩ := BAB.out _ l
                have LC := Lib.hid l
                clear l
                go_wp2_with fail
                refine (HR.out _ LC.out).mono ?_
                rintro e w' ⟨rfl, rfl⟩
                go_wp2_with fail
                refine (HA.out _ LC.out).mono ?_
                rintro e w' ⟨rfl, l⟩
                replace l := gr_sm LC.out l
                clear LC k0 k1 k2 k3 q0 q1 r0 r1 s0 s1
                obtain ⟨k0, k1, k2, k3⟩ := BN5.out _ l
                obtain ⟨q0, q1, -, -⟩ := BP5.out _ l
                obtain ⟨r0, r1, s0, s1⟩ := BAB.out _ l
                have LC := Lib.hid l
                clear l
                go_wp2_with fail
                refine (HK.out _ LC.out).mono ?_
                rintro e w' ⟨rfl, l⟩
                clear LC k0 k1 k2 k3 q0 q1 r0 r1 s0 s1
                obtain ⟨k0, k1, k2, k3⟩ := BN5.out _ l
                obtain ⟨q0, q1, -, -⟩ := BP5.out _ l
                obtain ⟨r0, r1, s0, s1⟩ := BAB.out _ l
                have LC := Lib.hid l
                clear l
                go_wp2_with fail
                go_ret
                exact ⟨rfl, gr_tr LB.out LC.out⟩
          · have HC := Lib.hid (HCP.out _ rfl)
            have hnz : (checkT t p off != 0) = true := by simpa using hck
            clear HCP HBO HAO hck
            generalize checkT t p off = z at *
            go_wp2_with fail
            refine (HC.out _ LC.out).mono ?_
            rintro e w' ⟨rfl, l⟩
            clear LC k0 k1 k2 k3 q0 q1 r0 r1 s0 s1
            obtain ⟨k0, k1, k2, k3⟩ := BN5.out _ l
            obtain ⟨q0, q1, -, -⟩ := BP5.out _ l
            obtain ⟨r0, r1, s0, s1⟩ := BAB.out _ l
            have LC := Lib.hid l
            clear l
            go_wp2_with fail
            go_ret
            exact ⟨rfl, gr_tr LB.out LC.out⟩
      · have hez : (ea == 0) = false := by rw [beq_eq_false_iff_ne]; exact hea
        clear HAD
        rcases HBD.out with ⟨rfl, c1, c2, rfl⟩ | hfb
        · have HCB := Lib.hid (chkL HN5.out IB.out (leavesL_i64 t HS.out _ (check_mem c1)) c1)
          have HRB := Lib.hid (fun w' (l : Below W5.heap.size W5 w') => compare_any PB q _ _ w' (IB.out.below l (Nat.le_refl _)) (HQ5.out.below l (Nat.le_refl _)))
          have c3 : ¬ cmpI PB q < 0 := by omega
          clear c1 c2 HBD
          generalize cmpI PB q = rb at *
          go_wp2_with fail
          refine (HCB.out _ LC.out).mono ?_
          rintro e w' ⟨rfl, l⟩
          clear LC k0 k1 k2 k3 q0 q1 r0 r1 s0 s1
          obtain ⟨k0, k1, k2, k3⟩ := BN5.out _ l
          obtain ⟨q0, q1, -, -⟩ := BP5.out _ l
          obtain ⟨r0, r1, s0, s1⟩ := BAB.out _ l
          have LC := Lib.hid l
          clear l
          go_wp2_with fail
          refine (HRB.out _ LC.out).mono ?_
          rintro e w' ⟨rfl, rfl⟩
          by_cases hck : checkT t p off = 0
          · have HC := Lib.hid (HCP.out 0 hck)
            by_cases hge : 0 ≤ cmpI p q
            · have hb := HBO.out hck hge
              have hy := hb.2
              have HK := Lib.hid (cmpL (a := 0) (b := off) IB.out HP5.out rfl)
              have HR := Lib.hid (fun w' (l : Below W5.heap.size W5 w') => compare_any p q _ _ w' (HP5.out.below l (Nat.le_refl _)) (HQ5.out.below l (Nat.le_refl _)))
              clear hb hck HBO HAO HCP
              generalize cmpI p q = r at *
              generalize cmpP PB 0 p off = y at *
              go_wp2_with fail
              refine (HC.out _ LC.out).mono ?_
              rintro e w' ⟨rfl, l⟩
              clear LC k0 k1 k2 k3 q0 q1 r0 r1 s0 s1
              obtain ⟨k0, k1, k2, k3⟩ := BN5.out _ l
              obtain ⟨q0, q1, -, -⟩ := BP5.out _ l
              obtain ⟨r0, r1, s0, s1⟩ := BAB.out _ l
              have LC := Lib.hid l
              clear l
              go_wp2_with fail
              refine (HR.out _ LC.out).mono ?_
              rintro e w' ⟨rfl, rfl⟩
              go_wp2_with fail
              refine (HK.out _ LC.out).mono ?_
              rintro e w' ⟨rfl, l⟩
              clear LC k0 k1 k2 k3 q0 q1 r0 r1 s0 s1
              obtain ⟨k0, k1, k2, k3⟩ := BN5.out _ l
              obtain ⟨q0, q1, -, -⟩ := BP5.out _ l
              obtain ⟨r0, r1, s0, s1⟩ := BAB.out _ l
              have LC := Lib.hid l
              clear l
              go_wp2_with fail
              go_ret
              exact ⟨rfl, gr_tr LB.out LC.out⟩
            · by_cases hab : aboveB p q = true
              · have HR := Lib.hid (fun w' (l : Below W5.heap.size W5 w') => compare_any p q _ _ w' (HP5.out.below l (Nat.le_refl _)) (HQ5.out.below l (Nat.le_refl _)))
                have HA := Lib.hid (fun w' (l : Below W5.heap.size W5 w') => above_any p q _ _ w' (HP5.out.below l (Nat.le_refl _)) (HQ5.out.below l (Nat.le_refl _)))
                rw [hab] at HA
                clear hab hck HBO HAO HCP
                generalize cmpI p q = r at *
                go_wp2_with fail
                refine (HC.out _ LC.out).mono ?_
                rintro e w' ⟨rfl, l⟩
                clear LC k0 k1 k2 k3 q0 q1 r0 r1 s0 s1
                obtain ⟨k0, k1, k2, k3⟩ := BN5.out _ l
                obtain ⟨q0, q1, -, -⟩ := BP5.out _ l
                obtain ⟨r0, r1, s0, s1⟩ := BAB.out _ l
                have LC := Lib.hid l
                clear l
                go_wp2_with fail
                refine (HR.out _ LC.out).mono ?_
                rintro e w' ⟨rfl, rfl⟩
                go_wp2_with fail
                refine (HA.out _ LC.out).mono ?_
                rintro e w' ⟨rfl, l⟩
                replace l := gr_sm LC.out l
                clear LC k0 k1 k2 k3 q0 q1 r0 r1 s0 s1
                obtain ⟨k0, k1, k2, k3⟩ := BN5.out _ l
                obtain ⟨q0, q1, -, -⟩ := BP5.out _ l
                obtain ⟨r0, r1, s0, s1⟩ := BAB.out _ l
                have LC := Lib.hid l
                clear l
                go_wp2_with fail
                go_ret
                exact ⟨rfl, gr_tr LB.out LC.out⟩
              · replace hab : aboveB p q = false := by simpa using hab
                have ha := HAO.out hck (by omega) hab
                exact absurd ha.1 hea
          · have HC := Lib.hid (HCP.out _ rfl)
            have hnz : (checkT t p off != 0) = true := by simpa using hck
            clear HCP HBO HAO hck
            generalize checkT t p off = z at *
            go_wp2_with fail
            refine (HC.out _ LC.out).mono ?_
            rintro e w' ⟨rfl, l⟩
            clear LC k0 k1 k2 k3 q0 q1 r0 r1 s0 s1
            obtain ⟨k0, k1, k2, k3⟩ := BN5.out _ l
            obtain ⟨q0, q1, -, -⟩ := BP5.out _ l
            obtain ⟨r0, r1, s0, s1⟩ := BAB.out _ l
            have LC := Lib.hid l
            clear l
            go_wp2_with fail
            go_ret
            exact ⟨rfl, gr_tr LB.out LC.out⟩
        · have hfz : (eb == 0) = false := by rw [beq_eq_false_iff_ne]; exact hfb
          clear HBD
          by_cases hck : checkT t p off = 0
          · have HC := Lib.hid (HCP.out 0 hck)
            by_cases hge : 0 ≤ cmpI p q
            · have hb := HBO.out hck hge
              exact absurd hb.1 hfb
            · by_cases hab : aboveB p q = true
              · have HR := Lib.hid (fun w' (l : Below W5.heap.size W5 w') => compare_any p q _ _ w' (HP5.out.below l (Nat.le_refl _)) (HQ5.out.below l (Nat.le_refl _)))
                have HA := Lib.hid (fun w' (l : Below W5.heap.size W5 w') => above_any p q _ _ w' (HP5.out.below l (Nat.le_refl _)) (HQ5.out.below l (Nat.le_refl _)))
                rw [hab] at HA
                clear hab hck HBO HAO HCP
                generalize cmpI p q = r at *
                go_wp2_with fail
                refine (HC.out _ LC.out).mono ?_
                rintro e w' ⟨rfl, l⟩
                clear LC k0 k1 k2 k3 q0 q1 r0 r1 s0 s1
                obtain ⟨k0, k1, k2, k3⟩ := BN5.out _ l
                obtain ⟨q0, q1, -, -⟩ := BP5.out _ l
                obtain ⟨r0, r1, s0, s1⟩ := BAB.out _ l
                have LC := Lib.hid l
                clear l
                go_wp2_with fail
                refine (HR.out _ LC.out).mono ?_
                rintro e w' ⟨rfl, rfl⟩
                go_wp2_with fail
                refine (HA.out _ LC.out).mono ?_
                rintro e w' ⟨rfl, l⟩
                replace l := gr_sm LC.out l
                clear LC k0 k1 k2 k3 q0 q1 r0 r1 s0 s1
                obtain ⟨k0, k1, k2, k3⟩ := BN5.out _ l
                obtain ⟨q0, q1, -, -⟩ := BP5.out _ l
                obtain ⟨r0, r1, s0, s1⟩ := BAB.out _ l
                have LC := Lib.hid l
                clear l
                go_wp2_with fail
                go_ret
                exact ⟨rfl, gr_tr LB.out LC.out⟩
              · replace hab : aboveB p q = false := by simpa using hab
                have ha := HAO.out hck (by omega) hab
                exact absurd ha.1 hea
          · have HC := Lib.hid (HCP.out _ rfl)
            have hnz : (checkT t p off != 0) = true := by simpa using hck
            clear HCP HBO HAO hck
            generalize checkT t p off = z at *
            go_wp2_with fail
            refine (HC.out _ LC.out).mono ?_
            rintro e w' ⟨rfl, l⟩
            clear LC k0 k1 k2 k3 q0 q1 r0 r1 s0 s1
            obtain ⟨k0, k1, k2, k3⟩ := BN5.out _ l
            obtain ⟨q0, q1, -, -⟩ := BP5.out _ l
            obtain ⟨r0, r1, s0, s1⟩ := BAB.out _ l
            have LC := Lib.hid l
            clear l
            go_wp2_with fail
            go_ret
            exact ⟨rfl, gr_tr LB.out LC.out⟩
end Go.Proofs.Ytdcpoeaddhbjbaa
