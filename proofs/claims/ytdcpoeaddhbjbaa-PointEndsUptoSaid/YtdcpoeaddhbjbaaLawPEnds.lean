/- The walk of the law PointEnds. -/
import Derived.Test.YtdcpoeaddhbjbaaLater
namespace Go.Proofs.Ytdcpoeaddhbjbaa
set_option maxRecDepth 100000
open Go.RowKit

set_option maxHeartbeats 4000000 in
set_option maxRecDepth 1000000 in
theorem law_pends (t : Tree) (x : List Int × Int) (v1 v2 : Value) (w : World) (h1 : NodeV w v1 t ∧ sizeT t ≤ 1048576) (h2 : PointV w v2 x) :
    Calls Try.prog 7 #[v1, v2] w (Yes w) := by
  obtain ⟨p, off⟩ := x
  obtain ⟨⟨cs, rfl, hn⟩, hsz⟩ := h1
  obtain ⟨a1, n1, c1, a2, n2, c2, a3, n3, c3, rfl⟩ := hn.form
  obtain ⟨ap, np, cp, rfl, ip, i64p⟩ := h2
  obtain ⟨hb, hx1, hx2⟩ := two_boxes w #[.bool t.leaf, .slice a1 n1 c1, .slice a2 n2 c2, .slice a3 n3 c3] #[.slice ap np cp, .int .i64 off] 26 35
  have HS := Lib.hid (show sizeT t ≤ 1500000 by omega); have HI64 := Lib.hid i64p
  have HB := Lib.hid hb; have HX1 := Lib.hid hx1; have HX2 := Lib.hid hx2
  have HN := Lib.hid (hn.boxed hb); have HP := Lib.hid (ip.below hb (Nat.le_refl _))
  clear hn ip hb hx1 hx2 hsz i64p
  obtain ⟨PA, oa, ea, hF⟩ : ∃ PA oa ea, edgeR t (leavesL t) false = (PA, oa, ea) := ⟨_, _, _, rfl⟩
  obtain ⟨PB, ob, eb, hL⟩ : ∃ PB ob eb, edgeR t (leavesL t) true = (PB, ob, eb) := ⟨_, _, _, rfl⟩
  have HFC := Lib.hid (fun w' (h : NodeAt Any w' [.bool t.leaf, .slice a1 n1 c1, .slice a2 n2 c2, .slice a3 n3 c3] t) => by
    have h2 := first_any Any t _ w' h HS.out
    rw [hF] at h2
    exact h2)
  have HLC := Lib.hid (fun w' (h : NodeAt Any w' [.bool t.leaf, .slice a1 n1 c1, .slice a2 n2 c2, .slice a3 n3 c3] t) => by
    have h2 := last_any Any t _ w' h HS.out
    rw [hL] at h2
    exact h2)
  have HEF := Lib.hid hF; have HEL := Lib.hid hL
  clear hF hL
  go_enter Try.func7, Try.ntmps7
  go_upto_region 1 with fail
  generalize World.alloc (World.alloc w _) _ = W at *
  have BN := Lib.hid (nodeL HX1.out)
  have BP := Lib.hid (boxes2L HX2.out HX2.out)
  go_wp2_with fail
  refine (live7_any W).mono ?_
  rintro e w1 ⟨rfl, l⟩
  obtain ⟨k0, k1, k2, k3⟩ := BN.out _ l
  obtain ⟨q0, q1, _, _⟩ := BP.out _ l
  have L := Lib.hid l
  clear l
  go_wp2_with fail
  refine (fewN_any t _ Any 150 _ (HN.out.boxed L.out)).mono ?_
  rintro e w2 ⟨fw, rfl, l2⟩
  have L2 := Lib.hid (gr_tr L.out l2)
  clear l2 k0 k1 k2 k3 q0 q1 L
  obtain ⟨k0, k1, k2, k3⟩ := BN.out _ L2.out
  obtain ⟨q0, q1, _, _⟩ := BP.out _ L2.out
  cases fw
  · go_wp2_with fail
    go_ret
    exact ⟨rfl, gr_tr HB.out L2.out⟩
  · go_wp2_with fail
    refine (short7_any 1 _ _ (pts_lit [[.slice ap np cp, .int .i64 off]] rfl rfl (by decide) rfl (by simp))).mono ?_
    rintro e w3 ⟨sh, rfl, l3⟩
    have L3 := Lib.hid (gr_tr (gr_al L2.out _) l3)
    clear l3 k0 k1 k2 k3 q0 q1 L2
    cases sh
    · go_wp2_with fail
      go_ret
      exact ⟨rfl, gr_tr HB.out L3.out⟩
    · obtain ⟨k0, k1, k2, k3⟩ := BN.out _ L3.out
      go_wp2_with fail
      refine (HFC.out _ (HN.out.boxed L3.out)).mono ?_
      rintro e w4 ⟨fa, fn, fc, rfl, ⟨if_, _⟩, l4⟩
      have hal4 := gr_al (gr_refl w4) (.cells #[.slice fa fn fc, .int .i64 oa] 35)
      have L4 := Lib.hid (gr_tr (gr_tr L3.out l4) hal4)
      have IF := Lib.hid (if_.below hal4 (Nat.le_refl _))
      have XF := Lib.hid (heap_alloc_new w4 (.cells #[.slice fa fn fc, .int .i64 oa] 35))
      clear if_ l4 hal4 k0 k1 k2 k3
      obtain ⟨k0, k1, k2, k3⟩ := BN.out _ L4.out
      go_wp2_with fail
      generalize World.alloc w4 _ = W4 at *
      refine (HLC.out _ (HN.out.boxed L4.out)).mono ?_
      rintro e w5 ⟨la, ln, lc, rfl, ⟨il, _⟩, l5⟩
      have hal5 := gr_al (gr_refl w5) (.cells #[.slice la ln lc, .int .i64 ob] 35)
      have L5 := Lib.hid (gr_tr (gr_tr L4.out l5) hal5)
      have IL := Lib.hid (il.below hal5 (Nat.le_refl _))
      have IF5 := Lib.hid (IF.out.below (gr_tr l5 hal5) (Nat.le_refl _))
      have XL := Lib.hid (heap_alloc_new w5 (.cells #[.slice la ln lc, .int .i64 ob] 35))
      have XF5 := Lib.hid (blk_below XF.out (gr_tr l5 hal5))
      clear il l5 hal5 k0 k1 k2 k3 XF IF
      obtain ⟨k0, k1, k2, k3⟩ := BN.out _ L5.out
      go_wp2_with fail
      generalize World.alloc w5 _ = W5 at *
      have BAB := Lib.hid (boxes2L XF5.out XL.out)
      have BN5 := Lib.hid (nodeL (blk_below HX1.out L5.out))
      have BP5 := Lib.hid (boxes2L (blk_below HX2.out L5.out) (blk_below HX2.out L5.out))
      have HN5 := Lib.hid (HN.out.boxed L5.out); have HP5 := Lib.hid (HP.out.below L5.out (Nat.le_refl _))
      have LB := Lib.hid (gr_tr HB.out L5.out)
      clear BN BP HN HP L3 L4 L5 HX1 HX2 XF5 XL HB
      refine (leaves_any Any t _ _ HN5.out HS.out).mono ?_
      rintro e w6 ⟨v6, rfl, ho, l⟩
      obtain ⟨a6, c6, hv6⟩ : ∃ a c, v6 = .slice a (leavesL t).length c := by obtain ⟨a, c, _, h, _⟩ := ho.ints (leavesL_len t HS.out); exact ⟨a, c, h⟩
      subst hv6
      clear ho k0 k1 k2 k3
      obtain ⟨k0, k1, k2, k3⟩ := BN5.out _ l
      obtain ⟨q0, q1, _, _⟩ := BP5.out _ l
      obtain ⟨r0, r1, s0, s1⟩ := BAB.out _ l
      have L6 := Lib.hid l
      clear l
      have HCP := Lib.hid (fun x hx => chkL (x := x) HN5.out HP5.out HI64.out (off := off) hx)
      by_cases hz : (leavesL t).length = 0
      · have E1 := HEF.out
        have E2 := HEL.out
        rw [edge_none hz] at E1 E2
        simp only [Prod.mk.injEq] at E1 E2
        obtain ⟨rfl, rfl, rfl⟩ := E1
        obtain ⟨rfl, rfl, rfl⟩ := E2
        have hne : checkT t p off ≠ 0 := fun h => by
          have := check_mem h
          rw [List.eq_nil_of_length_eq_zero hz] at this
          simp at this
        have HC := Lib.hid (HCP.out _ rfl)
        have hnz : (checkT t p off != 0) = true := by simpa using hne
        rw [hz]
        generalize checkT t p off = z at *
        clear hz hne
        go_wp2_with fail
        refine (HC.out _ L6.out).mono ?_
        rintro e w7 ⟨rfl, l7⟩
        have L7 := Lib.hid l7
        clear l7
        go_wp2_with fail
        go_ret
        exact ⟨rfl, gr_tr LB.out L7.out⟩
      · have hpos : 0 < (leavesL t).length := by omega
        obtain ⟨E1, C1⟩ := edge_first hpos
        obtain ⟨ob', E2, C2, M2⟩ := edge_last hpos
        rw [HEF.out] at E1
        rw [HEL.out] at E2
        simp only [Prod.mk.injEq] at E1 E2
        obtain ⟨rfl, rfl, rfl⟩ := E1
        obtain ⟨rfl, rfl, rfl⟩ := E2
        have hzz : (((leavesL t).length : Int) == 0) = false := by rw [beq_eq_false_iff_ne]; omega
        have I1 : I64 ((leavesL t).getD 0 []) := leavesL_i64 t HS.out _ (firstD_mem hpos)
        have I2 : I64 ((leavesL t).getD ((leavesL t).length - 1) []) := leavesL_i64 t HS.out _ (lastD_mem hpos)
        have HCA := Lib.hid (chkL HN5.out IF5.out I1 C1)
        have HCB := Lib.hid (chkL HN5.out IL.out I2 C2)
        have hab : cmpP ((leavesL t).getD 0 []) 0 ((leavesL t).getD ((leavesL t).length - 1) []) ob' ≤ 0 := (between C2).1
        have HAB := Lib.hid (cmpL (a := 0) (b := (ob' : Int)) IF5.out IL.out rfl)
        have HAP := Lib.hid (cmpL (a := 0) (b := off) IF5.out HP5.out rfl)
        have HPB := Lib.hid (cmpL (a := off) (b := (ob' : Int)) HP5.out IL.out rfl)
        have HBT := Lib.hid (fun h : checkT t p off = 0 => (⟨(between h).1, (between h).2 ob' M2⟩ : _ ∧ _))
        clear C1 C2 M2 I1 I2 hz hpos HEF HEL
        generalize cmpP ((leavesL t).getD 0 []) 0 ((leavesL t).getD ((leavesL t).length - 1) []) ob' = y1 at *
        generalize cmpP ((leavesL t).getD 0 []) 0 p off = y2 at *
        generalize cmpP p off ((leavesL t).getD ((leavesL t).length - 1) []) ob' = y3 at *
        generalize (leavesL t).length = nl at *
        go_wp2_with fail
        refine (HCA.out _ L6.out).mono ?_
        rintro e w7 ⟨rfl, l⟩
        clear k0 k1 k2 k3 q0 q1 r0 r1 s0 s1
        obtain ⟨k0, k1, k2, k3⟩ := BN5.out _ l
        obtain ⟨r0, r1, s0, s1⟩ := BAB.out _ l
        have L7 := Lib.hid l
        clear l
        go_wp2_with fail
        refine (HCB.out _ L7.out).mono ?_
        rintro e w8 ⟨rfl, l⟩
        clear k0 k1 k2 k3 r0 r1 s0 s1
        obtain ⟨k0, k1, k2, k3⟩ := BN5.out _ l
        obtain ⟨q0, q1, _, _⟩ := BP5.out _ l
        obtain ⟨r0, r1, s0, s1⟩ := BAB.out _ l
        have L8 := Lib.hid l
        clear l
        go_wp2_with fail
        refine (HAB.out _ L8.out).mono ?_
        rintro e w9 ⟨rfl, l⟩
        clear k0 k1 k2 k3 q0 q1 r0 r1 s0 s1
        obtain ⟨k0, k1, k2, k3⟩ := BN5.out _ l
        obtain ⟨q0, q1, _, _⟩ := BP5.out _ l
        obtain ⟨r0, r1, s0, s1⟩ := BAB.out _ l
        have L9 := Lib.hid l
        clear l
        by_cases hck : checkT t p off = 0
        · obtain ⟨y2l, y3l⟩ := HBT.out hck
          have HC := Lib.hid (HCP.out 0 hck)
          clear hck
          go_wp2_with fail
          refine (HC.out _ L9.out).mono ?_
          rintro e w10 ⟨rfl, l⟩
          clear k0 k1 k2 k3 q0 q1 r0 r1 s0 s1
          obtain ⟨q0, q1, _, _⟩ := BP5.out _ l
          obtain ⟨r0, r1, s0, s1⟩ := BAB.out _ l
          have L10 := Lib.hid l
          clear l
          go_wp2_with fail
          refine (HAP.out _ L10.out).mono ?_
          rintro e w11 ⟨rfl, l⟩
          clear q0 q1 r0 r1 s0 s1
          obtain ⟨q0, q1, _, _⟩ := BP5.out _ l
          obtain ⟨r0, r1, s0, s1⟩ := BAB.out _ l
          have L11 := Lib.hid l
          clear l
          go_wp2_with fail
          refine (HPB.out _ L11.out).mono ?_
          rintro e w12 ⟨rfl, l⟩
          have L12 := Lib.hid l
          clear l
          go_wp2_with fail
          go_ret
          exact ⟨rfl, gr_tr LB.out L12.out⟩
        · have HC := Lib.hid (HCP.out _ rfl)
          have hnz : (checkT t p off != 0) = true := by simpa using hck
          clear HBT HCP hck
          generalize checkT t p off = z at *
          go_wp2_with fail
          refine (HC.out _ L9.out).mono ?_
          rintro e w10 ⟨rfl, l⟩
          have L10 := Lib.hid l
          clear l
          go_wp2_with fail
          go_ret
          exact ⟨rfl, gr_tr LB.out L10.out⟩
end Go.Proofs.Ytdcpoeaddhbjbaa
