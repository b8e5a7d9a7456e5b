/- Walk of redlineref11.Same at any two operations. (gensame11g.py wrote it.) -/
import Derived.Test.YtcbljiiomnhbjaaRSame11
namespace Go.Proofs.Ytcbljiiomnhbjaa
set_option maxRecDepth 100000
open Go.RowKit

/-- Whether two operations read alike. -/
noncomputable def eqO (o o' : OpF) : Bool := (o.kind == o'.kind) && (decide (o.path = o'.path) && (decide (o.dest = o'.dest) && ((o.pos == o'.pos) && (eqT o.node o'.node && (decide (o.old = o'.old) && (decide (o.new = o'.new) && (decide (o.text = o'.text) &&
  (sselB o.from_.1 o.from_.2.1.1 o.from_.2.1.2 o.from_.2.2.1 o.from_.2.2.2 o'.from_.1 o'.from_.2.1.1 o'.from_.2.1.2 o'.from_.2.2.1 o'.from_.2.2.2 && sselB o.into.1 o.into.2.1.1 o.into.2.1.2 o.into.2.2.1 o.into.2.2.2 o'.into.1 o'.into.2.1.1 o'.into.2.1.2 o'.into.2.2.1 o'.into.2.2.2))))))))

set_option maxHeartbeats 8000000 in
set_option maxRecDepth 100000 in
theorem rs11_any (o o' : OpF) (v1 v2 : Value) (w : World) (hv1 : OpV w v1 o) (hv2 : OpV w v2 o') : Calls Try.prog 13 #[v1, v2] w fun e w' => e = .returned (.bool (eqO o o')) ∧ Below w.heap.size w w' := by
  obtain ⟨a1, c1, a2, c2, p1, m1, d1, p2, m2, d2, p3, m3, d3, a5, c5, a6, c6, a7, c7, f1, g1, h1, f2, g2, h2, i1, j1, k1, i2, j2, k2, rfl, hr1⟩ := hv1
  obtain ⟨a1', c1', a2', c2', p1', m1', d1', p2', m2', d2', p3', m3', d3', a5', c5', a6', c6', a7', c7', f1', g1', h1', f2', g2', h2', i1', j1', k1', i2', j2', k2', rfl, hr2⟩ := hv2
  dsimp only [opC]
  obtain ⟨hbW, hx, hy⟩ := two_boxes w #[.int .i64 o.kind, .slice a1 o.path.length c1, .slice a2 o.dest.length c2, .int .i64 o.pos, .bool o.node.leaf, .slice p1 m1 d1, .slice p2 m2 d2, .slice p3 m3 d3, .slice a5 o.old.length c5, .slice a6 o.new.length c6, .slice a7 o.text.length c7, .bool o.from_.1, .slice f1 g1 h1, .int .i64 o.from_.2.1.2, .slice f2 g2 h2, .int .i64 o.from_.2.2.2, .bool o.into.1, .slice i1 j1 k1, .int .i64 o.into.2.1.2, .slice i2 j2 k2, .int .i64 o.into.2.2.2] #[.int .i64 o'.kind, .slice a1' o'.path.length c1', .slice a2' o'.dest.length c2', .int .i64 o'.pos, .bool o'.node.leaf, .slice p1' m1' d1', .slice p2' m2' d2', .slice p3' m3' d3', .slice a5' o'.old.length c5', .slice a6' o'.new.length c6', .slice a7' o'.text.length c7', .bool o'.from_.1, .slice f1' g1' h1', .int .i64 o'.from_.2.1.2, .slice f2' g2' h2', .int .i64 o'.from_.2.2.2, .bool o'.into.1, .slice i1' j1' k1', .int .i64 o'.into.2.1.2, .slice i2' j2' k2', .int .i64 o'.into.2.2.2] 35 35
  have HX := Lib.hid hx; have HY := Lib.hid hy; have HB := Lib.hid hbW; have HR := Lib.hid (hr1.later hbW); have HS := Lib.hid (hr2.later hbW)
  obtain ⟨bk, hbk⟩ : ∃ b, (o.kind == o'.kind) = b := ⟨_, rfl⟩; obtain ⟨bp, hbp⟩ : ∃ b, (o.pos == o'.pos) = b := ⟨_, rfl⟩
  obtain ⟨b0, hb0⟩ : ∃ b, decide (o.path = o'.path) = b := ⟨_, rfl⟩
  obtain ⟨b1, hb1⟩ : ∃ b, decide (o.dest = o'.dest) = b := ⟨_, rfl⟩
  obtain ⟨b2, hb2⟩ : ∃ b, eqT o.node o'.node = b := ⟨_, rfl⟩
  obtain ⟨b3, hb3⟩ : ∃ b, decide (o.old = o'.old) = b := ⟨_, rfl⟩
  obtain ⟨b4, hb4⟩ : ∃ b, decide (o.new = o'.new) = b := ⟨_, rfl⟩
  obtain ⟨b5, hb5⟩ : ∃ b, decide (o.text = o'.text) = b := ⟨_, rfl⟩
  obtain ⟨b6, hb6⟩ : ∃ b, sselB o.from_.1 o.from_.2.1.1 o.from_.2.1.2 o.from_.2.2.1 o.from_.2.2.2 o'.from_.1 o'.from_.2.1.1 o'.from_.2.1.2 o'.from_.2.2.1 o'.from_.2.2.2 = b := ⟨_, rfl⟩
  obtain ⟨b7, hb7⟩ : ∃ b, sselB o.into.1 o.into.2.1.1 o.into.2.1.2 o.into.2.2.1 o.into.2.2.2 o'.into.1 o'.into.2.1.1 o'.into.2.1.2 o'.into.2.2.1 o'.into.2.2.2 = b := ⟨_, rfl⟩
  obtain ⟨E, hE⟩ : ∃ E, eqO o o' = E := ⟨_, rfl⟩
  have hE2 : E = (bk && (b0 && (b1 && (bp && (b2 && (b3 && (b4 && (b5 && (b6 && b7))))))))) := by rw [← hE, ← hbk, ← hbp, ← hb0, ← hb1, ← hb2, ← hb3, ← hb4, ← hb5, ← hb6, ← hb7]; rfl
  rw [hE]; have HE := Lib.hid hE2
  have K0 := Lib.hid hb0; have K1 := Lib.hid hb1; have K2 := Lib.hid hb2; have K3 := Lib.hid hb3; have K4 := Lib.hid hb4; have K5 := Lib.hid hb5; have K6 := Lib.hid hb6; have K7 := Lib.hid hb7
  clear hr1 hr2 hbW hx hy hE hE2 hb0 hb1 hb2 hb3 hb4 hb5 hb6 hb7
  go_enter Try.func13, Try.ntmps13
  obtain ⟨xc0, xc1, -, -, -, -, -, -, -, -, -, -, -, -, -, -, -, -, -, -, -⟩ := op_facts HX.out
  obtain ⟨yc0, yc1, -, -, -, -, -, -, -, -, -, -, -, -, -, -, -, -, -, -, -⟩ := op_facts HY.out
  cases bk
  case false =>
    go_wp2_with fail
    go_ret
    exact ⟨ret_bool (by rw [HE.out]; try simp), HB.out⟩
  go_wp2_with fail
  refine (rsame_any o.path o'.path _ _ _ HR.out.path HS.out.path).mono ?_
  rw [K0.out]
  rintro e w0 ⟨rfl, hb⟩
  replace hb := sm_below hb
  clear xc0 xc1 yc0 yc1 K0
  replace HX := Lib.hid (blk_below HX.out hb); replace HY := Lib.hid (blk_below HY.out hb); replace HR := Lib.hid (HR.out.later hb); replace HS := Lib.hid (HS.out.later hb); replace HB := Lib.hid (gr_tr HB.out hb)
  clear hb
  cases b0
  case false =>
    go_wp2_with fail
    go_ret
    exact ⟨ret_bool (by rw [HE.out]; try simp), HB.out⟩
  obtain ⟨-, -, xc2, -, -, -, -, -, -, -, -, -, -, -, -, -, -, -, -, -, -⟩ := op_facts HX.out
  obtain ⟨-, -, yc2, -, -, -, -, -, -, -, -, -, -, -, -, -, -, -, -, -, -⟩ := op_facts HY.out
  go_wp2_with fail
  refine (rsame_any o.dest o'.dest _ _ _ HR.out.dest HS.out.dest).mono ?_
  rw [K1.out]
  rintro e w1 ⟨rfl, hb⟩
  replace hb := sm_below hb
  clear xc2 yc2 K1
  replace HX := Lib.hid (blk_below HX.out hb); replace HY := Lib.hid (blk_below HY.out hb); replace HR := Lib.hid (HR.out.later hb); replace HS := Lib.hid (HS.out.later hb); replace HB := Lib.hid (gr_tr HB.out hb)
  clear hb
  cases b1
  case false =>
    go_wp2_with fail
    go_ret
    exact ⟨ret_bool (by rw [HE.out]; try simp), HB.out⟩
  obtain ⟨-, -, -, xc3, xc4, xc5, xc6, xc7, -, -, -, -, -, -, -, -, -, -, -, -, -⟩ := op_facts HX.out
  obtain ⟨-, -, -, yc3, yc4, yc5, yc6, yc7, -, -, -, -, -, -, -, -, -, -, -, -, -⟩ := op_facts HY.out
  cases bp
  case false =>
    go_wp2_with fail
    go_ret
    exact ⟨ret_bool (by rw [HE.out]; try simp), HB.out⟩
  go_wp2_with fail
  refine (r4same_any o.node o'.node _ _ _ _ _ HR.out.node HS.out.node).mono ?_
  rw [K2.out]
  rintro e w2 ⟨rfl, hb⟩
  clear xc3 xc4 xc5 xc6 xc7 yc3 yc4 yc5 yc6 yc7 K2
  replace HX := Lib.hid (blk_below HX.out hb); replace HY := Lib.hid (blk_below HY.out hb); replace HR := Lib.hid (HR.out.later hb); replace HS := Lib.hid (HS.out.later hb); replace HB := Lib.hid (gr_tr HB.out hb)
  clear hb
  cases b2
  case false =>
    go_wp2_with fail
    go_ret
    exact ⟨ret_bool (by rw [HE.out]; try simp), HB.out⟩
  obtain ⟨-, -, -, -, -, -, -, -, xc8, -, -, -, -, -, -, -, -, -, -, -, -⟩ := op_facts HX.out
  obtain ⟨-, -, -, -, -, -, -, -, yc8, -, -, -, -, -, -, -, -, -, -, -, -⟩ := op_facts HY.out
  go_wp2_with fail
  refine (r01same_any o.old o'.old _ _ _ _ _ HR.out.old HS.out.old).mono ?_
  rw [K3.out]
  rintro e w3 ⟨rfl, hb⟩
  replace hb := sm_below hb
  clear xc8 yc8 K3
  replace HX := Lib.hid (blk_below HX.out hb); replace HY := Lib.hid (blk_below HY.out hb); replace HR := Lib.hid (HR.out.later hb); replace HS := Lib.hid (HS.out.later hb); replace HB := Lib.hid (gr_tr HB.out hb)
  clear hb
  cases b3
  case false =>
    go_wp2_with fail
    go_ret
    exact ⟨ret_bool (by rw [HE.out]; try simp), HB.out⟩
  obtain ⟨-, -, -, -, -, -, -, -, -, xc9, -, -, -, -, -, -, -, -, -, -, -⟩ := op_facts HX.out
  obtain ⟨-, -, -, -, -, -, -, -, -, yc9, -, -, -, -, -, -, -, -, -, -, -⟩ := op_facts HY.out
  go_wp2_with fail
  refine (r01same_any o.new o'.new _ _ _ _ _ HR.out.new HS.out.new).mono ?_
  rw [K4.out]
  rintro e w4 ⟨rfl, hb⟩
  replace hb := sm_below hb
  clear xc9 yc9 K4
  replace HX := Lib.hid (blk_below HX.out hb); replace HY := Lib.hid (blk_below HY.out hb); replace HR := Lib.hid (HR.out.later hb); replace HS := Lib.hid (HS.out.later hb); replace HB := Lib.hid (gr_tr HB.out hb)
  clear hb
  cases b4
  case false =>
    go_wp2_with fail
    go_ret
    exact ⟨ret_bool (by rw [HE.out]; try simp), HB.out⟩
  obtain ⟨-, -, -, -, -, -, -, -, -, -, xc10, -, -, -, -, -, -, -, -, -, -⟩ := op_facts HX.out
  obtain ⟨-, -, -, -, -, -, -, -, -, -, yc10, -, -, -, -, -, -, -, -, -, -⟩ := op_facts HY.out
  go_wp2_with fail
  refine (r03same_any o.text o'.text _ _ _ _ _ HR.out.text HS.out.text).mono ?_
  rw [K5.out]
  rintro e w5 ⟨rfl, hb⟩
  replace hb := sm_below hb
  clear xc10 yc10 K5
  replace HX := Lib.hid (blk_below HX.out hb); replace HY := Lib.hid (blk_below HY.out hb); replace HR := Lib.hid (HR.out.later hb); replace HS := Lib.hid (HS.out.later hb); replace HB := Lib.hid (gr_tr HB.out hb)
  clear hb
  cases b5
  case false =>
    go_wp2_with fail
    go_ret
    exact ⟨ret_bool (by rw [HE.out]; try simp), HB.out⟩
  obtain ⟨-, -, -, -, -, -, -, -, -, -, -, xc11, xc12, xc13, xc14, xc15, -, -, -, -, -⟩ := op_facts HX.out
  obtain ⟨-, -, -, -, -, -, -, -, -, -, -, yc11, yc12, yc13, yc14, yc15, -, -, -, -, -⟩ := op_facts HY.out
  go_wp2_with fail
  refine (rssel_any _ _ _ _ _ _ _ _ _ _ _ _ _ _ _ HR.out.fa HR.out.fb HS.out.fa HS.out.fb).mono ?_
  rw [K6.out]
  rintro e w6 ⟨rfl, hb⟩
  clear xc11 xc12 xc13 xc14 xc15 yc11 yc12 yc13 yc14 yc15 K6
  replace HX := Lib.hid (blk_below HX.out hb); replace HY := Lib.hid (blk_below HY.out hb); replace HR := Lib.hid (HR.out.later hb); replace HS := Lib.hid (HS.out.later hb); replace HB := Lib.hid (gr_tr HB.out hb)
  clear hb
  cases b6
  case false =>
    go_wp2_with fail
    go_ret
    exact ⟨ret_bool (by rw [HE.out]; try simp), HB.out⟩
  obtain ⟨-, -, -, -, -, -, -, -, -, -, -, -, -, -, -, -, xc16, xc17, xc18, xc19, xc20⟩ := op_facts HX.out
  obtain ⟨-, -, -, -, -, -, -, -, -, -, -, -, -, -, -, -, yc16, yc17, yc18, yc19, yc20⟩ := op_facts HY.out
  go_wp2_with fail
  refine (rssel_any _ _ _ _ _ _ _ _ _ _ _ _ _ _ _ HR.out.ia HR.out.ib HS.out.ia HS.out.ib).mono ?_
  rw [K7.out]
  rintro e w7 ⟨rfl, hb⟩
  clear xc16 xc17 xc18 xc19 xc20 yc16 yc17 yc18 yc19 yc20 K7
  replace HX := Lib.hid (blk_below HX.out hb); replace HY := Lib.hid (blk_below HY.out hb); replace HR := Lib.hid (HR.out.later hb); replace HS := Lib.hid (HS.out.later hb); replace HB := Lib.hid (gr_tr HB.out hb)
  clear hb
  go_wp2_with fail
  go_ret
  exact ⟨ret_bool (by rw [HE.out]; try simp), HB.out⟩
end Go.Proofs.Ytcbljiiomnhbjaa
