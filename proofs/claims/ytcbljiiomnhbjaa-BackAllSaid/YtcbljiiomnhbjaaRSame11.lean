/- Walk of redlineref11.Same at two values that read as one operation. (gensame11.py wrote it.) -/
import Derived.Test.YtcbljiiomnhbjaaBForm
import Derived.Test.YtcbljiiomnhbjaaSame04
namespace Go.Proofs.Ytcbljiiomnhbjaa
set_option maxRecDepth 100000
open Go.RowKit

theorem rs4_yes {w : World} {cs ds : List Value} {s : Tree} {S S' : Nat → Prop} (h1 : NodeAt S w cs s) (h2 : NodeAt S' w ds s) : Calls Try.prog 17 #[.agg (List.toArray cs), .agg (List.toArray ds)] w fun e w' => e = .returned (.bool true) ∧ Below w.heap.size w w' := by
  have h := r4same_any s s cs ds S S' w h1 h2
  rwa [eqT_yes rfl] at h
theorem sselB_self (is : Bool) (p : List Int) (a : Int) (q : List Int) (b : Int) : sselB is p a q b is p a q b = true := by simp [sselB, ptEq]
theorem rsel_yes {w : World} {is : Bool} {p q : List Int} {a b : Int} {v1 v2 v3 v4 : Value} (h1 : Ints w v1 p) (h2 : Ints w v2 q) (h3 : Ints w v3 p) (h4 : Ints w v4 q) :
    Calls Try.prog 35 #[.agg #[.bool is, v1, .int .i64 a, v2, .int .i64 b], .agg #[.bool is, v3, .int .i64 a, v4, .int .i64 b]] w fun e w' => e = .returned (.bool true) ∧ Below w.heap.size w w' := by
  have h := rssel_any is is p q p q a b a b v1 v2 v3 v4 w h1 h2 h3 h4
  rwa [sselB_self] at h

set_option maxHeartbeats 8000000 in
set_option maxRecDepth 100000 in
theorem rs11_yes (o : OpF) (v1 v2 : Value) (w : World) (hv1 : OpV w v1 o) (hv2 : OpV w v2 o) : Calls Try.prog 13 #[v1, v2] w fun e w' => e = .returned (.bool true) ∧ Below w.heap.size w w' := by
  obtain ⟨a1, c1, a2, c2, p1, m1, d1, p2, m2, d2, p3, m3, d3, a5, c5, a6, c6, a7, c7, f1, g1, h1, f2, g2, h2, i1, j1, k1, i2, j2, k2, rfl, hr1⟩ := hv1
  obtain ⟨a1', c1', a2', c2', p1', m1', d1', p2', m2', d2', p3', m3', d3', a5', c5', a6', c6', a7', c7', f1', g1', h1', f2', g2', h2', i1', j1', k1', i2', j2', k2', rfl, hr2⟩ := hv2
  dsimp only [opC]
  obtain ⟨hbW, hx, hy⟩ := two_boxes w #[.int .i64 o.kind, .slice a1 o.path.length c1, .slice a2 o.dest.length c2, .int .i64 o.pos, .bool o.node.leaf, .slice p1 m1 d1, .slice p2 m2 d2, .slice p3 m3 d3, .slice a5 o.old.length c5, .slice a6 o.new.length c6, .slice a7 o.text.length c7, .bool o.from_.1, .slice f1 g1 h1, .int .i64 o.from_.2.1.2, .slice f2 g2 h2, .int .i64 o.from_.2.2.2, .bool o.into.1, .slice i1 j1 k1, .int .i64 o.into.2.1.2, .slice i2 j2 k2, .int .i64 o.into.2.2.2] #[.int .i64 o.kind, .slice a1' o.path.length c1', .slice a2' o.dest.length c2', .int .i64 o.pos, .bool o.node.leaf, .slice p1' m1' d1', .slice p2' m2' d2', .slice p3' m3' d3', .slice a5' o.old.length c5', .slice a6' o.new.length c6', .slice a7' o.text.length c7', .bool o.from_.1, .slice f1' g1' h1', .int .i64 o.from_.2.1.2, .slice f2' g2' h2', .int .i64 o.from_.2.2.2, .bool o.into.1, .slice i1' j1' k1', .int .i64 o.into.2.1.2, .slice i2' j2' k2', .int .i64 o.into.2.2.2] 35 35
  have HX := Lib.hid hx; have HY := Lib.hid hy; have HB := Lib.hid hbW; have HR := Lib.hid (hr1.later hbW); have HS := Lib.hid (hr2.later hbW)
  clear hr1 hr2 hbW hx hy
  go_enter Try.func13, Try.ntmps13
  obtain ⟨xc0, xc1, -, -, -, -, -, -, -, -, -, -, -, -, -, -, -, -, -, -, -⟩ := op_facts HX.out
  obtain ⟨yc0, yc1, -, -, -, -, -, -, -, -, -, -, -, -, -, -, -, -, -, -, -⟩ := op_facts HY.out
  go_wp2_with fail
  refine (rsame_any o.path o.path _ _ _ HR.out.path HS.out.path).mono ?_
  rintro e w0 ⟨rfl, hb⟩
  replace hb := sm_below hb
  clear xc0 xc1 yc0 yc1
  replace HX := Lib.hid (blk_below HX.out hb); replace HY := Lib.hid (blk_below HY.out hb); replace HR := Lib.hid (HR.out.later hb); replace HS := Lib.hid (HS.out.later hb); replace HB := Lib.hid (gr_tr HB.out hb)
  clear hb
  obtain ⟨-, -, xc2, -, -, -, -, -, -, -, -, -, -, -, -, -, -, -, -, -, -⟩ := op_facts HX.out
  obtain ⟨-, -, yc2, -, -, -, -, -, -, -, -, -, -, -, -, -, -, -, -, -, -⟩ := op_facts HY.out
  go_wp2_with fail
  refine (rsame_any o.dest o.dest _ _ _ HR.out.dest HS.out.dest).mono ?_
  rintro e w1 ⟨rfl, hb⟩
  replace hb := sm_below hb
  clear xc2 yc2
  replace HX := Lib.hid (blk_below HX.out hb); replace HY := Lib.hid (blk_below HY.out hb); replace HR := Lib.hid (HR.out.later hb); replace HS := Lib.hid (HS.out.later hb); replace HB := Lib.hid (gr_tr HB.out hb)
  clear hb
  obtain ⟨-, -, -, xc3, xc4, xc5, xc6, xc7, -, -, -, -, -, -, -, -, -, -, -, -, -⟩ := op_facts HX.out
  obtain ⟨-, -, -, yc3, yc4, yc5, yc6, yc7, -, -, -, -, -, -, -, -, -, -, -, -, -⟩ := op_facts HY.out
  go_wp2_with fail
  refine (rs4_yes HR.out.node HS.out.node).mono ?_
  rintro e w2 ⟨rfl, hb⟩
  clear xc3 xc4 xc5 xc6 xc7 yc3 yc4 yc5 yc6 yc7
  replace HX := Lib.hid (blk_below HX.out hb); replace HY := Lib.hid (blk_below HY.out hb); replace HR := Lib.hid (HR.out.later hb); replace HS := Lib.hid (HS.out.later hb); replace HB := Lib.hid (gr_tr HB.out hb)
  clear hb
  obtain ⟨-, -, -, -, -, -, -, -, xc8, -, -, -, -, -, -, -, -, -, -, -, -⟩ := op_facts HX.out
  obtain ⟨-, -, -, -, -, -, -, -, yc8, -, -, -, -, -, -, -, -, -, -, -, -⟩ := op_facts HY.out
  go_wp2_with fail
  refine (r01same_any o.old o.old _ _ _ _ _ HR.out.old HS.out.old).mono ?_
  rintro e w3 ⟨rfl, hb⟩
  replace hb := sm_below hb
  clear xc8 yc8
  replace HX := Lib.hid (blk_below HX.out hb); replace HY := Lib.hid (blk_below HY.out hb); replace HR := Lib.hid (HR.out.later hb); replace HS := Lib.hid (HS.out.later hb); replace HB := Lib.hid (gr_tr HB.out hb)
  clear hb
  obtain ⟨-, -, -, -, -, -, -, -, -, xc9, -, -, -, -, -, -, -, -, -, -, -⟩ := op_facts HX.out
  obtain ⟨-, -, -, -, -, -, -, -, -, yc9, -, -, -, -, -, -, -, -, -, -, -⟩ := op_facts HY.out
  go_wp2_with fail
  refine (r01same_any o.new o.new _ _ _ _ _ HR.out.new HS.out.new).mono ?_
  rintro e w4 ⟨rfl, hb⟩
  replace hb := sm_below hb
  clear xc9 yc9
  replace HX := Lib.hid (blk_below HX.out hb); replace HY := Lib.hid (blk_below HY.out hb); replace HR := Lib.hid (HR.out.later hb); replace HS := Lib.hid (HS.out.later hb); replace HB := Lib.hid (gr_tr HB.out hb)
  clear hb
  obtain ⟨-, -, -, -, -, -, -, -, -, -, xc10, -, -, -, -, -, -, -, -, -, -⟩ := op_facts HX.out
  obtain ⟨-, -, -, -, -, -, -, -, -, -, yc10, -, -, -, -, -, -, -, -, -, -⟩ := op_facts HY.out
  go_wp2_with fail
  refine (r03same_any o.text o.text _ _ _ _ _ HR.out.text HS.out.text).mono ?_
  rintro e w5 ⟨rfl, hb⟩
  replace hb := sm_below hb
  clear xc10 yc10
  replace HX := Lib.hid (blk_below HX.out hb); replace HY := Lib.hid (blk_below HY.out hb); replace HR := Lib.hid (HR.out.later hb); replace HS := Lib.hid (HS.out.later hb); replace HB := Lib.hid (gr_tr HB.out hb)
  clear hb
  obtain ⟨-, -, -, -, -, -, -, -, -, -, -, xc11, xc12, xc13, xc14, xc15, -, -, -, -, -⟩ := op_facts HX.out
  obtain ⟨-, -, -, -, -, -, -, -, -, -, -, yc11, yc12, yc13, yc14, yc15, -, -, -, -, -⟩ := op_facts HY.out
  go_wp2_with fail
  refine (rsel_yes HR.out.fa HR.out.fb HS.out.fa HS.out.fb).mono ?_
  rintro e w6 ⟨rfl, hb⟩
  clear xc11 xc12 xc13 xc14 xc15 yc11 yc12 yc13 yc14 yc15
  replace HX := Lib.hid (blk_below HX.out hb); replace HY := Lib.hid (blk_below HY.out hb); replace HR := Lib.hid (HR.out.later hb); replace HS := Lib.hid (HS.out.later hb); replace HB := Lib.hid (gr_tr HB.out hb)
  clear hb
  obtain ⟨-, -, -, -, -, -, -, -, -, -, -, -, -, -, -, -, xc16, xc17, xc18, xc19, xc20⟩ := op_facts HX.out
  obtain ⟨-, -, -, -, -, -, -, -, -, -, -, -, -, -, -, -, yc16, yc17, yc18, yc19, yc20⟩ := op_facts HY.out
  go_wp2_with fail
  refine (rsel_yes HR.out.ia HR.out.ib HS.out.ia HS.out.ib).mono ?_
  rintro e w7 ⟨rfl, hb⟩
  clear xc16 xc17 xc18 xc19 xc20 yc16 yc17 yc18 yc19 yc20
  replace HX := Lib.hid (blk_below HX.out hb); replace HY := Lib.hid (blk_below HY.out hb); replace HR := Lib.hid (HR.out.later hb); replace HS := Lib.hid (HS.out.later hb); replace HB := Lib.hid (gr_tr HB.out hb)
  clear hb
  go_wp2_with fail
  go_ret
  exact ⟨rfl, HB.out⟩
end Go.Proofs.Ytcbljiiomnhbjaa
