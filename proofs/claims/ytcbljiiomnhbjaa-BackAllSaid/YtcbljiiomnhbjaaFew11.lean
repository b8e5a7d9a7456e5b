/- Walks of redlineref11.FewSel and Few. (genfew11.py wrote it.) -/
import Derived.Test.YtcbljiiomnhbjaaBForm
import Derived.Test.YtcbljiiomnhbjaaSame04
namespace Go.Proofs.Ytcbljiiomnhbjaa
set_option maxRecDepth 100000
open Go.RowKit

set_option maxHeartbeats 1000000 in
set_option maxRecDepth 100000 in
theorem fewsel_any (is : Bool) (p q : List Int) (a b : Int) (v1 v2 : Value) (w : World) (h1 : Ints w v1 p) (h2 : Ints w v2 q) : Calls Try.prog 25 #[.agg #[.bool is, v1, .int .i64 a, v2, .int .i64 b]] w (SomeBool w) := by
  obtain ⟨a1, c1, rfl⟩ := h1.slice
  obtain ⟨a2, c2, rfl⟩ := h2.slice
  have HB := Lib.hid (gr_al (gr_refl w) (.cells #[.bool is, .slice a1 p.length c1, .int .i64 a, .slice a2 q.length c2, .int .i64 b] 33))
  have hx := heap_alloc_new w (.cells #[.bool is, .slice a1 p.length c1, .int .i64 a, .slice a2 q.length c2, .int .i64 b] 33)
  have HX := Lib.hid hx
  clear h1 h2 hx
  go_enter Try.func25, Try.ntmps25
  go_upto_region 1 with fail
  generalize World.alloc w _ = W at *
  obtain ⟨-, x1, -, x3, -⟩ := five_facts HX.out
  by_cases g : (p.length : Int) ≤ 60
  case neg =>
    have q := decide_eq_false g
    clear g
    go_wp2_with fail
    go_ret
    exact ⟨_, rfl, HB.out⟩
  have q0 := decide_eq_true g
  clear g
  go_wp2_with fail
  go_ret
  exact ⟨_, rfl, HB.out⟩

/-- What Few tells of an operation. -/
def FewP (o : OpF) (w : World) (e : Ending) (w' : World) : Prop := ∃ b : Bool, e = .returned (.bool b) ∧ (b = true → o.path.length ≤ 60 ∧ o.dest.length ≤ 60) ∧ Below w.heap.size w w'
set_option maxHeartbeats 8000000 in
set_option maxRecDepth 100000 in
theorem few11_any (o : OpF) (v : Value) (w : World) (hv : OpV w v o) : Calls Try.prog 10 #[v] w (FewP o w) := by
  obtain ⟨a1, c1, a2, c2, p1, m1, d1, p2, m2, d2, p3, m3, d3, a5, c5, a6, c6, a7, c7, f1, g1, h1, f2, g2, h2, i1, j1, k1, i2, j2, k2, rfl, hr⟩ := hv
  dsimp only [opC]
  have hbW := gr_al (gr_refl w) (.cells #[.int .i64 o.kind, .slice a1 o.path.length c1, .slice a2 o.dest.length c2, .int .i64 o.pos, .bool o.node.leaf, .slice p1 m1 d1, .slice p2 m2 d2, .slice p3 m3 d3, .slice a5 o.old.length c5, .slice a6 o.new.length c6, .slice a7 o.text.length c7, .bool o.from_.1, .slice f1 g1 h1, .int .i64 o.from_.2.1.2, .slice f2 g2 h2, .int .i64 o.from_.2.2.2, .bool o.into.1, .slice i1 j1 k1, .int .i64 o.into.2.1.2, .slice i2 j2 k2, .int .i64 o.into.2.2.2] 35)
  have hx := heap_alloc_new w (.cells #[.int .i64 o.kind, .slice a1 o.path.length c1, .slice a2 o.dest.length c2, .int .i64 o.pos, .bool o.node.leaf, .slice p1 m1 d1, .slice p2 m2 d2, .slice p3 m3 d3, .slice a5 o.old.length c5, .slice a6 o.new.length c6, .slice a7 o.text.length c7, .bool o.from_.1, .slice f1 g1 h1, .int .i64 o.from_.2.1.2, .slice f2 g2 h2, .int .i64 o.from_.2.2.2, .bool o.into.1, .slice i1 j1 k1, .int .i64 o.into.2.1.2, .slice i2 j2 k2, .int .i64 o.into.2.2.2] 35)
  have HX := Lib.hid hx; have HB := Lib.hid hbW; have HR := Lib.hid (hr.later hbW)
  clear hr hbW hx
  go_enter Try.func10, Try.ntmps10
  go_upto_region 1 with fail
  generalize World.alloc w _ = W at *
  obtain ⟨-, x1, x2, -, -, -, -, -, x8, x9, x10, -, -, -, -, -, -, -, -, -, -⟩ := op_facts HX.out
  by_cases g0 : (o.path.length : Int) ≤ 60
  case neg =>
    have q0 := decide_eq_false g0
    clear g0
    go_wp2_with fail
    go_ret
    exact ⟨_, rfl, (fun h => by cases h), HB.out⟩
  have q0 := decide_eq_true g0
  have G0 := Lib.hid g0
  clear g0
  by_cases g1 : (o.dest.length : Int) ≤ 60
  case neg =>
    have q1 := decide_eq_false g1
    clear g1
    go_wp2_with fail
    go_ret
    exact ⟨_, rfl, (fun h => by cases h), HB.out⟩
  have q1 := decide_eq_true g1
  have G1 := Lib.hid g1
  clear g1
  by_cases g2 : (o.text.length : Int) ≤ 100
  case neg =>
    have q2 := decide_eq_false g2
    clear g2
    go_wp2_with fail
    go_ret
    exact ⟨_, rfl, (fun h => by cases h), HB.out⟩
  have q2 := decide_eq_true g2
  clear g2
  by_cases g3 : (o.old.length : Int) ≤ 40
  case neg =>
    have q3 := decide_eq_false g3
    clear g3
    go_wp2_with fail
    go_ret
    exact ⟨_, rfl, (fun h => by cases h), HB.out⟩
  have q3 := decide_eq_true g3
  clear g3
  by_cases g4 : (o.new.length : Int) ≤ 40
  case neg =>
    have q4 := decide_eq_false g4
    clear g4
    go_wp2_with fail
    go_ret
    exact ⟨_, rfl, (fun h => by cases h), HB.out⟩
  have q4 := decide_eq_true g4
  clear g4
  clear x1 x2 x8 x9 x10
  obtain ⟨-, x1, x2, -, x4, x5, x6, x7, x8, x9, x10, -, -, -, -, -, -, -, -, -, -⟩ := op_facts HX.out
  go_wp2_with fail
  refine (fewN_any o.node _ _ 100 _ HR.out.node).mono ?_
  rintro e w0 ⟨b0, rfl, hb⟩
  clear x1 x2 x4 x5 x6 x7 x8 x9 x10
  replace HX := Lib.hid (blk_below HX.out hb); replace HR := Lib.hid (HR.out.later hb); replace HB := Lib.hid (gr_tr HB.out hb)
  clear hb
  cases b0
  case false =>
    go_wp2_with fail
    go_ret
    exact ⟨_, rfl, (fun h => by cases h), HB.out⟩
  obtain ⟨-, -, -, -, -, -, -, -, -, -, -, x11, x12, x13, x14, x15, -, -, -, -, -⟩ := op_facts HX.out
  go_wp2_with fail
  refine (fewsel_any _ _ _ _ _ _ _ _ HR.out.fa HR.out.fb).mono ?_
  rintro e w1 ⟨b1, rfl, hb⟩
  clear x11 x12 x13 x14 x15
  replace HX := Lib.hid (blk_below HX.out hb); replace HR := Lib.hid (HR.out.later hb); replace HB := Lib.hid (gr_tr HB.out hb)
  clear hb
  cases b1
  case false =>
    go_wp2_with fail
    go_ret
    exact ⟨_, rfl, (fun h => by cases h), HB.out⟩
  obtain ⟨-, -, -, -, -, -, -, -, -, -, -, -, -, -, -, -, x16, x17, x18, x19, x20⟩ := op_facts HX.out
  go_wp2_with fail
  refine (fewsel_any _ _ _ _ _ _ _ _ HR.out.ia HR.out.ib).mono ?_
  rintro e w2 ⟨b2, rfl, hb⟩
  clear x16 x17 x18 x19 x20
  replace HX := Lib.hid (blk_below HX.out hb); replace HR := Lib.hid (HR.out.later hb); replace HB := Lib.hid (gr_tr HB.out hb)
  clear hb
  cases b2
  case false =>
    go_wp2_with fail
    go_ret
    exact ⟨_, rfl, (fun h => by cases h), HB.out⟩
  obtain ⟨-, -, -, -, -, -, -, -, x8, -, -, -, -, -, -, -, -, -, -, -, -⟩ := op_facts HX.out
  go_wp2_with fail
  refine (fewN_any (.mk false o.old [] []) [.bool false, .slice a5 o.old.length c5, .slice none 0 0, .slice none 0 0] Any 100 _ (.mk HR.out.old (Sl.nil _ _ _ _) (Sl.nil _ _ _ _) rfl (fun i hi => by simp at hi))).mono ?_
  rintro e w3 ⟨b3, rfl, hb⟩
  clear x8
  replace HX := Lib.hid (blk_below HX.out hb); replace HR := Lib.hid (HR.out.later hb); replace HB := Lib.hid (gr_tr HB.out hb)
  clear hb
  cases b3
  case false =>
    go_wp2_with fail
    go_ret
    exact ⟨_, rfl, (fun h => by cases h), HB.out⟩
  obtain ⟨-, -, -, -, -, -, -, -, -, x9, -, -, -, -, -, -, -, -, -, -, -⟩ := op_facts HX.out
  go_wp2_with fail
  refine (fewN_any (.mk false o.new [] []) [.bool false, .slice a6 o.new.length c6, .slice none 0 0, .slice none 0 0] Any 100 _ (.mk HR.out.new (Sl.nil _ _ _ _) (Sl.nil _ _ _ _) rfl (fun i hi => by simp at hi))).mono ?_
  rintro e w4 ⟨b4, rfl, hb⟩
  clear x9
  replace HX := Lib.hid (blk_below HX.out hb); replace HR := Lib.hid (HR.out.later hb); replace HB := Lib.hid (gr_tr HB.out hb)
  clear hb
  go_wp2_with fail
  go_ret
  exact ⟨_, rfl, fun _ => ⟨by have := G0.out; omega, by have := G1.out; omega⟩, HB.out⟩
end Go.Proofs.Ytcbljiiomnhbjaa
