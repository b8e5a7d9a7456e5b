/- Walk of redlineref11.fields. (genfld.py wrote it.) Plain Lean: an operation has its fields just if it is the one with those alone. The walk of redlineref11.Form; words for whole operations in boxes. (genrform.py wrote it.) -/
import Derived.Test.YtcbljiiomnhbjaaBInvH
import Derived.Test.YtcbljiiomnhbjaaFormP
import Derived.Test.YtcbljiiomnhbjaaRS11
import Derived.Test.YtcbljiiomnhbjaaFormZ
import Derived.Test.YtcbljiiomnhbjaaLive11
namespace Go.Proofs.Ytcbljiiomnhbjaa
set_option maxRecDepth 100000
open Go.RowKit

/- Walk of redlineref11.fields. (genfld.py wrote it.) -/
theorem zeroNdF (w : World) : NodeAt Any w [.bool false, .slice none 0 0, .slice none 0 0, .slice none 0 0] noT := .mk (Sl.nil _ _ _ _) (Sl.nil _ _ _ _) (Sl.nil _ _ _ _) rfl (fun i hi => by simp at hi)
theorem heap_setCell_off (w : World) (a : Addr) (v : Value) (b : Nat) (h : b ≠ a.block) : (w.setCell a v).heap[b]? = w.heap[b]? :=
  heap_setCell_other w a b v h
theorem wpList_node4 {ops : Array Oper} {rest : List Oper} {o : Oper} {a : Act} {w : World} {Q : Exit → Act → World → Prop} (hgd : o.guard = none) (x y : Operand) (ho : o.op = .store 27 x y)
    (g : Nat) (y0 y1 y2 y3 : Value) (hx : a.eval x = .pointer (some ⟨g, 4, none⟩)) (hy : a.eval y = .agg #[y0, y1, y2, y3]) (x0 x1 x2 x3 x4 x5 x6 x7 x8 x9 x10 x11 x12 x13 x14 x15 x16 x17 x18 x19 x20 : Value) (t : TypeId)
    (hg : w.heap[g]? = some (.cells #[x0, x1, x2, x3, x4, x5, x6, x7, x8, x9, x10, x11, x12, x13, x14, x15, x16, x17, x18, x19, x20] t (0, 0))) (h1 : [y0, y1, y2, y3].all (·.oneCell') = true)
    (h : wpList Try.prog ops Q rest (a.put o.dst undef) (w.setRow g #[x0, x1, x2, x3, y0, y1, y2, y3, x8, x9, x10, x11, x12, x13, x14, x15, x16, x17, x18, x19, x20])) : wpList Try.prog ops Q (o :: rest) a w :=
  wpList_store_at hgd 27 x y ho g 4 #[y0, y1, y2, y3] hx hy t #[x0, x1, x2, x3, x4, x5, x6, x7, x8, x9, x10, x11, x12, x13, x14, x15, x16, x17, x18, x19, x20] #[x0, x1, x2, x3, y0, y1, y2, y3, x8, x9, x10, x11, x12, x13, x14, x15, x16, x17, x18, x19, x20] hg (show (Try.prog.info? 27).map (·.size) = some 4 by kernel_rfl) (by simp) (by rw [← Array.all_toList]; exact h1) rfl h
/-- The operation with the fields of its kind alone. -/
def fldO (o : OpF) : OpF :=
  if o.kind = 1 then { kO o.kind with path := o.path, node := o.node } else if o.kind = 2 then { kO o.kind with path := o.path, node := o.node } else if o.kind = 3 then { kO o.kind with path := o.path, pos := o.pos, old := o.old } else if o.kind = 4 then { kO o.kind with path := o.path, pos := o.pos, new := o.new }
  else if o.kind = 5 then { kO o.kind with path := o.path, dest := o.dest } else if o.kind = 6 then { kO o.kind with path := o.path, old := o.old, new := o.new } else if o.kind = 7 then { kO o.kind with path := o.path, pos := o.pos, text := o.text } else if o.kind = 8 then { kO o.kind with path := o.path, pos := o.pos, text := o.text }
  else if o.kind = 9 then { kO o.kind with from_ := o.from_, into := o.into } else { kO o.kind with path := o.path }
def fldB (o : OpF) : Bool := decide (1 ≤ o.kind ∧ o.kind ≤ 9)
/-- What fields hands back. -/
def FldP (o : OpF) (b : Bool) (w : World) (e : Ending) (w' : World) : Prop := ∃ cs : Array Value, e = .returned (.tuple #[.agg cs, .bool b]) ∧ OpV w' (.agg cs) o ∧ Below w.heap.size w w'

set_option maxHeartbeats 8000000 in
set_option maxRecDepth 100000 in
theorem fields_any (o : OpF) (v : Value) (w : World) (hv : OpV w v o) : Calls Try.prog 39 #[v] w (FldP (fldO o) (fldB o) w) := by
  obtain ⟨a1, c1, a2, c2, p1, m1, d1, p2, m2, d2, p3, m3, d3, a5, c5, a6, c6, a7, c7, f1, g1, h1, f2, g2, h2, i1, j1, k1, i2, j2, k2, rfl, hr⟩ := hv
  dsimp only [opC]
  obtain ⟨hbW, hx, hz⟩ := two_boxes w #[.int .i64 o.kind, .slice a1 o.path.length c1, .slice a2 o.dest.length c2, .int .i64 o.pos, .bool o.node.leaf, .slice p1 m1 d1, .slice p2 m2 d2, .slice p3 m3 d3, .slice a5 o.old.length c5, .slice a6 o.new.length c6, .slice a7 o.text.length c7, .bool o.from_.1, .slice f1 g1 h1, .int .i64 o.from_.2.1.2, .slice f2 g2 h2, .int .i64 o.from_.2.2.2, .bool o.into.1, .slice i1 j1 k1, .int .i64 o.into.2.1.2, .slice i2 j2 k2, .int .i64 o.into.2.2.2] #[.int .i64 0, .slice none 0 0, .slice none 0 0, .int .i64 0, .bool false, .slice none 0 0, .slice none 0 0, .slice none 0 0, .slice none 0 0, .slice none 0 0, .slice none 0 0, .bool false, .slice none 0 0, .int .i64 0, .slice none 0 0, .int .i64 0, .bool false, .slice none 0 0, .int .i64 0, .slice none 0 0, .int .i64 0] 35 35
  have HR := Lib.hid hr; have HX := Lib.hid hx; have HZ := Lib.hid hz; have HB := Lib.hid hbW
  obtain ⟨OO, hOO⟩ : ∃ OO, fldO o = OO := ⟨_, rfl⟩
  obtain ⟨EE, hEE⟩ : ∃ EE, fldB o = EE := ⟨_, rfl⟩
  rw [hOO, hEE]
  have HOO := Lib.hid hOO; have HEE := Lib.hid hEE
  clear hr hbW hx hz hOO hEE
  go_enter Try.func39, Try.ntmps39
  go_upto_region 1 with fail
  generalize World.alloc (World.alloc w _) _ = W at *
  have HWS := Lib.hid (show w.heap.size + 1 < W.heap.size from lt_of_block HZ.out)
  obtain ⟨x0, x1, -⟩ := op_facts HX.out
  have zh0 : (#[.int .i64 o.kind, .slice a1 o.path.length c1, .slice none 0 0, .int .i64 0, .bool false, .slice none 0 0, .slice none 0 0, .slice none 0 0, .slice none 0 0, .slice none 0 0, .slice none 0 0, .bool false, .slice none 0 0, .int .i64 0, .slice none 0 0, .int .i64 0, .bool false, .slice none 0 0, .int .i64 0, .slice none 0 0, .int .i64 0] : Array Value).all (·.oneCell') = true := by rw [← Array.all_toList]; rfl
  go_upto_region 2 with (refine wpList_store_row rfl 35 _ _ rfl _ _ rfl rfl 35 _ (heap_alloc_new W (.cells #[.int .i64 0, .slice none 0 0, .slice none 0 0, .int .i64 0, .bool false, .slice none 0 0, .slice none 0 0, .slice none 0 0, .slice none 0 0, .slice none 0 0, .slice none 0 0, .bool false, .slice none 0 0, .int .i64 0, .slice none 0 0, .int .i64 0, .bool false, .slice none 0 0, .int .i64 0, .slice none 0 0, .int .i64 0] 35)) op_info rfl zh0 ?_)
  have hal : Below W.heap.size W ((W.alloc (.cells #[.int .i64 0, .slice none 0 0, .slice none 0 0, .int .i64 0, .bool false, .slice none 0 0, .slice none 0 0, .slice none 0 0, .slice none 0 0, .slice none 0 0, .slice none 0 0, .bool false, .slice none 0 0, .int .i64 0, .slice none 0 0, .int .i64 0, .bool false, .slice none 0 0, .int .i64 0, .slice none 0 0, .int .i64 0] 35)).setRow W.heap.size #[.int .i64 o.kind, .slice a1 o.path.length c1, .slice none 0 0, .int .i64 0, .bool false, .slice none 0 0, .slice none 0 0, .slice none 0 0, .slice none 0 0, .slice none 0 0, .slice none 0 0, .bool false, .slice none 0 0, .int .i64 0, .slice none 0 0, .int .i64 0, .bool false, .slice none 0 0, .int .i64 0, .slice none 0 0, .int .i64 0]) := (gr_al (gr_refl W) (.cells #[.int .i64 0, .slice none 0 0, .slice none 0 0, .int .i64 0, .bool false, .slice none 0 0, .slice none 0 0, .slice none 0 0, .slice none 0 0, .slice none 0 0, .slice none 0 0, .bool false, .slice none 0 0, .int .i64 0, .slice none 0 0, .int .i64 0, .bool false, .slice none 0 0, .int .i64 0, .slice none 0 0, .int .i64 0] 35)).trans ⟨rfl, rfl, rfl, by simp, fun b hb => setRow_other _ W.heap.size b _ (by omega)⟩
  have hy := setRow_heap (W.alloc (.cells #[.int .i64 0, .slice none 0 0, .slice none 0 0, .int .i64 0, .bool false, .slice none 0 0, .slice none 0 0, .slice none 0 0, .slice none 0 0, .slice none 0 0, .slice none 0 0, .bool false, .slice none 0 0, .int .i64 0, .slice none 0 0, .int .i64 0, .bool false, .slice none 0 0, .int .i64 0, .slice none 0 0, .int .i64 0] 35)) W.heap.size _ #[.int .i64 o.kind, .slice a1 o.path.length c1, .slice none 0 0, .int .i64 0, .bool false, .slice none 0 0, .slice none 0 0, .slice none 0 0, .slice none 0 0, .slice none 0 0, .slice none 0 0, .bool false, .slice none 0 0, .int .i64 0, .slice none 0 0, .int .i64 0, .bool false, .slice none 0 0, .int .i64 0, .slice none 0 0, .int .i64 0] _ (0, 0) (heap_alloc_new W (.cells #[.int .i64 0, .slice none 0 0, .slice none 0 0, .int .i64 0, .bool false, .slice none 0 0, .slice none 0 0, .slice none 0 0, .slice none 0 0, .slice none 0 0, .slice none 0 0, .bool false, .slice none 0 0, .int .i64 0, .slice none 0 0, .int .i64 0, .bool false, .slice none 0 0, .int .i64 0, .slice none 0 0, .int .i64 0] 35))
  obtain ⟨g, hg⟩ : ∃ g, W.heap.size = g := ⟨_, rfl⟩
  rw [hg] at hy ⊢
  have hal2 := hal; rw [hg] at hal2
  have HY := Lib.hid hy; have LB := Lib.hid (gr_tr HB.out hal); have HX1 := Lib.hid (blk_below HX.out hal); have HZ1 := Lib.hid (blk_below HZ.out hal); have HG := Lib.hid (show w.heap.size + 1 < g by have := HWS.out; omega)
  have LB2 := LB.out; rw [hg] at LB2; have hx1 := HX1.out; rw [hg] at hx1; have hz1 := HZ1.out; rw [hg] at hz1
  replace LB := Lib.hid LB2; replace HX := Lib.hid hx1; replace HZ := Lib.hid hz1
  clear zh0 hal hal2 hy hg LB2 hx1 hz1 HX1 HZ1 x0 x1 HB HWS
  generalize World.setRow (W.alloc _) _ _ = U at *
  by_cases hk1 : o.kind = 1
  case pos =>
    have q1 : (o.kind == 1) = true := by simpa using hk1
    have HK := Lib.hid hk1; clear hk1
    obtain ⟨x0, -, -, -, x4, x5, x6, x7, -, -, -, -, -, -, -, -, -, -, -, -, -⟩ := op_facts HX.out
    have s1 := setRow_heap U g _ #[.int .i64 o.kind, .slice a1 o.path.length c1, .slice none 0 0, .int .i64 0, .bool o.node.leaf, .slice p1 m1 d1, .slice p2 m2 d2, .slice p3 m3 d3, .slice none 0 0, .slice none 0 0, .slice none 0 0, .bool false, .slice none 0 0, .int .i64 0, .slice none 0 0, .int .i64 0, .bool false, .slice none 0 0, .int .i64 0, .slice none 0 0, .int .i64 0] 35 (0, 0) HY.out
    have s3 : Below w.heap.size w (U.setRow g #[.int .i64 o.kind, .slice a1 o.path.length c1, .slice none 0 0, .int .i64 0, .bool o.node.leaf, .slice p1 m1 d1, .slice p2 m2 d2, .slice p3 m3 d3, .slice none 0 0, .slice none 0 0, .slice none 0 0, .bool false, .slice none 0 0, .int .i64 0, .slice none 0 0, .int .i64 0, .bool false, .slice none 0 0, .int .i64 0, .slice none 0 0, .int .i64 0]) := LB.out.trans ⟨rfl, rfl, rfl, by simp, fun b hb => setRow_other _ g b _ (by have := HG.out; omega)⟩
    have s4 : (U.setRow g #[.int .i64 o.kind, .slice a1 o.path.length c1, .slice none 0 0, .int .i64 0, .bool o.node.leaf, .slice p1 m1 d1, .slice p2 m2 d2, .slice p3 m3 d3, .slice none 0 0, .slice none 0 0, .slice none 0 0, .bool false, .slice none 0 0, .int .i64 0, .slice none 0 0, .int .i64 0, .bool false, .slice none 0 0, .int .i64 0, .slice none 0 0, .int .i64 0]).heap[w.heap.size + 1]? = _ := (setRow_other _ g _ _ (by have := HG.out; omega)).trans HZ.out
    have S1 := Lib.hid s1; have S3 := Lib.hid s3; have S4 := Lib.hid s4; clear s1 s3 s4
    go_upto_region 26 with (refine wpList_node4 rfl _ _ rfl g _ _ _ _ rfl rfl _ _ _ _ _ _ _ _ _ _ _ _ _ _ _ _ _ _ _ _ _ _ HY.out rfl ?_)
    clear HY LB HZ HX x0 x4 x5 x6 x7
    have HY := Lib.hid S1.out; have LB := Lib.hid S3.out; have HZ := Lib.hid S4.out; clear S1 S3 S4
    generalize World.setRow U _ _ = U2 at *
    have zh1 : (#[.int .i64 o.kind, .slice a1 o.path.length c1, .slice none 0 0, .int .i64 0, .bool o.node.leaf, .slice p1 m1 d1, .slice p2 m2 d2, .slice p3 m3 d3, .slice none 0 0, .slice none 0 0, .slice none 0 0, .bool false, .slice none 0 0, .int .i64 0, .slice none 0 0, .int .i64 0, .bool false, .slice none 0 0, .int .i64 0, .slice none 0 0, .int .i64 0] : Array Value).all (·.oneCell') = true := by rw [← Array.all_toList]; rfl
    go_wp2_with (first | (refine wpList_load_row rfl 35 _ rfl _ rfl 35 _ (0, 0) _ HY.out Try.underlying35 rfl op_info ?_) | (refine wpList_store_row rfl 35 _ _ rfl _ _ rfl rfl 35 _ HZ.out op_info rfl zh1 ?_))
    have zz1 := setRow_heap U2 (w.heap.size + 1) _ #[.int .i64 o.kind, .slice a1 o.path.length c1, .slice none 0 0, .int .i64 0, .bool o.node.leaf, .slice p1 m1 d1, .slice p2 m2 d2, .slice p3 m3 d3, .slice none 0 0, .slice none 0 0, .slice none 0 0, .bool false, .slice none 0 0, .int .i64 0, .slice none 0 0, .int .i64 0, .bool false, .slice none 0 0, .int .i64 0, .slice none 0 0, .int .i64 0] _ (0, 0) HZ.out
    have zz3 : Below w.heap.size w (U2.setRow (w.heap.size + 1) #[.int .i64 o.kind, .slice a1 o.path.length c1, .slice none 0 0, .int .i64 0, .bool o.node.leaf, .slice p1 m1 d1, .slice p2 m2 d2, .slice p3 m3 d3, .slice none 0 0, .slice none 0 0, .slice none 0 0, .bool false, .slice none 0 0, .int .i64 0, .slice none 0 0, .int .i64 0, .bool false, .slice none 0 0, .int .i64 0, .slice none 0 0, .int .i64 0]) := LB.out.trans ⟨rfl, rfl, rfl, by simp, fun b hb => setRow_other U2 _ b _ (by omega)⟩
    have rd := HR.out.later zz3
    have hrun := run_loadVar_row (P := Try.prog) _ _ _ 35 _ _ _ zz1 Try.underlying35 rfl op_info
    (try simp only [Exit.inBlock, Exit.then])
    refine bodyPost_ret (v := .tuple #[.agg #[.int .i64 o.kind, .slice a1 o.path.length c1, .slice none 0 0, .int .i64 0, .bool o.node.leaf, .slice p1 m1 d1, .slice p2 m2 d2, .slice p3 m3 d3, .slice none 0 0, .slice none 0 0, .slice none 0 0, .bool false, .slice none 0 0, .int .i64 0, .slice none 0 0, .int .i64 0, .bool false, .slice none 0 0, .int .i64 0, .slice none 0 0, .int .i64 0], .bool true]) ?_ ?_ ?_
    · simp [results, Try.results39, asAddr, hrun]
    · rfl
    rw [← HEE.out, ← HOO.out, show fldB o = true by have := HK.out; simp [fldB]; omega, show fldO o = { kO o.kind with path := o.path, node := o.node } by have := HK.out; unfold fldO;  rw [if_pos HK.out]]
    exact ⟨_, rfl, ⟨_, _, _, _, _, _, _, _, _, _, _, _, _, _, _, _, _, _, _, _, _, _, _, _, _, _, _, _, _, _, _, rfl, ⟨rd.path, ints_nil _, rd.node, Sl.nil _ _ _ _, Sl.nil _ _ _ _, Sl.nil _ _ _ _, ints_nil _, ints_nil _, ints_nil _, ints_nil _⟩⟩, zz3⟩
  have q1 : (o.kind == 1) = false := by rw [beq_eq_false_iff_ne]; exact hk1
  by_cases hk2 : o.kind = 2
  case pos =>
    have q2 : (o.kind == 2) = true := by simpa using hk2
    have HK := Lib.hid hk2; clear hk2
    obtain ⟨x0, -, -, -, x4, x5, x6, x7, -, -, -, -, -, -, -, -, -, -, -, -, -⟩ := op_facts HX.out
    have s1 := setRow_heap U g _ #[.int .i64 o.kind, .slice a1 o.path.length c1, .slice none 0 0, .int .i64 0, .bool o.node.leaf, .slice p1 m1 d1, .slice p2 m2 d2, .slice p3 m3 d3, .slice none 0 0, .slice none 0 0, .slice none 0 0, .bool false, .slice none 0 0, .int .i64 0, .slice none 0 0, .int .i64 0, .bool false, .slice none 0 0, .int .i64 0, .slice none 0 0, .int .i64 0] 35 (0, 0) HY.out
    have s3 : Below w.heap.size w (U.setRow g #[.int .i64 o.kind, .slice a1 o.path.length c1, .slice none 0 0, .int .i64 0, .bool o.node.leaf, .slice p1 m1 d1, .slice p2 m2 d2, .slice p3 m3 d3, .slice none 0 0, .slice none 0 0, .slice none 0 0, .bool false, .slice none 0 0, .int .i64 0, .slice none 0 0, .int .i64 0, .bool false, .slice none 0 0, .int .i64 0, .slice none 0 0, .int .i64 0]) := LB.out.trans ⟨rfl, rfl, rfl, by simp, fun b hb => setRow_other _ g b _ (by have := HG.out; omega)⟩
    have s4 : (U.setRow g #[.int .i64 o.kind, .slice a1 o.path.length c1, .slice none 0 0, .int .i64 0, .bool o.node.leaf, .slice p1 m1 d1, .slice p2 m2 d2, .slice p3 m3 d3, .slice none 0 0, .slice none 0 0, .slice none 0 0, .bool false, .slice none 0 0, .int .i64 0, .slice none 0 0, .int .i64 0, .bool false, .slice none 0 0, .int .i64 0, .slice none 0 0, .int .i64 0]).heap[w.heap.size + 1]? = _ := (setRow_other _ g _ _ (by have := HG.out; omega)).trans HZ.out
    have S1 := Lib.hid s1; have S3 := Lib.hid s3; have S4 := Lib.hid s4; clear s1 s3 s4
    go_upto_region 26 with (refine wpList_node4 rfl _ _ rfl g _ _ _ _ rfl rfl _ _ _ _ _ _ _ _ _ _ _ _ _ _ _ _ _ _ _ _ _ _ HY.out rfl ?_)
    clear HY LB HZ HX x0 x4 x5 x6 x7
    have HY := Lib.hid S1.out; have LB := Lib.hid S3.out; have HZ := Lib.hid S4.out; clear S1 S3 S4
    generalize World.setRow U _ _ = U2 at *
    have zh1 : (#[.int .i64 o.kind, .slice a1 o.path.length c1, .slice none 0 0, .int .i64 0, .bool o.node.leaf, .slice p1 m1 d1, .slice p2 m2 d2, .slice p3 m3 d3, .slice none 0 0, .slice none 0 0, .slice none 0 0, .bool false, .slice none 0 0, .int .i64 0, .slice none 0 0, .int .i64 0, .bool false, .slice none 0 0, .int .i64 0, .slice none 0 0, .int .i64 0] : Array Value).all (·.oneCell') = true := by rw [← Array.all_toList]; rfl
    go_wp2_with (first | (refine wpList_load_row rfl 35 _ rfl _ rfl 35 _ (0, 0) _ HY.out Try.underlying35 rfl op_info ?_) | (refine wpList_store_row rfl 35 _ _ rfl _ _ rfl rfl 35 _ HZ.out op_info rfl zh1 ?_))
    have zz1 := setRow_heap U2 (w.heap.size + 1) _ #[.int .i64 o.kind, .slice a1 o.path.length c1, .slice none 0 0, .int .i64 0, .bool o.node.leaf, .slice p1 m1 d1, .slice p2 m2 d2, .slice p3 m3 d3, .slice none 0 0, .slice none 0 0, .slice none 0 0, .bool false, .slice none 0 0, .int .i64 0, .slice none 0 0, .int .i64 0, .bool false, .slice none 0 0, .int .i64 0, .slice none 0 0, .int .i64 0] _ (0, 0) HZ.out
    have zz3 : Below w.heap.size w (U2.setRow (w.heap.size + 1) #[.int .i64 o.kind, .slice a1 o.path.length c1, .slice none 0 0, .int .i64 0, .bool o.node.leaf, .slice p1 m1 d1, .slice p2 m2 d2, .slice p3 m3 d3, .slice none 0 0, .slice none 0 0, .slice none 0 0, .bool false, .slice none 0 0, .int .i64 0, .slice none 0 0, .int .i64 0, .bool false, .slice none 0 0, .int .i64 0, .slice none 0 0, .int .i64 0]) := LB.out.trans ⟨rfl, rfl, rfl, by simp, fun b hb => setRow_other U2 _ b _ (by omega)⟩
    have rd := HR.out.later zz3
    have hrun := run_loadVar_row (P := Try.prog) _ _ _ 35 _ _ _ zz1 Try.underlying35 rfl op_info
    (try simp only [Exit.inBlock, Exit.then])
    refine bodyPost_ret (v := .tuple #[.agg #[.int .i64 o.kind, .slice a1 o.path.length c1, .slice none 0 0, .int .i64 0, .bool o.node.leaf, .slice p1 m1 d1, .slice p2 m2 d2, .slice p3 m3 d3, .slice none 0 0, .slice none 0 0, .slice none 0 0, .bool false, .slice none 0 0, .int .i64 0, .slice none 0 0, .int .i64 0, .bool false, .slice none 0 0, .int .i64 0, .slice none 0 0, .int .i64 0], .bool true]) ?_ ?_ ?_
    · simp [results, Try.results39, asAddr, hrun]
    · rfl
    rw [← HEE.out, ← HOO.out, show fldB o = true by have := HK.out; simp [fldB]; omega, show fldO o = { kO o.kind with path := o.path, node := o.node } by have := HK.out; unfold fldO; rw [if_neg (by omega)]; rw [if_pos HK.out]]
    exact ⟨_, rfl, ⟨_, _, _, _, _, _, _, _, _, _, _, _, _, _, _, _, _, _, _, _, _, _, _, _, _, _, _, _, _, _, _, rfl, ⟨rd.path, ints_nil _, rd.node, Sl.nil _ _ _ _, Sl.nil _ _ _ _, Sl.nil _ _ _ _, ints_nil _, ints_nil _, ints_nil _, ints_nil _⟩⟩, zz3⟩
  have q2 : (o.kind == 2) = false := by rw [beq_eq_false_iff_ne]; exact hk2
  by_cases hk3 : o.kind = 3
  case pos =>
    have q3 : (o.kind == 3) = true := by simpa using hk3
    have HK := Lib.hid hk3; clear hk3
    obtain ⟨x0, -, -, x3, -, -, -, -, x8, -, -, -, -, -, -, -, -, -, -, -, -⟩ := op_facts HX.out
    obtain ⟨-, -, -, y3, -, -, -, -, y8, -, -, -, -, -, -, -, -, -, -, -, -⟩ := op_facts HY.out
    have z3 := frozen_of_row U g 3 _ _ HY.out; have z8 := frozen_of_row U g 8 _ _ HY.out
    have q1 : ((U.setCell ⟨g, 3, none⟩ (.int .i64 o.pos)).setCell ⟨g, 8, none⟩ (.slice a5 o.old.length c5)).heap[g]? = some (.cells #[.int .i64 o.kind, .slice a1 o.path.length c1, .slice none 0 0, .int .i64 o.pos, .bool false, .slice none 0 0, .slice none 0 0, .slice none 0 0, .slice a5 o.old.length c5, .slice none 0 0, .slice none 0 0, .bool false, .slice none 0 0, .int .i64 0, .slice none 0 0, .int .i64 0, .bool false, .slice none 0 0, .int .i64 0, .slice none 0 0, .int .i64 0] 35 (0, 0)) := (heap_setCell_same _ g 8 _ _ (.slice a5 o.old.length c5) (heap_setCell_same _ g 3 _ _ (.int .i64 o.pos) HY.out))
    have q2 : Below w.heap.size w ((U.setCell ⟨g, 3, none⟩ (.int .i64 o.pos)).setCell ⟨g, 8, none⟩ (.slice a5 o.old.length c5)) := ((LB.out.setCell (p := ⟨g, 3, none⟩) (by have := HG.out; simp; omega) (.int .i64 o.pos)).setCell (p := ⟨g, 8, none⟩) (by have := HG.out; simp; omega) (.slice a5 o.old.length c5))
    have hh := HG.out
    have q3 : ((U.setCell ⟨g, 3, none⟩ (.int .i64 o.pos)).setCell ⟨g, 8, none⟩ (.slice a5 o.old.length c5)).heap[w.heap.size + 1]? = some (.cells #[.int .i64 0, .slice none 0 0, .slice none 0 0, .int .i64 0, .bool false, .slice none 0 0, .slice none 0 0, .slice none 0 0, .slice none 0 0, .slice none 0 0, .slice none 0 0, .bool false, .slice none 0 0, .int .i64 0, .slice none 0 0, .int .i64 0, .bool false, .slice none 0 0, .int .i64 0, .slice none 0 0, .int .i64 0] 35 (0, 0)) := by rw [heap_setCell_off _ _ _ _ (show w.heap.size + 1 ≠ _ by simp; omega), heap_setCell_off _ _ _ _ (show w.heap.size + 1 ≠ _ by simp; omega)]; exact HZ.out
    have Q1 := Lib.hid q1; have Q2 := Lib.hid q2; have Q3 := Lib.hid q3; clear q1 q2 q3 hh
    go_upto_region 26 with fail
    clear HY LB HZ HX x0 x3 x8 y3 z3 y8 z8
    have HY := Lib.hid Q1.out; have LB := Lib.hid Q2.out; have HZ := Lib.hid Q3.out; clear Q1 Q2 Q3
    generalize World.setCell (World.setCell U _ _) _ _ = U2 at *
    have zh1 : (#[.int .i64 o.kind, .slice a1 o.path.length c1, .slice none 0 0, .int .i64 o.pos, .bool false, .slice none 0 0, .slice none 0 0, .slice none 0 0, .slice a5 o.old.length c5, .slice none 0 0, .slice none 0 0, .bool false, .slice none 0 0, .int .i64 0, .slice none 0 0, .int .i64 0, .bool false, .slice none 0 0, .int .i64 0, .slice none 0 0, .int .i64 0] : Array Value).all (·.oneCell') = true := by rw [← Array.all_toList]; rfl
    go_wp2_with (first | (refine wpList_load_row rfl 35 _ rfl _ rfl 35 _ (0, 0) _ HY.out Try.underlying35 rfl op_info ?_) | (refine wpList_store_row rfl 35 _ _ rfl _ _ rfl rfl 35 _ HZ.out op_info rfl zh1 ?_))
    have zz1 := setRow_heap U2 (w.heap.size + 1) _ #[.int .i64 o.kind, .slice a1 o.path.length c1, .slice none 0 0, .int .i64 o.pos, .bool false, .slice none 0 0, .slice none 0 0, .slice none 0 0, .slice a5 o.old.length c5, .slice none 0 0, .slice none 0 0, .bool false, .slice none 0 0, .int .i64 0, .slice none 0 0, .int .i64 0, .bool false, .slice none 0 0, .int .i64 0, .slice none 0 0, .int .i64 0] _ (0, 0) HZ.out
    have zz3 : Below w.heap.size w (U2.setRow (w.heap.size + 1) #[.int .i64 o.kind, .slice a1 o.path.length c1, .slice none 0 0, .int .i64 o.pos, .bool false, .slice none 0 0, .slice none 0 0, .slice none 0 0, .slice a5 o.old.length c5, .slice none 0 0, .slice none 0 0, .bool false, .slice none 0 0, .int .i64 0, .slice none 0 0, .int .i64 0, .bool false, .slice none 0 0, .int .i64 0, .slice none 0 0, .int .i64 0]) := LB.out.trans ⟨rfl, rfl, rfl, by simp, fun b hb => setRow_other U2 _ b _ (by omega)⟩
    have rd := HR.out.later zz3
    have hrun := run_loadVar_row (P := Try.prog) _ _ _ 35 _ _ _ zz1 Try.underlying35 rfl op_info
    (try simp only [Exit.inBlock, Exit.then])
    refine bodyPost_ret (v := .tuple #[.agg #[.int .i64 o.kind, .slice a1 o.path.length c1, .slice none 0 0, .int .i64 o.pos, .bool false, .slice none 0 0, .slice none 0 0, .slice none 0 0, .slice a5 o.old.length c5, .slice none 0 0, .slice none 0 0, .bool false, .slice none 0 0, .int .i64 0, .slice none 0 0, .int .i64 0, .bool false, .slice none 0 0, .int .i64 0, .slice none 0 0, .int .i64 0], .bool true]) ?_ ?_ ?_
    · simp [results, Try.results39, asAddr, hrun]
    · rfl
    rw [← HEE.out, ← HOO.out, show fldB o = true by have := HK.out; simp [fldB]; omega, show fldO o = { kO o.kind with path := o.path, pos := o.pos, old := o.old } by have := HK.out; unfold fldO; rw [if_neg (by omega)]; rw [if_neg (by omega)]; rw [if_pos HK.out]]
    exact ⟨_, rfl, ⟨_, _, _, _, _, _, _, _, _, _, _, _, _, _, _, _, _, _, _, _, _, _, _, _, _, _, _, _, _, _, _, rfl, ⟨rd.path, ints_nil _, zeroNdF _, rd.old, Sl.nil _ _ _ _, Sl.nil _ _ _ _, ints_nil _, ints_nil _, ints_nil _, ints_nil _⟩⟩, zz3⟩
  have q3 : (o.kind == 3) = false := by rw [beq_eq_false_iff_ne]; exact hk3
  by_cases hk4 : o.kind = 4
  case pos =>
    have q4 : (o.kind == 4) = true := by simpa using hk4
    have HK := Lib.hid hk4; clear hk4
    obtain ⟨x0, -, -, x3, -, -, -, -, -, x9, -, -, -, -, -, -, -, -, -, -, -⟩ := op_facts HX.out
    obtain ⟨-, -, -, y3, -, -, -, -, -, y9, -, -, -, -, -, -, -, -, -, -, -⟩ := op_facts HY.out
    have z3 := frozen_of_row U g 3 _ _ HY.out; have z9 := frozen_of_row U g 9 _ _ HY.out
    have q1 : ((U.setCell ⟨g, 3, none⟩ (.int .i64 o.pos)).setCell ⟨g, 9, none⟩ (.slice a6 o.new.length c6)).heap[g]? = some (.cells #[.int .i64 o.kind, .slice a1 o.path.length c1, .slice none 0 0, .int .i64 o.pos, .bool false, .slice none 0 0, .slice none 0 0, .slice none 0 0, .slice none 0 0, .slice a6 o.new.length c6, .slice none 0 0, .bool false, .slice none 0 0, .int .i64 0, .slice none 0 0, .int .i64 0, .bool false, .slice none 0 0, .int .i64 0, .slice none 0 0, .int .i64 0] 35 (0, 0)) := (heap_setCell_same _ g 9 _ _ (.slice a6 o.new.length c6) (heap_setCell_same _ g 3 _ _ (.int .i64 o.pos) HY.out))
    have q2 : Below w.heap.size w ((U.setCell ⟨g, 3, none⟩ (.int .i64 o.pos)).setCell ⟨g, 9, none⟩ (.slice a6 o.new.length c6)) := ((LB.out.setCell (p := ⟨g, 3, none⟩) (by have := HG.out; simp; omega) (.int .i64 o.pos)).setCell (p := ⟨g, 9, none⟩) (by have := HG.out; simp; omega) (.slice a6 o.new.length c6))
    have hh := HG.out
    have q3 : ((U.setCell ⟨g, 3, none⟩ (.int .i64 o.pos)).setCell ⟨g, 9, none⟩ (.slice a6 o.new.length c6)).heap[w.heap.size + 1]? = some (.cells #[.int .i64 0, .slice none 0 0, .slice none 0 0, .int .i64 0, .bool false, .slice none 0 0, .slice none 0 0, .slice none 0 0, .slice none 0 0, .slice none 0 0, .slice none 0 0, .bool false, .slice none 0 0, .int .i64 0, .slice none 0 0, .int .i64 0, .bool false, .slice none 0 0, .int .i64 0, .slice none 0 0, .int .i64 0] 35 (0, 0)) := by rw [heap_setCell_off _ _ _ _ (show w.heap.size + 1 ≠ _ by simp; omega), heap_setCell_off _ _ _ _ (show w.heap.size + 1 ≠ _ by simp; omega)]; exact HZ.out
    have Q1 := Lib.hid q1; have Q2 := Lib.hid q2; have Q3 := Lib.hid q3; clear q1 q2 q3 hh
    go_upto_region 26 with fail
    clear HY LB HZ HX x0 x3 x9 y3 z3 y9 z9
    have HY := Lib.hid Q1.out; have LB := Lib.hid Q2.out; have HZ := Lib.hid Q3.out; clear Q1 Q2 Q3
    generalize World.setCell (World.setCell U _ _) _ _ = U2 at *
    have zh1 : (#[.int .i64 o.kind, .slice a1 o.path.length c1, .slice none 0 0, .int .i64 o.pos, .bool false, .slice none 0 0, .slice none 0 0, .slice none 0 0, .slice none 0 0, .slice a6 o.new.length c6, .slice none 0 0, .bool false, .slice none 0 0, .int .i64 0, .slice none 0 0, .int .i64 0, .bool false, .slice none 0 0, .int .i64 0, .slice none 0 0, .int .i64 0] : Array Value).all (·.oneCell') = true := by rw [← Array.all_toList]; rfl
    go_wp2_with (first | (refine wpList_load_row rfl 35 _ rfl _ rfl 35 _ (0, 0) _ HY.out Try.underlying35 rfl op_info ?_) | (refine wpList_store_row rfl 35 _ _ rfl _ _ rfl rfl 35 _ HZ.out op_info rfl zh1 ?_))
    have zz1 := setRow_heap U2 (w.heap.size + 1) _ #[.int .i64 o.kind, .slice a1 o.path.length c1, .slice none 0 0, .int .i64 o.pos, .bool false, .slice none 0 0, .slice none 0 0, .slice none 0 0, .slice none 0 0, .slice a6 o.new.length c6, .slice none 0 0, .bool false, .slice none 0 0, .int .i64 0, .slice none 0 0, .int .i64 0, .bool false, .slice none 0 0, .int .i64 0, .slice none 0 0, .int .i64 0] _ (0, 0) HZ.out
    have zz3 : Below w.heap.size w (U2.setRow (w.heap.size + 1) #[.int .i64 o.kind, .slice a1 o.path.length c1, .slice none 0 0, .int .i64 o.pos, .bool false, .slice none 0 0, .slice none 0 0, .slice none 0 0, .slice none 0 0, .slice a6 o.new.length c6, .slice none 0 0, .bool false, .slice none 0 0, .int .i64 0, .slice none 0 0, .int .i64 0, .bool false, .slice none 0 0, .int .i64 0, .slice none 0 0, .int .i64 0]) := LB.out.trans ⟨rfl, rfl, rfl, by simp, fun b hb => setRow_other U2 _ b _ (by omega)⟩
    have rd := HR.out.later zz3
    have hrun := run_loadVar_row (P := Try.prog) _ _ _ 35 _ _ _ zz1 Try.underlying35 rfl op_info
    (try simp only [Exit.inBlock, Exit.then])
    refine bodyPost_ret (v := .tuple #[.agg #[.int .i64 o.kind, .slice a1 o.path.length c1, .slice none 0 0, .int .i64 o.pos, .bool false, .slice none 0 0, .slice none 0 0, .slice none 0 0, .slice none 0 0, .slice a6 o.new.length c6, .slice none 0 0, .bool false, .slice none 0 0, .int .i64 0, .slice none 0 0, .int .i64 0, .bool false, .slice none 0 0, .int .i64 0, .slice none 0 0, .int .i64 0], .bool true]) ?_ ?_ ?_
    · simp [results, Try.results39, asAddr, hrun]
    · rfl
    rw [← HEE.out, ← HOO.out, show fldB o = true by have := HK.out; simp [fldB]; omega, show fldO o = { kO o.kind with path := o.path, pos := o.pos, new := o.new } by have := HK.out; unfold fldO; rw [if_neg (by omega)]; rw [if_neg (by omega)]; rw [if_neg (by omega)]; rw [if_pos HK.out]]
    exact ⟨_, rfl, ⟨_, _, _, _, _, _, _, _, _, _, _, _, _, _, _, _, _, _, _, _, _, _, _, _, _, _, _, _, _, _, _, rfl, ⟨rd.path, ints_nil _, zeroNdF _, Sl.nil _ _ _ _, rd.new, Sl.nil _ _ _ _, ints_nil _, ints_nil _, ints_nil _, ints_nil _⟩⟩, zz3⟩
  have q4 : (o.kind == 4) = false := by rw [beq_eq_false_iff_ne]; exact hk4
  by_cases hk5 : o.kind = 5
  case pos =>
    have q5 : (o.kind == 5) = true := by simpa using hk5
    have HK := Lib.hid hk5; clear hk5
    obtain ⟨x0, -, x2, -, -, -, -, -, -, -, -, -, -, -, -, -, -, -, -, -, -⟩ := op_facts HX.out
    obtain ⟨-, -, y2, -, -, -, -, -, -, -, -, -, -, -, -, -, -, -, -, -, -⟩ := op_facts HY.out
    have z2 := frozen_of_row U g 2 _ _ HY.out
    have q1 : (U.setCell ⟨g, 2, none⟩ (.slice a2 o.dest.length c2)).heap[g]? = some (.cells #[.int .i64 o.kind, .slice a1 o.path.length c1, .slice a2 o.dest.length c2, .int .i64 0, .bool false, .slice none 0 0, .slice none 0 0, .slice none 0 0, .slice none 0 0, .slice none 0 0, .slice none 0 0, .bool false, .slice none 0 0, .int .i64 0, .slice none 0 0, .int .i64 0, .bool false, .slice none 0 0, .int .i64 0, .slice none 0 0, .int .i64 0] 35 (0, 0)) := (heap_setCell_same _ g 2 _ _ (.slice a2 o.dest.length c2) HY.out)
    have q2 : Below w.heap.size w (U.setCell ⟨g, 2, none⟩ (.slice a2 o.dest.length c2)) := (LB.out.setCell (p := ⟨g, 2, none⟩) (by have := HG.out; simp; omega) (.slice a2 o.dest.length c2))
    have hh := HG.out
    have q3 : (U.setCell ⟨g, 2, none⟩ (.slice a2 o.dest.length c2)).heap[w.heap.size + 1]? = some (.cells #[.int .i64 0, .slice none 0 0, .slice none 0 0, .int .i64 0, .bool false, .slice none 0 0, .slice none 0 0, .slice none 0 0, .slice none 0 0, .slice none 0 0, .slice none 0 0, .bool false, .slice none 0 0, .int .i64 0, .slice none 0 0, .int .i64 0, .bool false, .slice none 0 0, .int .i64 0, .slice none 0 0, .int .i64 0] 35 (0, 0)) := by rw [heap_setCell_off _ _ _ _ (show w.heap.size + 1 ≠ _ by simp; omega)]; exact HZ.out
    have Q1 := Lib.hid q1; have Q2 := Lib.hid q2; have Q3 := Lib.hid q3; clear q1 q2 q3 hh
    go_upto_region 26 with fail
    clear HY LB HZ HX x0 x2 y2 z2
    have HY := Lib.hid Q1.out; have LB := Lib.hid Q2.out; have HZ := Lib.hid Q3.out; clear Q1 Q2 Q3
    generalize World.setCell U _ _ = U2 at *
    have zh1 : (#[.int .i64 o.kind, .slice a1 o.path.length c1, .slice a2 o.dest.length c2, .int .i64 0, .bool false, .slice none 0 0, .slice none 0 0, .slice none 0 0, .slice none 0 0, .slice none 0 0, .slice none 0 0, .bool false, .slice none 0 0, .int .i64 0, .slice none 0 0, .int .i64 0, .bool false, .slice none 0 0, .int .i64 0, .slice none 0 0, .int .i64 0] : Array Value).all (·.oneCell') = true := by rw [← Array.all_toList]; rfl
    go_wp2_with (first | (refine wpList_load_row rfl 35 _ rfl _ rfl 35 _ (0, 0) _ HY.out Try.underlying35 rfl op_info ?_) | (refine wpList_store_row rfl 35 _ _ rfl _ _ rfl rfl 35 _ HZ.out op_info rfl zh1 ?_))
    have zz1 := setRow_heap U2 (w.heap.size + 1) _ #[.int .i64 o.kind, .slice a1 o.path.length c1, .slice a2 o.dest.length c2, .int .i64 0, .bool false, .slice none 0 0, .slice none 0 0, .slice none 0 0, .slice none 0 0, .slice none 0 0, .slice none 0 0, .bool false, .slice none 0 0, .int .i64 0, .slice none 0 0, .int .i64 0, .bool false, .slice none 0 0, .int .i64 0, .slice none 0 0, .int .i64 0] _ (0, 0) HZ.out
    have zz3 : Below w.heap.size w (U2.setRow (w.heap.size + 1) #[.int .i64 o.kind, .slice a1 o.path.length c1, .slice a2 o.dest.length c2, .int .i64 0, .bool false, .slice none 0 0, .slice none 0 0, .slice none 0 0, .slice none 0 0, .slice none 0 0, .slice none 0 0, .bool false, .slice none 0 0, .int .i64 0, .slice none 0 0, .int .i64 0, .bool false, .slice none 0 0, .int .i64 0, .slice none 0 0, .int .i64 0]) := LB.out.trans ⟨rfl, rfl, rfl, by simp, fun b hb => setRow_other U2 _ b _ (by omega)⟩
    have rd := HR.out.later zz3
    have hrun := run_loadVar_row (P := Try.prog) _ _ _ 35 _ _ _ zz1 Try.underlying35 rfl op_info
    (try simp only [Exit.inBlock, Exit.then])
    refine bodyPost_ret (v := .tuple #[.agg #[.int .i64 o.kind, .slice a1 o.path.length c1, .slice a2 o.dest.length c2, .int .i64 0, .bool false, .slice none 0 0, .slice none 0 0, .slice none 0 0, .slice none 0 0, .slice none 0 0, .slice none 0 0, .bool false, .slice none 0 0, .int .i64 0, .slice none 0 0, .int .i64 0, .bool false, .slice none 0 0, .int .i64 0, .slice none 0 0, .int .i64 0], .bool true]) ?_ ?_ ?_
    · simp [results, Try.results39, asAddr, hrun]
    · rfl
    rw [← HEE.out, ← HOO.out, show fldB o = true by have := HK.out; simp [fldB]; omega, show fldO o = { kO o.kind with path := o.path, dest := o.dest } by have := HK.out; unfold fldO; rw [if_neg (by omega)]; rw [if_neg (by omega)]; rw [if_neg (by omega)]; rw [if_neg (by omega)]; rw [if_pos HK.out]]
    exact ⟨_, rfl, ⟨_, _, _, _, _, _, _, _, _, _, _, _, _, _, _, _, _, _, _, _, _, _, _, _, _, _, _, _, _, _, _, rfl, ⟨rd.path, rd.dest, zeroNdF _, Sl.nil _ _ _ _, Sl.nil _ _ _ _, Sl.nil _ _ _ _, ints_nil _, ints_nil _, ints_nil _, ints_nil _⟩⟩, zz3⟩
  have q5 : (o.kind == 5) = false := by rw [beq_eq_false_iff_ne]; exact hk5
  by_cases hk6 : o.kind = 6
  case pos =>
    have q6 : (o.kind == 6) = true := by simpa using hk6
    have HK := Lib.hid hk6; clear hk6
    obtain ⟨x0, -, -, -, -, -, -, -, x8, x9, -, -, -, -, -, -, -, -, -, -, -⟩ := op_facts HX.out
    obtain ⟨-, -, -, -, -, -, -, -, y8, y9, -, -, -, -, -, -, -, -, -, -, -⟩ := op_facts HY.out
    have z8 := frozen_of_row U g 8 _ _ HY.out; have z9 := frozen_of_row U g 9 _ _ HY.out
    have q1 : ((U.setCell ⟨g, 8, none⟩ (.slice a5 o.old.length c5)).setCell ⟨g, 9, none⟩ (.slice a6 o.new.length c6)).heap[g]? = some (.cells #[.int .i64 o.kind, .slice a1 o.path.length c1, .slice none 0 0, .int .i64 0, .bool false, .slice none 0 0, .slice none 0 0, .slice none 0 0, .slice a5 o.old.length c5, .slice a6 o.new.length c6, .slice none 0 0, .bool false, .slice none 0 0, .int .i64 0, .slice none 0 0, .int .i64 0, .bool false, .slice none 0 0, .int .i64 0, .slice none 0 0, .int .i64 0] 35 (0, 0)) := (heap_setCell_same _ g 9 _ _ (.slice a6 o.new.length c6) (heap_setCell_same _ g 8 _ _ (.slice a5 o.old.length c5) HY.out))
    have q2 : Below w.heap.size w ((U.setCell ⟨g, 8, none⟩ (.slice a5 o.old.length c5)).setCell ⟨g, 9, none⟩ (.slice a6 o.new.length c6)) := ((LB.out.setCell (p := ⟨g, 8, none⟩) (by have := HG.out; simp; omega) (.slice a5 o.old.length c5)).setCell (p := ⟨g, 9, none⟩) (by have := HG.out; simp; omega) (.slice a6 o.new.length c6))
    have hh := HG.out
    have q3 : ((U.setCell ⟨g, 8, none⟩ (.slice a5 o.old.length c5)).setCell ⟨g, 9, none⟩ (.slice a6 o.new.length c6)).heap[w.heap.size + 1]? = some (.cells #[.int .i64 0, .slice none 0 0, .slice none 0 0, .int .i64 0, .bool false, .slice none 0 0, .slice none 0 0, .slice none 0 0, .slice none 0 0, .slice none 0 0, .slice none 0 0, .bool false, .slice none 0 0, .int .i64 0, .slice none 0 0, .int .i64 0, .bool false, .slice none 0 0, .int .i64 0, .slice none 0 0, .int .i64 0] 35 (0, 0)) := by rw [heap_setCell_off _ _ _ _ (show w.heap.size + 1 ≠ _ by simp; omega), heap_setCell_off _ _ _ _ (show w.heap.size + 1 ≠ _ by simp; omega)]; exact HZ.out
    have Q1 := Lib.hid q1; have Q2 := Lib.hid q2; have Q3 := Lib.hid q3; clear q1 q2 q3 hh
    go_upto_region 26 with fail
    clear HY LB HZ HX x0 x8 x9 y8 z8 y9 z9
    have HY := Lib.hid Q1.out; have LB := Lib.hid Q2.out; have HZ := Lib.hid Q3.out; clear Q1 Q2 Q3
    generalize World.setCell (World.setCell U _ _) _ _ = U2 at *
    have zh1 : (#[.int .i64 o.kind, .slice a1 o.path.length c1, .slice none 0 0, .int .i64 0, .bool false, .slice none 0 0, .slice none 0 0, .slice none 0 0, .slice a5 o.old.length c5, .slice a6 o.new.length c6, .slice none 0 0, .bool false, .slice none 0 0, .int .i64 0, .slice none 0 0, .int .i64 0, .bool false, .slice none 0 0, .int .i64 0, .slice none 0 0, .int .i64 0] : Array Value).all (·.oneCell') = true := by rw [← Array.all_toList]; rfl
    go_wp2_with (first | (refine wpList_load_row rfl 35 _ rfl _ rfl 35 _ (0, 0) _ HY.out Try.underlying35 rfl op_info ?_) | (refine wpList_store_row rfl 35 _ _ rfl _ _ rfl rfl 35 _ HZ.out op_info rfl zh1 ?_))
    have zz1 := setRow_heap U2 (w.heap.size + 1) _ #[.int .i64 o.kind, .slice a1 o.path.length c1, .slice none 0 0, .int .i64 0, .bool false, .slice none 0 0, .slice none 0 0, .slice none 0 0, .slice a5 o.old.length c5, .slice a6 o.new.length c6, .slice none 0 0, .bool false, .slice none 0 0, .int .i64 0, .slice none 0 0, .int .i64 0, .bool false, .slice none 0 0, .int .i64 0, .slice none 0 0, .int .i64 0] _ (0, 0) HZ.out
    have zz3 : Below w.heap.size w (U2.setRow (w.heap.size + 1) #[.int .i64 o.kind, .slice a1 o.path.length c1, .slice none 0 0, .int .i64 0, .bool false, .slice none 0 0, .slice none 0 0, .slice none 0 0, .slice a5 o.old.length c5, .slice a6 o.new.length c6, .slice none 0 0, .bool false, .slice none 0 0, .int .i64 0, .slice none 0 0, .int .i64 0, .bool false, .slice none 0 0, .int .i64 0, .slice none 0 0, .int .i64 0]) := LB.out.trans ⟨rfl, rfl, rfl, by simp, fun b hb => setRow_other U2 _ b _ (by omega)⟩
    have rd := HR.out.later zz3
    have hrun := run_loadVar_row (P := Try.prog) _ _ _ 35 _ _ _ zz1 Try.underlying35 rfl op_info
    (try simp only [Exit.inBlock, Exit.then])
    refine bodyPost_ret (v := .tuple #[.agg #[.int .i64 o.kind, .slice a1 o.path.length c1, .slice none 0 0, .int .i64 0, .bool false, .slice none 0 0, .slice none 0 0, .slice none 0 0, .slice a5 o.old.length c5, .slice a6 o.new.length c6, .slice none 0 0, .bool false, .slice none 0 0, .int .i64 0, .slice none 0 0, .int .i64 0, .bool false, .slice none 0 0, .int .i64 0, .slice none 0 0, .int .i64 0], .bool true]) ?_ ?_ ?_
    · simp [results, Try.results39, asAddr, hrun]
    · rfl
    rw [← HEE.out, ← HOO.out, show fldB o = true by have := HK.out; simp [fldB]; omega, show fldO o = { kO o.kind with path := o.path, old := o.old, new := o.new } by have := HK.out; unfold fldO; rw [if_neg (by omega)]; rw [if_neg (by omega)]; rw [if_neg (by omega)]; rw [if_neg (by omega)]; rw [if_neg (by omega)]; rw [if_pos HK.out]]
    exact ⟨_, rfl, ⟨_, _, _, _, _, _, _, _, _, _, _, _, _, _, _, _, _, _, _, _, _, _, _, _, _, _, _, _, _, _, _, rfl, ⟨rd.path, ints_nil _, zeroNdF _, rd.old, rd.new, Sl.nil _ _ _ _, ints_nil _, ints_nil _, ints_nil _, ints_nil _⟩⟩, zz3⟩
  have q6 : (o.kind == 6) = false := by rw [beq_eq_false_iff_ne]; exact hk6
  by_cases hk7 : o.kind = 7
  case pos =>
    have q7 : (o.kind == 7) = true := by simpa using hk7
    have HK := Lib.hid hk7; clear hk7
    obtain ⟨x0, -, -, x3, -, -, -, -, -, -, x10, -, -, -, -, -, -, -, -, -, -⟩ := op_facts HX.out
    obtain ⟨-, -, -, y3, -, -, -, -, -, -, y10, -, -, -, -, -, -, -, -, -, -⟩ := op_facts HY.out
    have z3 := frozen_of_row U g 3 _ _ HY.out; have z10 := frozen_of_row U g 10 _ _ HY.out
    have q1 : ((U.setCell ⟨g, 3, none⟩ (.int .i64 o.pos)).setCell ⟨g, 10, none⟩ (.slice a7 o.text.length c7)).heap[g]? = some (.cells #[.int .i64 o.kind, .slice a1 o.path.length c1, .slice none 0 0, .int .i64 o.pos, .bool false, .slice none 0 0, .slice none 0 0, .slice none 0 0, .slice none 0 0, .slice none 0 0, .slice a7 o.text.length c7, .bool false, .slice none 0 0, .int .i64 0, .slice none 0 0, .int .i64 0, .bool false, .slice none 0 0, .int .i64 0, .slice none 0 0, .int .i64 0] 35 (0, 0)) := (heap_setCell_same _ g 10 _ _ (.slice a7 o.text.length c7) (heap_setCell_same _ g 3 _ _ (.int .i64 o.pos) HY.out))
    have q2 : Below w.heap.size w ((U.setCell ⟨g, 3, none⟩ (.int .i64 o.pos)).setCell ⟨g, 10, none⟩ (.slice a7 o.text.length c7)) := ((LB.out.setCell (p := ⟨g, 3, none⟩) (by have := HG.out; simp; omega) (.int .i64 o.pos)).setCell (p := ⟨g, 10, none⟩) (by have := HG.out; simp; omega) (.slice a7 o.text.length c7))
    have hh := HG.out
    have q3 : ((U.setCell ⟨g, 3, none⟩ (.int .i64 o.pos)).setCell ⟨g, 10, none⟩ (.slice a7 o.text.length c7)).heap[w.heap.size + 1]? = some (.cells #[.int .i64 0, .slice none 0 0, .slice none 0 0, .int .i64 0, .bool false, .slice none 0 0, .slice none 0 0, .slice none 0 0, .slice none 0 0, .slice none 0 0, .slice none 0 0, .bool false, .slice none 0 0, .int .i64 0, .slice none 0 0, .int .i64 0, .bool false, .slice none 0 0, .int .i64 0, .slice none 0 0, .int .i64 0] 35 (0, 0)) := by rw [heap_setCell_off _ _ _ _ (show w.heap.size + 1 ≠ _ by simp; omega), heap_setCell_off _ _ _ _ (show w.heap.size + 1 ≠ _ by simp; omega)]; exact HZ.out
    have Q1 := Lib.hid q1; have Q2 := Lib.hid q2; have Q3 := Lib.hid q3; clear q1 q2 q3 hh
    go_upto_region 26 with fail
    clear HY LB HZ HX x0 x3 x10 y3 z3 y10 z10
    have HY := Lib.hid Q1.out; have LB := Lib.hid Q2.out; have HZ := Lib.hid Q3.out; clear Q1 Q2 Q3
    generalize World.setCell (World.setCell U _ _) _ _ = U2 at *
    have zh1 : (#[.int .i64 o.kind, .slice a1 o.path.length c1, .slice none 0 0, .int .i64 o.pos, .bool false, .slice none 0 0, .slice none 0 0, .slice none 0 0, .slice none 0 0, .slice none 0 0, .slice a7 o.text.length c7, .bool false, .slice none 0 0, .int .i64 0, .slice none 0 0, .int .i64 0, .bool false, .slice none 0 0, .int .i64 0, .slice none 0 0, .int .i64 0] : Array Value).all (·.oneCell') = true := by rw [← Array.all_toList]; rfl
    go_wp2_with (first | (refine wpList_load_row rfl 35 _ rfl _ rfl 35 _ (0, 0) _ HY.out Try.underlying35 rfl op_info ?_) | (refine wpList_store_row rfl 35 _ _ rfl _ _ rfl rfl 35 _ HZ.out op_info rfl zh1 ?_))
    have zz1 := setRow_heap U2 (w.heap.size + 1) _ #[.int .i64 o.kind, .slice a1 o.path.length c1, .slice none 0 0, .int .i64 o.pos, .bool false, .slice none 0 0, .slice none 0 0, .slice none 0 0, .slice none 0 0, .slice none 0 0, .slice a7 o.text.length c7, .bool false, .slice none 0 0, .int .i64 0, .slice none 0 0, .int .i64 0, .bool false, .slice none 0 0, .int .i64 0, .slice none 0 0, .int .i64 0] _ (0, 0) HZ.out
    have zz3 : Below w.heap.size w (U2.setRow (w.heap.size + 1) #[.int .i64 o.kind, .slice a1 o.path.length c1, .slice none 0 0, .int .i64 o.pos, .bool false, .slice none 0 0, .slice none 0 0, .slice none 0 0, .slice none 0 0, .slice none 0 0, .slice a7 o.text.length c7, .bool false, .slice none 0 0, .int .i64 0, .slice none 0 0, .int .i64 0, .bool false, .slice none 0 0, .int .i64 0, .slice none 0 0, .int .i64 0]) := LB.out.trans ⟨rfl, rfl, rfl, by simp, fun b hb => setRow_other U2 _ b _ (by omega)⟩
    have rd := HR.out.later zz3
    have hrun := run_loadVar_row (P := Try.prog) _ _ _ 35 _ _ _ zz1 Try.underlying35 rfl op_info
    (try simp only [Exit.inBlock, Exit.then])
    refine bodyPost_ret (v := .tuple #[.agg #[.int .i64 o.kind, .slice a1 o.path.length c1, .slice none 0 0, .int .i64 o.pos, .bool false, .slice none 0 0, .slice none 0 0, .slice none 0 0, .slice none 0 0, .slice none 0 0, .slice a7 o.text.length c7, .bool false, .slice none 0 0, .int .i64 0, .slice none 0 0, .int .i64 0, .bool false, .slice none 0 0, .int .i64 0, .slice none 0 0, .int .i64 0], .bool true]) ?_ ?_ ?_
    · simp [results, Try.results39, asAddr, hrun]
    · rfl
    rw [← HEE.out, ← HOO.out, show fldB o = true by have := HK.out; simp [fldB]; omega, show fldO o = { kO o.kind with path := o.path, pos := o.pos, text := o.text } by have := HK.out; unfold fldO; rw [if_neg (by omega)]; rw [if_neg (by omega)]; rw [if_neg (by omega)]; rw [if_neg (by omega)]; rw [if_neg (by omega)]; rw [if_neg (by omega)]; rw [if_pos HK.out]]
    exact ⟨_, rfl, ⟨_, _, _, _, _, _, _, _, _, _, _, _, _, _, _, _, _, _, _, _, _, _, _, _, _, _, _, _, _, _, _, rfl, ⟨rd.path, ints_nil _, zeroNdF _, Sl.nil _ _ _ _, Sl.nil _ _ _ _, rd.text, ints_nil _, ints_nil _, ints_nil _, ints_nil _⟩⟩, zz3⟩
  have q7 : (o.kind == 7) = false := by rw [beq_eq_false_iff_ne]; exact hk7
  by_cases hk8 : o.kind = 8
  case pos =>
    have q8 : (o.kind == 8) = true := by simpa using hk8
    have HK := Lib.hid hk8; clear hk8
    obtain ⟨x0, -, -, x3, -, -, -, -, -, -, x10, -, -, -, -, -, -, -, -, -, -⟩ := op_facts HX.out
    obtain ⟨-, -, -, y3, -, -, -, -, -, -, y10, -, -, -, -, -, -, -, -, -, -⟩ := op_facts HY.out
    have z3 := frozen_of_row U g 3 _ _ HY.out; have z10 := frozen_of_row U g 10 _ _ HY.out
    have q1 : ((U.setCell ⟨g, 3, none⟩ (.int .i64 o.pos)).setCell ⟨g, 10, none⟩ (.slice a7 o.text.length c7)).heap[g]? = some (.cells #[.int .i64 o.kind, .slice a1 o.path.length c1, .slice none 0 0, .int .i64 o.pos, .bool false, .slice none 0 0, .slice none 0 0, .slice none 0 0, .slice none 0 0, .slice none 0 0, .slice a7 o.text.length c7, .bool false, .slice none 0 0, .int .i64 0, .slice none 0 0, .int .i64 0, .bool false, .slice none 0 0, .int .i64 0, .slice none 0 0, .int .i64 0] 35 (0, 0)) := (heap_setCell_same _ g 10 _ _ (.slice a7 o.text.length c7) (heap_setCell_same _ g 3 _ _ (.int .i64 o.pos) HY.out))
    have q2 : Below w.heap.size w ((U.setCell ⟨g, 3, none⟩ (.int .i64 o.pos)).setCell ⟨g, 10, none⟩ (.slice a7 o.text.length c7)) := ((LB.out.setCell (p := ⟨g, 3, none⟩) (by have := HG.out; simp; omega) (.int .i64 o.pos)).setCell (p := ⟨g, 10, none⟩) (by have := HG.out; simp; omega) (.slice a7 o.text.length c7))
    have hh := HG.out
    have q3 : ((U.setCell ⟨g, 3, none⟩ (.int .i64 o.pos)).setCell ⟨g, 10, none⟩ (.slice a7 o.text.length c7)).heap[w.heap.size + 1]? = some (.cells #[.int .i64 0, .slice none 0 0, .slice none 0 0, .int .i64 0, .bool false, .slice none 0 0, .slice none 0 0, .slice none 0 0, .slice none 0 0, .slice none 0 0, .slice none 0 0, .bool false, .slice none 0 0, .int .i64 0, .slice none 0 0, .int .i64 0, .bool false, .slice none 0 0, .int .i64 0, .slice none 0 0, .int .i64 0] 35 (0, 0)) := by rw [heap_setCell_off _ _ _ _ (show w.heap.size + 1 ≠ _ by simp; omega), heap_setCell_off _ _ _ _ (show w.heap.size + 1 ≠ _ by simp; omega)]; exact HZ.out
    have Q1 := Lib.hid q1; have Q2 := Lib.hid q2; have Q3 := Lib.hid q3; clear q1 q2 q3 hh
    go_upto_region 26 with fail
    clear HY LB HZ HX x0 x3 x10 y3 z3 y10 z10
    have HY := Lib.hid Q1.out; have LB := Lib.hid Q2.out; have HZ := Lib.hid Q3.out; clear Q1 Q2 Q3
    generalize World.setCell (World.setCell U _ _) _ _ = U2 at *
    have zh1 : (#[.int .i64 o.kind, .slice a1 o.path.length c1, .slice none 0 0, .int .i64 o.pos, .bool false, .slice none 0 0, .slice none 0 0, .slice none 0 0, .slice none 0 0, .slice none 0 0, .slice a7 o.text.length c7, .bool false, .slice none 0 0, .int .i64 0, .slice none 0 0, .int .i64 0, .bool false, .slice none 0 0, .int .i64 0, .slice none 0 0, .int .i64 0] : Array Value).all (·.oneCell') = true := by rw [← Array.all_toList]; rfl
    go_wp2_with (first | (refine wpList_load_row rfl 35 _ rfl _ rfl 35 _ (0, 0) _ HY.out Try.underlying35 rfl op_info ?_) | (refine wpList_store_row rfl 35 _ _ rfl _ _ rfl rfl 35 _ HZ.out op_info rfl zh1 ?_))
    have zz1 := setRow_heap U2 (w.heap.size + 1) _ #[.int .i64 o.kind, .slice a1 o.path.length c1, .slice none 0 0, .int .i64 o.pos, .bool false, .slice none 0 0, .slice none 0 0, .slice none 0 0, .slice none 0 0, .slice none 0 0, .slice a7 o.text.length c7, .bool false, .slice none 0 0, .int .i64 0, .slice none 0 0, .int .i64 0, .bool false, .slice none 0 0, .int .i64 0, .slice none 0 0, .int .i64 0] _ (0, 0) HZ.out
    have zz3 : Below w.heap.size w (U2.setRow (w.heap.size + 1) #[.int .i64 o.kind, .slice a1 o.path.length c1, .slice none 0 0, .int .i64 o.pos, .bool false, .slice none 0 0, .slice none 0 0, .slice none 0 0, .slice none 0 0, .slice none 0 0, .slice a7 o.text.length c7, .bool false, .slice none 0 0, .int .i64 0, .slice none 0 0, .int .i64 0, .bool false, .slice none 0 0, .int .i64 0, .slice none 0 0, .int .i64 0]) := LB.out.trans ⟨rfl, rfl, rfl, by simp, fun b hb => setRow_other U2 _ b _ (by omega)⟩
    have rd := HR.out.later zz3
    have hrun := run_loadVar_row (P := Try.prog) _ _ _ 35 _ _ _ zz1 Try.underlying35 rfl op_info
    (try simp only [Exit.inBlock, Exit.then])
    refine bodyPost_ret (v := .tuple #[.agg #[.int .i64 o.kind, .slice a1 o.path.length c1, .slice none 0 0, .int .i64 o.pos, .bool false, .slice none 0 0, .slice none 0 0, .slice none 0 0, .slice none 0 0, .slice none 0 0, .slice a7 o.text.length c7, .bool false, .slice none 0 0, .int .i64 0, .slice none 0 0, .int .i64 0, .bool false, .slice none 0 0, .int .i64 0, .slice none 0 0, .int .i64 0], .bool true]) ?_ ?_ ?_
    · simp [results, Try.results39, asAddr, hrun]
    · rfl
    rw [← HEE.out, ← HOO.out, show fldB o = true by have := HK.out; simp [fldB]; omega, show fldO o = { kO o.kind with path := o.path, pos := o.pos, text := o.text } by have := HK.out; unfold fldO; rw [if_neg (by omega)]; rw [if_neg (by omega)]; rw [if_neg (by omega)]; rw [if_neg (by omega)]; rw [if_neg (by omega)]; rw [if_neg (by omega)]; rw [if_neg (by omega)]; rw [if_pos HK.out]]
    exact ⟨_, rfl, ⟨_, _, _, _, _, _, _, _, _, _, _, _, _, _, _, _, _, _, _, _, _, _, _, _, _, _, _, _, _, _, _, rfl, ⟨rd.path, ints_nil _, zeroNdF _, Sl.nil _ _ _ _, Sl.nil _ _ _ _, rd.text, ints_nil _, ints_nil _, ints_nil _, ints_nil _⟩⟩, zz3⟩
  have q8 : (o.kind == 8) = false := by rw [beq_eq_false_iff_ne]; exact hk8
  by_cases hk9 : o.kind = 9
  case pos =>
    have q9 : (o.kind == 9) = true := by simpa using hk9
    have HK := Lib.hid hk9; clear hk9
    obtain ⟨x0, -, -, -, -, -, -, -, -, -, -, x11, x12, x13, x14, x15, x16, x17, x18, x19, x20⟩ := op_facts HX.out
    obtain ⟨-, y1, -, -, -, -, -, -, -, -, -, -, -, -, -, -, -, -, -, -, -⟩ := op_facts HY.out
    have z1 := frozen_of_row U g 1 _ _ HY.out
    have q1 : (U.setCell ⟨g, 1, none⟩ (.slice none 0 0)).heap[g]? = some (.cells #[.int .i64 o.kind, .slice none 0 0, .slice none 0 0, .int .i64 0, .bool false, .slice none 0 0, .slice none 0 0, .slice none 0 0, .slice none 0 0, .slice none 0 0, .slice none 0 0, .bool false, .slice none 0 0, .int .i64 0, .slice none 0 0, .int .i64 0, .bool false, .slice none 0 0, .int .i64 0, .slice none 0 0, .int .i64 0] 35 (0, 0)) := (heap_setCell_same _ g 1 _ _ (.slice none 0 0) HY.out)
    have q2 : Below w.heap.size w (U.setCell ⟨g, 1, none⟩ (.slice none 0 0)) := (LB.out.setCell (p := ⟨g, 1, none⟩) (by have := HG.out; simp; omega) (.slice none 0 0))
    have hh := HG.out
    have q3 : (U.setCell ⟨g, 1, none⟩ (.slice none 0 0)).heap[w.heap.size + 1]? = some (.cells #[.int .i64 0, .slice none 0 0, .slice none 0 0, .int .i64 0, .bool false, .slice none 0 0, .slice none 0 0, .slice none 0 0, .slice none 0 0, .slice none 0 0, .slice none 0 0, .bool false, .slice none 0 0, .int .i64 0, .slice none 0 0, .int .i64 0, .bool false, .slice none 0 0, .int .i64 0, .slice none 0 0, .int .i64 0] 35 (0, 0)) := by rw [heap_setCell_off _ _ _ _ (show w.heap.size + 1 ≠ _ by simp; omega)]; exact HZ.out
    have Q1 := Lib.hid q1; have Q2 := Lib.hid q2; have Q3 := Lib.hid q3; clear q1 q2 q3 hh
    clear x11 x12 x13 x14 x15 x16 x17 x18 x19 x20
    go_upto_region 24 with fail
    have BY := Lib.hid Q1.out; have L := Lib.hid Q2.out; have BZ := Lib.hid Q3.out; clear Q1 Q2 Q3 HY LB y1 z1
    have BX : Hid ((U.setCell ⟨g, 1, none⟩ (.slice none 0 0)).heap[w.heap.size]? = _) := Lib.hid ((heap_setCell_off _ _ _ _ (show w.heap.size ≠ _ by have := HG.out; simp; omega)).trans HX.out)
    clear HX HZ x0
    generalize World.setCell U _ _ = U2 at *
    obtain ⟨-, -, -, -, -, -, -, -, -, -, -, x11, x12, x13, x14, x15, x16, x17, x18, x19, x20⟩ := op_facts BX.out
    have s1 := setRow_heap U2 g _ #[.int .i64 o.kind, .slice none 0 0, .slice none 0 0, .int .i64 0, .bool false, .slice none 0 0, .slice none 0 0, .slice none 0 0, .slice none 0 0, .slice none 0 0, .slice none 0 0, .bool o.from_.1, .slice f1 g1 h1, .int .i64 o.from_.2.1.2, .slice f2 g2 h2, .int .i64 o.from_.2.2.2, .bool false, .slice none 0 0, .int .i64 0, .slice none 0 0, .int .i64 0] 35 (0, 0) BY.out
    have s2 := setRow_heap (U2.setRow g #[.int .i64 o.kind, .slice none 0 0, .slice none 0 0, .int .i64 0, .bool false, .slice none 0 0, .slice none 0 0, .slice none 0 0, .slice none 0 0, .slice none 0 0, .slice none 0 0, .bool o.from_.1, .slice f1 g1 h1, .int .i64 o.from_.2.1.2, .slice f2 g2 h2, .int .i64 o.from_.2.2.2, .bool false, .slice none 0 0, .int .i64 0, .slice none 0 0, .int .i64 0]) g _ #[.int .i64 o.kind, .slice none 0 0, .slice none 0 0, .int .i64 0, .bool false, .slice none 0 0, .slice none 0 0, .slice none 0 0, .slice none 0 0, .slice none 0 0, .slice none 0 0, .bool o.from_.1, .slice f1 g1 h1, .int .i64 o.from_.2.1.2, .slice f2 g2 h2, .int .i64 o.from_.2.2.2, .bool o.into.1, .slice i1 j1 k1, .int .i64 o.into.2.1.2, .slice i2 j2 k2, .int .i64 o.into.2.2.2] 35 (0, 0) s1
    have s3 : Below w.heap.size w ((U2.setRow g #[.int .i64 o.kind, .slice none 0 0, .slice none 0 0, .int .i64 0, .bool false, .slice none 0 0, .slice none 0 0, .slice none 0 0, .slice none 0 0, .slice none 0 0, .slice none 0 0, .bool o.from_.1, .slice f1 g1 h1, .int .i64 o.from_.2.1.2, .slice f2 g2 h2, .int .i64 o.from_.2.2.2, .bool false, .slice none 0 0, .int .i64 0, .slice none 0 0, .int .i64 0]).setRow g #[.int .i64 o.kind, .slice none 0 0, .slice none 0 0, .int .i64 0, .bool false, .slice none 0 0, .slice none 0 0, .slice none 0 0, .slice none 0 0, .slice none 0 0, .slice none 0 0, .bool o.from_.1, .slice f1 g1 h1, .int .i64 o.from_.2.1.2, .slice f2 g2 h2, .int .i64 o.from_.2.2.2, .bool o.into.1, .slice i1 j1 k1, .int .i64 o.into.2.1.2, .slice i2 j2 k2, .int .i64 o.into.2.2.2]) := L.out.trans ⟨rfl, rfl, rfl, by simp, fun b hb => (setRow_other _ g b _ (by have := HG.out; omega)).trans (setRow_other _ g b _ (by have := HG.out; omega))⟩
    have s4 : ((U2.setRow g #[.int .i64 o.kind, .slice none 0 0, .slice none 0 0, .int .i64 0, .bool false, .slice none 0 0, .slice none 0 0, .slice none 0 0, .slice none 0 0, .slice none 0 0, .slice none 0 0, .bool o.from_.1, .slice f1 g1 h1, .int .i64 o.from_.2.1.2, .slice f2 g2 h2, .int .i64 o.from_.2.2.2, .bool false, .slice none 0 0, .int .i64 0, .slice none 0 0, .int .i64 0]).setRow g #[.int .i64 o.kind, .slice none 0 0, .slice none 0 0, .int .i64 0, .bool false, .slice none 0 0, .slice none 0 0, .slice none 0 0, .slice none 0 0, .slice none 0 0, .slice none 0 0, .bool o.from_.1, .slice f1 g1 h1, .int .i64 o.from_.2.1.2, .slice f2 g2 h2, .int .i64 o.from_.2.2.2, .bool o.into.1, .slice i1 j1 k1, .int .i64 o.into.2.1.2, .slice i2 j2 k2, .int .i64 o.into.2.2.2]).heap[w.heap.size + 1]? = _ := (setRow_other _ g _ _ (by have := HG.out; omega)).trans ((setRow_other _ g _ _ (by have := HG.out; omega)).trans BZ.out)
    have s5 : (U2.setRow g #[.int .i64 o.kind, .slice none 0 0, .slice none 0 0, .int .i64 0, .bool false, .slice none 0 0, .slice none 0 0, .slice none 0 0, .slice none 0 0, .slice none 0 0, .slice none 0 0, .bool o.from_.1, .slice f1 g1 h1, .int .i64 o.from_.2.1.2, .slice f2 g2 h2, .int .i64 o.from_.2.2.2, .bool false, .slice none 0 0, .int .i64 0, .slice none 0 0, .int .i64 0]).heap[w.heap.size]? = _ := (setRow_other _ g _ _ (by have := HG.out; omega)).trans BX.out
    obtain ⟨-, -, -, -, -, -, -, -, -, -, -, -, -, -, -, -, r16, r17, r18, r19, r20⟩ := op_facts s5
    have S1 := Lib.hid s1; have S2 := Lib.hid s2; have S3 := Lib.hid s3; have S4 := Lib.hid s4; have S0 := Lib.hid BY.out; clear s1 s2 s3 s4 s5
    go_upto_region 26 with (first | (refine wpList_sel11 rfl _ _ rfl g _ _ _ _ _ rfl rfl _ _ _ _ _ _ _ _ _ _ _ _ _ _ _ _ _ _ _ _ _ _ S0.out rfl ?_) | (refine wpList_sel16 rfl _ _ rfl g _ _ _ _ _ rfl rfl _ _ _ _ _ _ _ _ _ _ _ _ _ _ _ _ _ _ _ _ _ _ S1.out rfl ?_))
    have HY := Lib.hid S2.out; have LB := Lib.hid S3.out; have HZ := Lib.hid S4.out
    clear S0 S1 S2 S3 S4 BX BY BZ L x11 x12 x13 x14 x15 x16 x17 x18 x19 x20 r16 r17 r18 r19 r20
    generalize World.setRow (World.setRow U2 _ _) _ _ = U3 at *
    have zh1 : (#[.int .i64 o.kind, .slice none 0 0, .slice none 0 0, .int .i64 0, .bool false, .slice none 0 0, .slice none 0 0, .slice none 0 0, .slice none 0 0, .slice none 0 0, .slice none 0 0, .bool o.from_.1, .slice f1 g1 h1, .int .i64 o.from_.2.1.2, .slice f2 g2 h2, .int .i64 o.from_.2.2.2, .bool o.into.1, .slice i1 j1 k1, .int .i64 o.into.2.1.2, .slice i2 j2 k2, .int .i64 o.into.2.2.2] : Array Value).all (·.oneCell') = true := by rw [← Array.all_toList]; rfl
    go_wp2_with (first | (refine wpList_load_row rfl 35 _ rfl _ rfl 35 _ (0, 0) _ HY.out Try.underlying35 rfl op_info ?_) | (refine wpList_store_row rfl 35 _ _ rfl _ _ rfl rfl 35 _ HZ.out op_info rfl zh1 ?_))
    have zz1 := setRow_heap U3 (w.heap.size + 1) _ #[.int .i64 o.kind, .slice none 0 0, .slice none 0 0, .int .i64 0, .bool false, .slice none 0 0, .slice none 0 0, .slice none 0 0, .slice none 0 0, .slice none 0 0, .slice none 0 0, .bool o.from_.1, .slice f1 g1 h1, .int .i64 o.from_.2.1.2, .slice f2 g2 h2, .int .i64 o.from_.2.2.2, .bool o.into.1, .slice i1 j1 k1, .int .i64 o.into.2.1.2, .slice i2 j2 k2, .int .i64 o.into.2.2.2] _ (0, 0) HZ.out
    have zz3 : Below w.heap.size w (U3.setRow (w.heap.size + 1) #[.int .i64 o.kind, .slice none 0 0, .slice none 0 0, .int .i64 0, .bool false, .slice none 0 0, .slice none 0 0, .slice none 0 0, .slice none 0 0, .slice none 0 0, .slice none 0 0, .bool o.from_.1, .slice f1 g1 h1, .int .i64 o.from_.2.1.2, .slice f2 g2 h2, .int .i64 o.from_.2.2.2, .bool o.into.1, .slice i1 j1 k1, .int .i64 o.into.2.1.2, .slice i2 j2 k2, .int .i64 o.into.2.2.2]) := LB.out.trans ⟨rfl, rfl, rfl, by simp, fun b hb => setRow_other U3 _ b _ (by omega)⟩
    have rd := HR.out.later zz3
    have hrun := run_loadVar_row (P := Try.prog) _ _ _ 35 _ _ _ zz1 Try.underlying35 rfl op_info
    (try simp only [Exit.inBlock, Exit.then])
    refine bodyPost_ret (v := .tuple #[.agg #[.int .i64 o.kind, .slice none 0 0, .slice none 0 0, .int .i64 0, .bool false, .slice none 0 0, .slice none 0 0, .slice none 0 0, .slice none 0 0, .slice none 0 0, .slice none 0 0, .bool o.from_.1, .slice f1 g1 h1, .int .i64 o.from_.2.1.2, .slice f2 g2 h2, .int .i64 o.from_.2.2.2, .bool o.into.1, .slice i1 j1 k1, .int .i64 o.into.2.1.2, .slice i2 j2 k2, .int .i64 o.into.2.2.2], .bool true]) ?_ ?_ ?_
    · simp [results, Try.results39, asAddr, hrun]
    · rfl
    rw [← HEE.out, ← HOO.out, show fldB o = true by have := HK.out; simp [fldB]; omega, show fldO o = { kO o.kind with from_ := o.from_, into := o.into } by have := HK.out; unfold fldO; rw [if_neg (by omega)]; rw [if_neg (by omega)]; rw [if_neg (by omega)]; rw [if_neg (by omega)]; rw [if_neg (by omega)]; rw [if_neg (by omega)]; rw [if_neg (by omega)]; rw [if_neg (by omega)]; rw [if_pos HK.out]]
    exact ⟨_, rfl, ⟨_, _, _, _, _, _, _, _, _, _, _, _, _, _, _, _, _, _, _, _, _, _, _, _, _, _, _, _, _, _, _, rfl, ⟨ints_nil _, ints_nil _, zeroNdF _, Sl.nil _ _ _ _, Sl.nil _ _ _ _, Sl.nil _ _ _ _, rd.fa, rd.fb, rd.ia, rd.ib⟩⟩, zz3⟩
  have q9 : (o.kind == 9) = false := by rw [beq_eq_false_iff_ne]; exact hk9
  have HKN := Lib.hid (show ¬ (1 ≤ o.kind ∧ o.kind ≤ 9) by omega)
  have HFO := Lib.hid (show fldO o = { kO o.kind with path := o.path } by unfold fldO; rw [if_neg hk1, if_neg hk2, if_neg hk3, if_neg hk4, if_neg hk5, if_neg hk6, if_neg hk7, if_neg hk8, if_neg hk9])
  clear hk1 hk2 hk3 hk4 hk5 hk6 hk7 hk8 hk9
  obtain ⟨x0, -⟩ := op_facts HX.out
  go_upto_region 3 with fail
  have zh1 : (#[.int .i64 o.kind, .slice a1 o.path.length c1, .slice none 0 0, .int .i64 0, .bool false, .slice none 0 0, .slice none 0 0, .slice none 0 0, .slice none 0 0, .slice none 0 0, .slice none 0 0, .bool false, .slice none 0 0, .int .i64 0, .slice none 0 0, .int .i64 0, .bool false, .slice none 0 0, .int .i64 0, .slice none 0 0, .int .i64 0] : Array Value).all (·.oneCell') = true := by rw [← Array.all_toList]; rfl
  go_wp2_with (first | (refine wpList_load_row rfl 35 _ rfl _ rfl 35 _ (0, 0) _ HY.out Try.underlying35 rfl op_info ?_) | (refine wpList_store_row rfl 35 _ _ rfl _ _ rfl rfl 35 _ HZ.out op_info rfl zh1 ?_))
  have zz1 := setRow_heap U (w.heap.size + 1) _ #[.int .i64 o.kind, .slice a1 o.path.length c1, .slice none 0 0, .int .i64 0, .bool false, .slice none 0 0, .slice none 0 0, .slice none 0 0, .slice none 0 0, .slice none 0 0, .slice none 0 0, .bool false, .slice none 0 0, .int .i64 0, .slice none 0 0, .int .i64 0, .bool false, .slice none 0 0, .int .i64 0, .slice none 0 0, .int .i64 0] _ (0, 0) HZ.out
  have zz3 : Below w.heap.size w (U.setRow (w.heap.size + 1) #[.int .i64 o.kind, .slice a1 o.path.length c1, .slice none 0 0, .int .i64 0, .bool false, .slice none 0 0, .slice none 0 0, .slice none 0 0, .slice none 0 0, .slice none 0 0, .slice none 0 0, .bool false, .slice none 0 0, .int .i64 0, .slice none 0 0, .int .i64 0, .bool false, .slice none 0 0, .int .i64 0, .slice none 0 0, .int .i64 0]) := LB.out.trans ⟨rfl, rfl, rfl, by simp, fun b hb => setRow_other U _ b _ (by omega)⟩
  have rd := HR.out.later zz3
  have hrun := run_loadVar_row (P := Try.prog) _ _ _ 35 _ _ _ zz1 Try.underlying35 rfl op_info
  (try simp only [Exit.inBlock, Exit.then])
  refine bodyPost_ret (v := .tuple #[.agg #[.int .i64 o.kind, .slice a1 o.path.length c1, .slice none 0 0, .int .i64 0, .bool false, .slice none 0 0, .slice none 0 0, .slice none 0 0, .slice none 0 0, .slice none 0 0, .slice none 0 0, .bool false, .slice none 0 0, .int .i64 0, .slice none 0 0, .int .i64 0, .bool false, .slice none 0 0, .int .i64 0, .slice none 0 0, .int .i64 0], .bool false]) ?_ ?_ ?_
  · simp [results, Try.results39, asAddr, hrun]
  · rfl
  rw [← HEE.out, ← HOO.out, show fldB o = false by rw [fldB]; exact decide_eq_false HKN.out, HFO.out]
  exact ⟨_, rfl, ⟨_, _, _, _, _, _, _, _, _, _, _, _, _, _, _, _, _, _, _, _, _, _, _, _, _, _, _, _, _, _, _, rfl, ⟨rd.path, ints_nil _, zeroNdF _, Sl.nil _ _ _ _, Sl.nil _ _ _ _, Sl.nil _ _ _ _, ints_nil _, ints_nil _, ints_nil _, ints_nil _⟩⟩, zz3⟩

/- Plain Lean: an operation has its fields just if it is the one with those alone. -/
theorem nil_dec {α : Type} [DecidableEq α] (xs : List α) : decide ([] = xs) = !decide (0 < xs.length) := by cases xs <;> simp
theorem zero_dec (x : Int) : ((0 : Int) == x) = !decide (x ≠ 0) := by
  by_cases h : x = 0
  · subst h; rfl
  · have h2 : (0 : Int) ≠ x := fun e => h e.symm
    simp [h, h2]
theorem eqT_symm (s t : Tree) : eqT s t = eqT t s := by
  rw [Bool.eq_iff_iff, eqT_iff, eqT_iff]
  exact eq_comm
theorem ptEq_symm (p : List Int) (a : Int) (q : List Int) (b : Int) : ptEq p a q b = ptEq q b p a := by
  rw [Bool.eq_iff_iff]; simp [ptEq]
  constructor <;> (rintro ⟨rfl, rfl⟩; exact ⟨rfl, rfl⟩)
theorem sselB_symm (s t : SelM) : sselB s.1 s.2.1.1 s.2.1.2 s.2.2.1 s.2.2.2 t.1 t.2.1.1 t.2.1.2 t.2.2.1 t.2.2.2 = sselB t.1 t.2.1.1 t.2.1.2 t.2.2.1 t.2.2.2 s.1 s.2.1.1 s.2.1.2 s.2.2.1 s.2.2.2 := by
  simp only [sselB]
  rw [ptEq_symm s.2.1.1, ptEq_symm s.2.2.1, Bool.beq_comm]
set_option linter.unusedSimpArgs false in
theorem form_fld (o : OpF) : formX o = if (fldB o && eqO (fldO o) o) = true then 0 else 1 := by
  unfold formX
  by_cases hk : 1 ≤ o.kind ∧ o.kind ≤ 9
  case neg => rw [if_neg hk, if_neg (by simp [fldB, hk])]
  rw [if_pos hk]
  suffices key : (∀ x ∈ setX o, x ∈ hasS o.kind) ↔ (fldB o && eqO (fldO o) o) = true by
    by_cases hA : ∀ x ∈ setX o, x ∈ hasS o.kind
    · rw [if_pos hA, if_pos (key.1 hA)]
    · rw [if_neg hA, if_neg (fun h => hA (key.2 h))]
  obtain ⟨s1, hs1⟩ : ∃ b, sselB o.from_.1 o.from_.2.1.1 o.from_.2.1.2 o.from_.2.2.1 o.from_.2.2.2 false [] 0 [] 0 = b := ⟨_, rfl⟩
  obtain ⟨s2, hs2⟩ : ∃ b, sselB o.into.1 o.into.2.1.1 o.into.2.1.2 o.into.2.2.1 o.into.2.2.2 false [] 0 [] 0 = b := ⟨_, rfl⟩
  have r1 := (sselB_symm noSel o.from_).trans hs1
  have r2 := (sselB_symm noSel o.into).trans hs2
  have e1 : sselB o.from_.1 o.from_.2.1.1 o.from_.2.1.2 o.from_.2.2.1 o.from_.2.2.2 o.from_.1 o.from_.2.1.1 o.from_.2.1.2 o.from_.2.2.1 o.from_.2.2.2 = true := sselB_self _ _ _ _ _
  have e2 : sselB o.into.1 o.into.2.1.1 o.into.2.1.2 o.into.2.2.1 o.into.2.2.2 o.into.1 o.into.2.1.1 o.into.2.1.2 o.into.2.2.1 o.into.2.2.2 = true := sselB_self _ _ _ _ _
  simp only [noSel] at r1 r2
  rw [setX, flagsX, hs1, hs2, form_flags o.kind hk]
  have hb : fldB o = true := by simp only [fldB]; exact decide_eq_true hk
  rw [hb, Bool.true_and]
  have : o.kind = 1 ∨ o.kind = 2 ∨ o.kind = 3 ∨ o.kind = 4 ∨ o.kind = 5 ∨ o.kind = 6 ∨ o.kind = 7 ∨ o.kind = 8 ∨ o.kind = 9 := by omega
  rcases this with h | h | h | h | h | h | h | h | h <;>
    simp [fldO, eqO, h, kO, nil_dec, zero_dec, eqT_symm noT, eqT_yes, r1, r2, noSel, e1, e2]

/- The walk of redlineref11.Form; words for whole operations in boxes. (genrform.py wrote it.) -/
set_option maxHeartbeats 2000000 in
set_option maxRecDepth 100000 in
theorem rform_any (o : OpF) (v : Value) (w : World) (hv : OpV w v o) : Calls Try.prog 15 #[v] w fun e w' => e = .returned (.int .i64 (formX o)) ∧ Below w.heap.size w w' := by
  obtain ⟨cs, rfl, -, hsz⟩ := hv.agg
  have hbW := gr_al (gr_refl w) (.cells cs 35)
  have hx := heap_alloc_new w (.cells cs 35)
  have ho := hv.later hbW
  have hf := fields_any o (.agg cs) _ ho
  obtain ⟨EE, hEE⟩ : ∃ EE, formX o = EE := ⟨_, rfl⟩
  rw [hEE]
  obtain ⟨OF, hOF⟩ : ∃ OF, fldO o = OF := ⟨_, rfl⟩
  obtain ⟨BF, hBF⟩ : ∃ BF, fldB o = BF := ⟨_, rfl⟩
  obtain ⟨QF, hQF⟩ : ∃ QF, eqO OF o = QF := ⟨_, rfl⟩
  have hE2 := form_fld o
  rw [hOF, hBF] at hf
  rw [hOF, hBF, hEE, hQF] at hE2
  have HX := Lib.hid hx; have HO := Lib.hid ho; have HB := Lib.hid hbW; have HF := Lib.hid hf; have HE := Lib.hid hE2; have HQ := Lib.hid hQF
  have HI := Lib.hid (info_op hsz)
  clear hx ho hbW hf hE2 hQF hOF hBF hEE hsz hv
  go_enter Try.func15, Try.ntmps15
  go_upto_region 1 with fail
  generalize World.alloc w _ = W at *
  go_wp2_with (refine wpList_load_row rfl 35 _ rfl _ rfl 35 _ (0, 0) _ HX.out Try.underlying35 rfl HI.out ?_)
  refine HF.out.mono ?_
  rintro e w1 ⟨cs1, rfl, hv1, hb⟩
  have h1 := hv1.one
  obtain ⟨fr1, fr2⟩ := fresh_row w1 #[.int .i64 0, .slice none 0 0, .slice none 0 0, .int .i64 0, .bool false, .slice none 0 0, .slice none 0 0, .slice none 0 0, .slice none 0 0, .slice none 0 0, .slice none 0 0, .bool false, .slice none 0 0, .int .i64 0, .slice none 0 0, .int .i64 0, .bool false, .slice none 0 0, .int .i64 0, .slice none 0 0, .int .i64 0] cs1 35
  have HX1 := Lib.hid (blk_below (blk_below HX.out hb) fr1); have HO1 := Lib.hid ((HO.out.later hb).later fr1); have HB1 := Lib.hid (gr_tr (gr_tr HB.out hb) fr1); have HV1 := Lib.hid (hv1.later fr1); have HY := Lib.hid fr2; have HI1 := Lib.hid (info_op h1.2); have H1 := Lib.hid h1
  clear hb hv1 h1 fr1 fr2 HF HX HO HB
  go_upto_region 2 with (refine wpList_store_row rfl 35 _ _ rfl _ _ rfl rfl 35 _ (heap_alloc_new w1 (.cells #[.int .i64 0, .slice none 0 0, .slice none 0 0, .int .i64 0, .bool false, .slice none 0 0, .slice none 0 0, .slice none 0 0, .slice none 0 0, .slice none 0 0, .slice none 0 0, .bool false, .slice none 0 0, .int .i64 0, .slice none 0 0, .int .i64 0, .bool false, .slice none 0 0, .int .i64 0, .slice none 0 0, .int .i64 0] 35)) HI1.out H1.out.2.symm H1.out.1 ?_)
  generalize World.setRow (w1.alloc _) _ _ = U at *
  cases BF
  case false =>
    go_wp2_with fail
    go_ret
    exact ⟨ret_int (by rw [HE.out]; rfl), HB1.out⟩
  have hs := rs11_any OF o _ _ _ HV1.out HO1.out
  rw [HQ.out] at hs
  have HS := Lib.hid hs
  clear hs HV1 HO1 HQ
  go_wp2_with (first | (refine wpList_load_row_g (by rfl) 35 _ rfl _ rfl 35 _ (0, 0) _ HY.out Try.underlying35 rfl HI1.out ?_) | (refine wpList_load_row_g (by rfl) 35 _ rfl _ rfl 35 _ (0, 0) _ HX1.out Try.underlying35 rfl HI.out ?_))
  refine HS.out.mono ?_
  rintro e w2 ⟨rfl, hb⟩
  have HB2 := Lib.hid (gr_tr HB1.out hb)
  clear hb HS HX1 HY HB1
  cases QF
  case false =>
    go_wp2_with fail
    go_ret
    exact ⟨ret_int (by rw [HE.out]; rfl), HB2.out⟩
  go_wp2_with fail
  go_ret
  exact ⟨ret_int (by rw [HE.out]; rfl), HB2.out⟩
end Go.Proofs.Ytcbljiiomnhbjaa
