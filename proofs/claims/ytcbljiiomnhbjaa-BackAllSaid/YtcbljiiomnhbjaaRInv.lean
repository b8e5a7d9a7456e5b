/- The walk of redlineref11.Inverse. (genrinv.py wrote it.) -/
import Derived.Test.YtcbljiiomnhbjaaRForms
namespace Go.Proofs.Ytcbljiiomnhbjaa
set_option maxRecDepth 100000
open Go.RowKit

theorem OpV.mk {w : World} {o : OpF} {a1 c1 a2 c2 p1 m1 d1 p2 m2 d2 p3 m3 d3 a5 c5 a6 c6 a7 c7 f1 g1 h1 f2 g2 h2 i1 j1 k1 i2 j2 k2} (h : OpRd w o (.slice a1 o.path.length c1) (.slice a2 o.dest.length c2) [.bool o.node.leaf, .slice p1 m1 d1, .slice p2 m2 d2, .slice p3 m3 d3] (.slice a5 o.old.length c5) (.slice a6 o.new.length c6) (.slice a7 o.text.length c7) (.slice f1 g1 h1) (.slice f2 g2 h2) (.slice i1 j1 k1) (.slice i2 j2 k2)) :
    OpV w (.agg #[.int .i64 o.kind, .slice a1 o.path.length c1, .slice a2 o.dest.length c2, .int .i64 o.pos, .bool o.node.leaf, .slice p1 m1 d1, .slice p2 m2 d2, .slice p3 m3 d3, .slice a5 o.old.length c5, .slice a6 o.new.length c6, .slice a7 o.text.length c7, .bool o.from_.1, .slice f1 g1 h1, .int .i64 o.from_.2.1.2, .slice f2 g2 h2, .int .i64 o.from_.2.2.2, .bool o.into.1, .slice i1 j1 k1, .int .i64 o.into.2.1.2, .slice i2 j2 k2, .int .i64 o.into.2.2.2]) o := ⟨_, _, _, _, _, _, _, _, _, _, _, _, _, _, _, _, _, _, _, _, _, _, _, _, _, _, _, _, _, _, _, rfl, h⟩

theorem OpV.unmk {w : World} {o : OpF} {a1 c1 a2 c2 p1 m1 d1 p2 m2 d2 p3 m3 d3 a5 c5 a6 c6 a7 c7 f1 g1 h1 f2 g2 h2 i1 j1 k1 i2 j2 k2} (h : OpV w (.agg #[.int .i64 o.kind, .slice a1 o.path.length c1, .slice a2 o.dest.length c2, .int .i64 o.pos, .bool o.node.leaf, .slice p1 m1 d1, .slice p2 m2 d2, .slice p3 m3 d3, .slice a5 o.old.length c5, .slice a6 o.new.length c6, .slice a7 o.text.length c7, .bool o.from_.1, .slice f1 g1 h1, .int .i64 o.from_.2.1.2, .slice f2 g2 h2, .int .i64 o.from_.2.2.2, .bool o.into.1, .slice i1 j1 k1, .int .i64 o.into.2.1.2, .slice i2 j2 k2, .int .i64 o.into.2.2.2]) o) : OpRd w o (.slice a1 o.path.length c1) (.slice a2 o.dest.length c2) [.bool o.node.leaf, .slice p1 m1 d1, .slice p2 m2 d2, .slice p3 m3 d3] (.slice a5 o.old.length c5) (.slice a6 o.new.length c6) (.slice a7 o.text.length c7) (.slice f1 g1 h1) (.slice f2 g2 h2) (.slice i1 j1 k1) (.slice i2 j2 k2) := by
  obtain ⟨a1', c1', a2', c2', p1', m1', d1', p2', m2', d2', p3', m3', d3', a5', c5', a6', c6', a7', c7', f1', g1', h1', f2', g2', h2', i1', j1', k1', i2', j2', k2', he, hr⟩ := h
  simp only [opC, Value.agg.injEq, Array.mk.injEq, List.cons.injEq, Value.slice.injEq, true_and, and_true] at he
  obtain ⟨⟨rfl, rfl⟩, ⟨rfl, rfl⟩, ⟨rfl, rfl, rfl⟩, ⟨rfl, rfl, rfl⟩, ⟨rfl, rfl, rfl⟩, ⟨rfl, rfl⟩, ⟨rfl, rfl⟩, ⟨rfl, rfl⟩, ⟨rfl, rfl, rfl⟩, ⟨rfl, rfl, rfl⟩, ⟨rfl, rfl, rfl⟩, rfl, rfl, rfl⟩ := he
  exact hr
theorem ints_own {w X : World} {v : Value} {xs : List Int} {B : Nat} (h : Ints w v xs) (hb : ∀ k, v.ownBlock = some k → B ≤ k) (hq : ∀ a u, B ≤ a.block → w.cell? a = some u → X.cell? a = some u) : Ints X v xs := by
  obtain ⟨a, cap, h1, h2, hm, h3, h5⟩ := h
  refine ⟨a, cap, h1, h2, hm, h3, fun hp => ?_⟩
  obtain ⟨b, off, rfl, hc⟩ := h5 hp
  exact ⟨b, off, rfl, fun j hj => hq _ _ (hb b (by rw [h1]; rfl)) (hc j hj)⟩
/-- What redlineref11.Inverse hands back: it reads the same wherever the operation does, and what is new lies. -/
def InvS (o : OpF) (v : Value) (r : OpF) (er : Int) (w : World) (e : Ending) (w' : World) : Prop :=
  ∃ cs : Array Value, e = .returned (.tuple #[.agg cs, .int .i64 er]) ∧ Below w.heap.size w w' ∧ ∀ X : World, OpV X v o → (∀ a u, w.heap.size ≤ a.block → w'.cell? a = some u → X.cell? a = some u) → OpV X (.agg cs) r
theorem InvS.p {o r : OpF} {v : Value} {er : Int} {w w' : World} {e : Ending} (h : InvS o v r er w e w') (hv : OpV w v o) : InvP r er w e w' := by
  obtain ⟨cs, h1, h2, h3⟩ := h
  exact ⟨cs, h1, h3 w' (hv.later h2) fun _ _ _ h => h, h2⟩
theorem InvS.zero {o o' : OpF} {v : Value} {w w' : World} {er er' : Int} (ho : o' = zeroO) (he : er' = er) (hb : Below w.heap.size w w') : InvS o v o' er' w (.returned (.tuple #[.agg #[.int .i64 0, .slice none 0 0, .slice none 0 0, .int .i64 0, .bool false, .slice none 0 0, .slice none 0 0, .slice none 0 0, .slice none 0 0, .slice none 0 0, .slice none 0 0, .bool false, .slice none 0 0, .int .i64 0, .slice none 0 0, .int .i64 0, .bool false, .slice none 0 0, .int .i64 0, .slice none 0 0, .int .i64 0], .int .i64 er])) w' := by
  subst ho he
  exact ⟨_, rfl, hb, fun X _ _ => zero_op X⟩

set_option maxHeartbeats 8000000 in
set_option maxRecDepth 100000 in
theorem rinv_s (o : OpF) (v : Value) (w : World) (hv : OpV w v o) (hi : I64 o.path) : Calls Try.prog 12 #[v] w (InvS o v (invO o) (invE o) w) := by
  obtain ⟨a1, c1, a2, c2, p1, m1, d1, p2, m2, d2, p3, m3, d3, a5, c5, a6, c6, a7, c7, f1, g1, h1, f2, g2, h2, i1, j1, k1, i2, j2, k2, rfl, hr⟩ := hv
  dsimp only [opC]
  obtain ⟨hbW, hx, hz⟩ := two_boxes w #[.int .i64 o.kind, .slice a1 o.path.length c1, .slice a2 o.dest.length c2, .int .i64 o.pos, .bool o.node.leaf, .slice p1 m1 d1, .slice p2 m2 d2, .slice p3 m3 d3, .slice a5 o.old.length c5, .slice a6 o.new.length c6, .slice a7 o.text.length c7, .bool o.from_.1, .slice f1 g1 h1, .int .i64 o.from_.2.1.2, .slice f2 g2 h2, .int .i64 o.from_.2.2.2, .bool o.into.1, .slice i1 j1 k1, .int .i64 o.into.2.1.2, .slice i2 j2 k2, .int .i64 o.into.2.2.2] #[.int .i64 0, .slice none 0 0, .slice none 0 0, .int .i64 0, .bool false, .slice none 0 0, .slice none 0 0, .slice none 0 0, .slice none 0 0, .slice none 0 0, .slice none 0 0, .bool false, .slice none 0 0, .int .i64 0, .slice none 0 0, .int .i64 0, .bool false, .slice none 0 0, .int .i64 0, .slice none 0 0, .int .i64 0] 35 35
  have hf := rform_any o (.agg #[.int .i64 o.kind, .slice a1 o.path.length c1, .slice a2 o.dest.length c2, .int .i64 o.pos, .bool o.node.leaf, .slice p1 m1 d1, .slice p2 m2 d2, .slice p3 m3 d3, .slice a5 o.old.length c5, .slice a6 o.new.length c6, .slice a7 o.text.length c7, .bool o.from_.1, .slice f1 g1 h1, .int .i64 o.from_.2.1.2, .slice f2 g2 h2, .int .i64 o.from_.2.2.2, .bool o.into.1, .slice i1 j1 k1, .int .i64 o.into.2.1.2, .slice i2 j2 k2, .int .i64 o.into.2.2.2]) _ (OpV.mk (hr.later hbW))
  have HR := Lib.hid hr; have HX := Lib.hid hx; have HZ := Lib.hid hz; have HB := Lib.hid hbW; have HI := Lib.hid hi
  obtain ⟨OO, hOO⟩ : ∃ OO, invO o = OO := ⟨_, rfl⟩
  obtain ⟨EE, hEE⟩ : ∃ EE, invE o = EE := ⟨_, rfl⟩
  obtain ⟨fe, hfe⟩ : ∃ fe, formX o = fe := ⟨_, rfl⟩
  rw [hfe] at hf
  rw [hOO, hEE]
  have HOO := Lib.hid hOO; have HEE := Lib.hid hEE; have HFE := Lib.hid hfe; have HF := Lib.hid hf
  clear hr hbW hx hz hOO hEE hfe hf hi
  go_enter Try.func12, Try.ntmps12
  go_upto_region 1 with fail
  generalize World.alloc (World.alloc w _) _ = W at *
  go_wp2_with (refine wpList_load_row rfl 35 _ rfl _ rfl 35 _ (0, 0) _ HX.out Try.underlying35 rfl op_info ?_)
  refine HF.out.mono ?_
  rintro e w1 ⟨rfl, hb⟩
  replace HX := Lib.hid (blk_below HX.out hb); replace HZ := Lib.hid (blk_below HZ.out hb); replace HB := Lib.hid (gr_tr HB.out hb)
  clear hb HF
  have HWS := Lib.hid (show w.heap.size + 1 < w1.heap.size from lt_of_block HZ.out)
  by_cases hf0 : fe = 0
  case neg =>
    have q : (fe != 0) = true := by simpa using hf0
    have HEQ : Hid (EE = fe) := Lib.hid (by rw [← HEE.out, ← HFE.out]; exact (inv_bad (by rw [HFE.out]; exact hf0)).1)
    have HOQ : Hid (OO = zeroO) := Lib.hid (by rw [← HOO.out]; exact (inv_bad (by rw [HFE.out]; exact hf0)).2)
    clear hf0
    have zh1 : (#[.int .i64 0, .slice none 0 0, .slice none 0 0, .int .i64 0, .bool false, .slice none 0 0, .slice none 0 0, .slice none 0 0, .slice none 0 0, .slice none 0 0, .slice none 0 0, .bool false, .slice none 0 0, .int .i64 0, .slice none 0 0, .int .i64 0, .bool false, .slice none 0 0, .int .i64 0, .slice none 0 0, .int .i64 0] : Array Value).all (·.oneCell') = true := by rw [← Array.all_toList]; rfl
    go_wp2_with (refine wpList_store_row rfl 35 _ _ rfl _ _ rfl rfl 35 _ HZ.out op_info rfl zh1 ?_)
    have zz1 := setRow_heap w1 (w.heap.size + 1) _ #[.int .i64 0, .slice none 0 0, .slice none 0 0, .int .i64 0, .bool false, .slice none 0 0, .slice none 0 0, .slice none 0 0, .slice none 0 0, .slice none 0 0, .slice none 0 0, .bool false, .slice none 0 0, .int .i64 0, .slice none 0 0, .int .i64 0, .bool false, .slice none 0 0, .int .i64 0, .slice none 0 0, .int .i64 0] _ (0, 0) HZ.out
    have zz3 : Below w.heap.size w (w1.setRow (w.heap.size + 1) #[.int .i64 0, .slice none 0 0, .slice none 0 0, .int .i64 0, .bool false, .slice none 0 0, .slice none 0 0, .slice none 0 0, .slice none 0 0, .slice none 0 0, .slice none 0 0, .bool false, .slice none 0 0, .int .i64 0, .slice none 0 0, .int .i64 0, .bool false, .slice none 0 0, .int .i64 0, .slice none 0 0, .int .i64 0]) := HB.out.trans ⟨rfl, rfl, rfl, by simp, fun b hb => setRow_other w1 _ b _ (by omega)⟩
    have hrun := run_loadVar_row (P := Try.prog) _ _ _ 35 _ _ _ zz1 Try.underlying35 rfl op_info
    (try simp only [Exit.inBlock, Exit.then])
    refine bodyPost_ret (v := .tuple #[.agg #[.int .i64 0, .slice none 0 0, .slice none 0 0, .int .i64 0, .bool false, .slice none 0 0, .slice none 0 0, .slice none 0 0, .slice none 0 0, .slice none 0 0, .slice none 0 0, .bool false, .slice none 0 0, .int .i64 0, .slice none 0 0, .int .i64 0, .bool false, .slice none 0 0, .int .i64 0, .slice none 0 0, .int .i64 0], .int .i64 fe]) ?_ ?_ ?_
    · simp [results, Try.results12, asAddr, hrun]
    · rfl
    exact InvS.zero HOQ.out HEQ.out zz3
  subst hf0
  have HFZ := Lib.hid (form_zero.1 HFE.out)
  have zhX : (#[.int .i64 o.kind, .slice a1 o.path.length c1, .slice a2 o.dest.length c2, .int .i64 o.pos, .bool o.node.leaf, .slice p1 m1 d1, .slice p2 m2 d2, .slice p3 m3 d3, .slice a5 o.old.length c5, .slice a6 o.new.length c6, .slice a7 o.text.length c7, .bool o.from_.1, .slice f1 g1 h1, .int .i64 o.from_.2.1.2, .slice f2 g2 h2, .int .i64 o.from_.2.2.2, .bool o.into.1, .slice i1 j1 k1, .int .i64 o.into.2.1.2, .slice i2 j2 k2, .int .i64 o.into.2.2.2] : Array Value).all (·.oneCell') = true := by rw [← Array.all_toList]; rfl
  obtain ⟨fr1, fr2⟩ := fresh_row w1 #[.int .i64 0, .slice none 0 0, .slice none 0 0, .int .i64 0, .bool false, .slice none 0 0, .slice none 0 0, .slice none 0 0, .slice none 0 0, .slice none 0 0, .slice none 0 0, .bool false, .slice none 0 0, .int .i64 0, .slice none 0 0, .int .i64 0, .bool false, .slice none 0 0, .int .i64 0, .slice none 0 0, .int .i64 0] #[.int .i64 o.kind, .slice a1 o.path.length c1, .slice a2 o.dest.length c2, .int .i64 o.pos, .bool o.node.leaf, .slice p1 m1 d1, .slice p2 m2 d2, .slice p3 m3 d3, .slice a5 o.old.length c5, .slice a6 o.new.length c6, .slice a7 o.text.length c7, .bool o.from_.1, .slice f1 g1 h1, .int .i64 o.from_.2.1.2, .slice f2 g2 h2, .int .i64 o.from_.2.2.2, .bool o.into.1, .slice i1 j1 k1, .int .i64 o.into.2.1.2, .slice i2 j2 k2, .int .i64 o.into.2.2.2] 35
  obtain ⟨g, hg⟩ : ∃ g, w1.heap.size = g := ⟨_, rfl⟩
  have HX1 := blk_below HX.out fr1; have HZ1 := blk_below HZ.out fr1; have HB1 := gr_tr HB.out fr1; have HG := HWS.out
  rw [hg] at fr2 HX1 HZ1 HB1 HG
  have HY := Lib.hid fr2; have K1 := Lib.hid HX1; have K2 := Lib.hid HZ1; have K3 := Lib.hid HB1; have K4 := Lib.hid HG; have KG := Lib.hid hg
  clear fr1 fr2 HX1 HZ1 HB1 HG hg
  go_upto_region 5 with (first | (refine wpList_load_row rfl 35 _ rfl _ rfl 35 _ (0, 0) _ HX.out Try.underlying35 rfl op_info ?_) | (refine wpList_store_row rfl 35 _ _ rfl _ _ rfl rfl 35 _ (heap_alloc_new w1 (.cells #[.int .i64 0, .slice none 0 0, .slice none 0 0, .int .i64 0, .bool false, .slice none 0 0, .slice none 0 0, .slice none 0 0, .slice none 0 0, .slice none 0 0, .slice none 0 0, .bool false, .slice none 0 0, .int .i64 0, .slice none 0 0, .int .i64 0, .bool false, .slice none 0 0, .int .i64 0, .slice none 0 0, .int .i64 0] 35)) op_info rfl zhX ?_))
  clear HX HZ HB HWS zhX
  have HX := Lib.hid K1.out; have HZ := Lib.hid K2.out; have HB := Lib.hid K3.out; have HG := Lib.hid K4.out; clear K1 K2 K3 K4
  rw [KG.out]
  generalize World.setRow (w1.alloc _) _ _ = U at *
  clear KG
  by_cases hk1 : o.kind = 1
  case pos =>
    have q1 : (o.kind == 1) = true := by simpa using hk1
    have HK := Lib.hid hk1; clear hk1
    have HEQ : Hid (EE = 0) := Lib.hid (by rw [← HEE.out]; exact (inv_plain HFZ.out (by have := HK.out; omega) (by have := HK.out; omega)).1)
    have HOQ : Hid (OO = { o with kind := 2 }) := Lib.hid (by rw [← HOO.out]; exact inv_1 HFZ.out HK.out)
    obtain ⟨x0, -, -, -, -, -, -, -, -, -, -, -, -, -, -, -, -, -, -, -, -⟩ := op_facts HX.out
    obtain ⟨y0, -, -, -, -, -, -, -, -, -, -, -, -, -, -, -, -, -, -, -, -⟩ := op_facts HY.out
    have z0 := frozen_of_row U g 0 _ _ HY.out
    have hh := HG.out
    have q1 : (U.setCell ⟨g, 0, none⟩ (.int .i64 2)).heap[g]? = some (.cells #[.int .i64 2, .slice a1 o.path.length c1, .slice a2 o.dest.length c2, .int .i64 o.pos, .bool o.node.leaf, .slice p1 m1 d1, .slice p2 m2 d2, .slice p3 m3 d3, .slice a5 o.old.length c5, .slice a6 o.new.length c6, .slice a7 o.text.length c7, .bool o.from_.1, .slice f1 g1 h1, .int .i64 o.from_.2.1.2, .slice f2 g2 h2, .int .i64 o.from_.2.2.2, .bool o.into.1, .slice i1 j1 k1, .int .i64 o.into.2.1.2, .slice i2 j2 k2, .int .i64 o.into.2.2.2] 35 (0, 0)) := (heap_setCell_same _ g 0 _ _ (.int .i64 2) HY.out)
    have q2 : Below w.heap.size w (U.setCell ⟨g, 0, none⟩ (.int .i64 2)) := (HB.out.setCell (p := ⟨g, 0, none⟩) (by have := HG.out; simp; omega) (.int .i64 2))
    have q3 : (U.setCell ⟨g, 0, none⟩ (.int .i64 2)).heap[w.heap.size + 1]? = some (.cells #[.int .i64 0, .slice none 0 0, .slice none 0 0, .int .i64 0, .bool false, .slice none 0 0, .slice none 0 0, .slice none 0 0, .slice none 0 0, .slice none 0 0, .slice none 0 0, .bool false, .slice none 0 0, .int .i64 0, .slice none 0 0, .int .i64 0, .bool false, .slice none 0 0, .int .i64 0, .slice none 0 0, .int .i64 0] 35 (0, 0)) := by rw [heap_setCell_off _ _ _ _ (show w.heap.size + 1 ≠ _ by simp; omega)]; exact HZ.out
    have Q1 := Lib.hid q1; have Q2 := Lib.hid q2; have Q3 := Lib.hid q3; clear q1 q2 q3 hh
    go_upto_region 33 with fail
    clear HY HB HZ HX x0  y0 z0
    have HY := Lib.hid Q1.out; have HB := Lib.hid Q2.out; have HZ := Lib.hid Q3.out; clear Q1 Q2 Q3
    generalize World.setCell U _ _ = U2 at *
    have zh1 : (#[.int .i64 2, .slice a1 o.path.length c1, .slice a2 o.dest.length c2, .int .i64 o.pos, .bool o.node.leaf, .slice p1 m1 d1, .slice p2 m2 d2, .slice p3 m3 d3, .slice a5 o.old.length c5, .slice a6 o.new.length c6, .slice a7 o.text.length c7, .bool o.from_.1, .slice f1 g1 h1, .int .i64 o.from_.2.1.2, .slice f2 g2 h2, .int .i64 o.from_.2.2.2, .bool o.into.1, .slice i1 j1 k1, .int .i64 o.into.2.1.2, .slice i2 j2 k2, .int .i64 o.into.2.2.2] : Array Value).all (·.oneCell') = true := by rw [← Array.all_toList]; rfl
    go_wp2_with (first | (refine wpList_load_row rfl 35 _ rfl _ rfl 35 _ (0, 0) _ HY.out Try.underlying35 rfl op_info ?_) | (refine wpList_store_row rfl 35 _ _ rfl _ _ rfl rfl 35 _ HZ.out op_info rfl zh1 ?_))
    have zz1 := setRow_heap U2 (w.heap.size + 1) _ #[.int .i64 2, .slice a1 o.path.length c1, .slice a2 o.dest.length c2, .int .i64 o.pos, .bool o.node.leaf, .slice p1 m1 d1, .slice p2 m2 d2, .slice p3 m3 d3, .slice a5 o.old.length c5, .slice a6 o.new.length c6, .slice a7 o.text.length c7, .bool o.from_.1, .slice f1 g1 h1, .int .i64 o.from_.2.1.2, .slice f2 g2 h2, .int .i64 o.from_.2.2.2, .bool o.into.1, .slice i1 j1 k1, .int .i64 o.into.2.1.2, .slice i2 j2 k2, .int .i64 o.into.2.2.2] _ (0, 0) HZ.out
    have zz3 : Below w.heap.size w (U2.setRow (w.heap.size + 1) #[.int .i64 2, .slice a1 o.path.length c1, .slice a2 o.dest.length c2, .int .i64 o.pos, .bool o.node.leaf, .slice p1 m1 d1, .slice p2 m2 d2, .slice p3 m3 d3, .slice a5 o.old.length c5, .slice a6 o.new.length c6, .slice a7 o.text.length c7, .bool o.from_.1, .slice f1 g1 h1, .int .i64 o.from_.2.1.2, .slice f2 g2 h2, .int .i64 o.from_.2.2.2, .bool o.into.1, .slice i1 j1 k1, .int .i64 o.into.2.1.2, .slice i2 j2 k2, .int .i64 o.into.2.2.2]) := HB.out.trans ⟨rfl, rfl, rfl, by simp, fun b hb => setRow_other U2 _ b _ (by omega)⟩
    have hrun := run_loadVar_row (P := Try.prog) _ _ _ 35 _ _ _ zz1 Try.underlying35 rfl op_info
    (try simp only [Exit.inBlock, Exit.then])
    refine bodyPost_ret (v := .tuple #[.agg #[.int .i64 2, .slice a1 o.path.length c1, .slice a2 o.dest.length c2, .int .i64 o.pos, .bool o.node.leaf, .slice p1 m1 d1, .slice p2 m2 d2, .slice p3 m3 d3, .slice a5 o.old.length c5, .slice a6 o.new.length c6, .slice a7 o.text.length c7, .bool o.from_.1, .slice f1 g1 h1, .int .i64 o.from_.2.1.2, .slice f2 g2 h2, .int .i64 o.from_.2.2.2, .bool o.into.1, .slice i1 j1 k1, .int .i64 o.into.2.1.2, .slice i2 j2 k2, .int .i64 o.into.2.2.2], .int .i64 0]) ?_ ?_ ?_
    · simp [results, Try.results12, asAddr, hrun]
    · rfl
    rw [HEQ.out, HOQ.out]
    refine ⟨_, rfl, zz3, fun X hX hq => ?_⟩
    have rd := hX.unmk
    exact ⟨_, _, _, _, _, _, _, _, _, _, _, _, _, _, _, _, _, _, _, _, _, _, _, _, _, _, _, _, _, _, _, rfl, ⟨rd.path, rd.dest, rd.node, rd.old, rd.new, rd.text, rd.fa, rd.fb, rd.ia, rd.ib⟩⟩
  have q1 : (o.kind == 1) = false := by rw [beq_eq_false_iff_ne]; exact hk1
  by_cases hk2 : o.kind = 2
  case pos =>
    have q2 : (o.kind == 2) = true := by simpa using hk2
    have HK := Lib.hid hk2; clear hk2
    have HEQ : Hid (EE = 0) := Lib.hid (by rw [← HEE.out]; exact (inv_plain HFZ.out (by have := HK.out; omega) (by have := HK.out; omega)).1)
    have HOQ : Hid (OO = { o with kind := 1 }) := Lib.hid (by rw [← HOO.out]; exact inv_2 HFZ.out HK.out)
    obtain ⟨x0, -, -, -, -, -, -, -, -, -, -, -, -, -, -, -, -, -, -, -, -⟩ := op_facts HX.out
    obtain ⟨y0, -, -, -, -, -, -, -, -, -, -, -, -, -, -, -, -, -, -, -, -⟩ := op_facts HY.out
    have z0 := frozen_of_row U g 0 _ _ HY.out
    have hh := HG.out
    have q1 : (U.setCell ⟨g, 0, none⟩ (.int .i64 1)).heap[g]? = some (.cells #[.int .i64 1, .slice a1 o.path.length c1, .slice a2 o.dest.length c2, .int .i64 o.pos, .bool o.node.leaf, .slice p1 m1 d1, .slice p2 m2 d2, .slice p3 m3 d3, .slice a5 o.old.length c5, .slice a6 o.new.length c6, .slice a7 o.text.length c7, .bool o.from_.1, .slice f1 g1 h1, .int .i64 o.from_.2.1.2, .slice f2 g2 h2, .int .i64 o.from_.2.2.2, .bool o.into.1, .slice i1 j1 k1, .int .i64 o.into.2.1.2, .slice i2 j2 k2, .int .i64 o.into.2.2.2] 35 (0, 0)) := (heap_setCell_same _ g 0 _ _ (.int .i64 1) HY.out)
    have q2 : Below w.heap.size w (U.setCell ⟨g, 0, none⟩ (.int .i64 1)) := (HB.out.setCell (p := ⟨g, 0, none⟩) (by have := HG.out; simp; omega) (.int .i64 1))
    have q3 : (U.setCell ⟨g, 0, none⟩ (.int .i64 1)).heap[w.heap.size + 1]? = some (.cells #[.int .i64 0, .slice none 0 0, .slice none 0 0, .int .i64 0, .bool false, .slice none 0 0, .slice none 0 0, .slice none 0 0, .slice none 0 0, .slice none 0 0, .slice none 0 0, .bool false, .slice none 0 0, .int .i64 0, .slice none 0 0, .int .i64 0, .bool false, .slice none 0 0, .int .i64 0, .slice none 0 0, .int .i64 0] 35 (0, 0)) := by rw [heap_setCell_off _ _ _ _ (show w.heap.size + 1 ≠ _ by simp; omega)]; exact HZ.out
    have Q1 := Lib.hid q1; have Q2 := Lib.hid q2; have Q3 := Lib.hid q3; clear q1 q2 q3 hh
    go_upto_region 33 with fail
    clear HY HB HZ HX x0  y0 z0
    have HY := Lib.hid Q1.out; have HB := Lib.hid Q2.out; have HZ := Lib.hid Q3.out; clear Q1 Q2 Q3
    generalize World.setCell U _ _ = U2 at *
    have zh1 : (#[.int .i64 1, .slice a1 o.path.length c1, .slice a2 o.dest.length c2, .int .i64 o.pos, .bool o.node.leaf, .slice p1 m1 d1, .slice p2 m2 d2, .slice p3 m3 d3, .slice a5 o.old.length c5, .slice a6 o.new.length c6, .slice a7 o.text.length c7, .bool o.from_.1, .slice f1 g1 h1, .int .i64 o.from_.2.1.2, .slice f2 g2 h2, .int .i64 o.from_.2.2.2, .bool o.into.1, .slice i1 j1 k1, .int .i64 o.into.2.1.2, .slice i2 j2 k2, .int .i64 o.into.2.2.2] : Array Value).all (·.oneCell') = true := by rw [← Array.all_toList]; rfl
    go_wp2_with (first | (refine wpList_load_row rfl 35 _ rfl _ rfl 35 _ (0, 0) _ HY.out Try.underlying35 rfl op_info ?_) | (refine wpList_store_row rfl 35 _ _ rfl _ _ rfl rfl 35 _ HZ.out op_info rfl zh1 ?_))
    have zz1 := setRow_heap U2 (w.heap.size + 1) _ #[.int .i64 1, .slice a1 o.path.length c1, .slice a2 o.dest.length c2, .int .i64 o.pos, .bool o.node.leaf, .slice p1 m1 d1, .slice p2 m2 d2, .slice p3 m3 d3, .slice a5 o.old.length c5, .slice a6 o.new.length c6, .slice a7 o.text.length c7, .bool o.from_.1, .slice f1 g1 h1, .int .i64 o.from_.2.1.2, .slice f2 g2 h2, .int .i64 o.from_.2.2.2, .bool o.into.1, .slice i1 j1 k1, .int .i64 o.into.2.1.2, .slice i2 j2 k2, .int .i64 o.into.2.2.2] _ (0, 0) HZ.out
    have zz3 : Below w.heap.size w (U2.setRow (w.heap.size + 1) #[.int .i64 1, .slice a1 o.path.length c1, .slice a2 o.dest.length c2, .int .i64 o.pos, .bool o.node.leaf, .slice p1 m1 d1, .slice p2 m2 d2, .slice p3 m3 d3, .slice a5 o.old.length c5, .slice a6 o.new.length c6, .slice a7 o.text.length c7, .bool o.from_.1, .slice f1 g1 h1, .int .i64 o.from_.2.1.2, .slice f2 g2 h2, .int .i64 o.from_.2.2.2, .bool o.into.1, .slice i1 j1 k1, .int .i64 o.into.2.1.2, .slice i2 j2 k2, .int .i64 o.into.2.2.2]) := HB.out.trans ⟨rfl, rfl, rfl, by simp, fun b hb => setRow_other U2 _ b _ (by omega)⟩
    have hrun := run_loadVar_row (P := Try.prog) _ _ _ 35 _ _ _ zz1 Try.underlying35 rfl op_info
    (try simp only [Exit.inBlock, Exit.then])
    refine bodyPost_ret (v := .tuple #[.agg #[.int .i64 1, .slice a1 o.path.length c1, .slice a2 o.dest.length c2, .int .i64 o.pos, .bool o.node.leaf, .slice p1 m1 d1, .slice p2 m2 d2, .slice p3 m3 d3, .slice a5 o.old.length c5, .slice a6 o.new.length c6, .slice a7 o.text.length c7, .bool o.from_.1, .slice f1 g1 h1, .int .i64 o.from_.2.1.2, .slice f2 g2 h2, .int .i64 o.from_.2.2.2, .bool o.into.1, .slice i1 j1 k1, .int .i64 o.into.2.1.2, .slice i2 j2 k2, .int .i64 o.into.2.2.2], .int .i64 0]) ?_ ?_ ?_
    · simp [results, Try.results12, asAddr, hrun]
    · rfl
    rw [HEQ.out, HOQ.out]
    refine ⟨_, rfl, zz3, fun X hX hq => ?_⟩
    have rd := hX.unmk
    exact ⟨_, _, _, _, _, _, _, _, _, _, _, _, _, _, _, _, _, _, _, _, _, _, _, _, _, _, _, _, _, _, _, rfl, ⟨rd.path, rd.dest, rd.node, rd.old, rd.new, rd.text, rd.fa, rd.fb, rd.ia, rd.ib⟩⟩
  have q2 : (o.kind == 2) = false := by rw [beq_eq_false_iff_ne]; exact hk2
  by_cases hk3 : o.kind = 3
  case pos =>
    have q3 : (o.kind == 3) = true := by simpa using hk3
    have HK := Lib.hid hk3; clear hk3
    obtain ⟨x0, x1, -, x3, -, -, -, -, x8, -, -, -, -, -, -, -, -, -, -, -, -⟩ := op_facts HX.out
    have HC := Lib.hid (rback_any o.path _ U (HR.out.path.below HB.out (Nat.le_refl _)) HI.out)
    go_wp2_with fail
    refine HC.out.mono ?_
    rintro e u ⟨v', rfl, hown, hb⟩
    obtain ⟨av, cv, hav⟩ := hown.ints.slice
    subst hav
    clear x0 x1 x3 x8
    have HGU := Lib.hid (lt_of_block HY.out)
    replace HX := Lib.hid (blk_below HX.out hb); replace HZ := Lib.hid (blk_below HZ.out hb); replace HY := Lib.hid (blk_below HY.out hb); replace HB := Lib.hid (gr_tr HB.out hb); have HOW := Lib.hid hown
    clear hown hb HC
    by_cases he : backE o.path = 0
    case neg =>
      have HEQ : Hid (EE = backE o.path) := Lib.hid (by rw [← HEE.out]; exact (inv_3 HFZ.out HK.out).1)
      have HOQ : Hid (OO = zeroO) := Lib.hid (by rw [← HOO.out]; exact (inv_3 HFZ.out HK.out).2.2 he)
      have q : (backE o.path != 0) = true := by simpa using he
      have HWS := HG.out
      clear he
      have zh1 : (#[.int .i64 0, .slice none 0 0, .slice none 0 0, .int .i64 0, .bool false, .slice none 0 0, .slice none 0 0, .slice none 0 0, .slice none 0 0, .slice none 0 0, .slice none 0 0, .bool false, .slice none 0 0, .int .i64 0, .slice none 0 0, .int .i64 0, .bool false, .slice none 0 0, .int .i64 0, .slice none 0 0, .int .i64 0] : Array Value).all (·.oneCell') = true := by rw [← Array.all_toList]; rfl
      go_wp2_with (refine wpList_store_row rfl 35 _ _ rfl _ _ rfl rfl 35 _ HZ.out op_info rfl zh1 ?_)
      have zz1 := setRow_heap u (w.heap.size + 1) _ #[.int .i64 0, .slice none 0 0, .slice none 0 0, .int .i64 0, .bool false, .slice none 0 0, .slice none 0 0, .slice none 0 0, .slice none 0 0, .slice none 0 0, .slice none 0 0, .bool false, .slice none 0 0, .int .i64 0, .slice none 0 0, .int .i64 0, .bool false, .slice none 0 0, .int .i64 0, .slice none 0 0, .int .i64 0] _ (0, 0) HZ.out
      have zz3 : Below w.heap.size w (u.setRow (w.heap.size + 1) #[.int .i64 0, .slice none 0 0, .slice none 0 0, .int .i64 0, .bool false, .slice none 0 0, .slice none 0 0, .slice none 0 0, .slice none 0 0, .slice none 0 0, .slice none 0 0, .bool false, .slice none 0 0, .int .i64 0, .slice none 0 0, .int .i64 0, .bool false, .slice none 0 0, .int .i64 0, .slice none 0 0, .int .i64 0]) := HB.out.trans ⟨rfl, rfl, rfl, by simp, fun b hb => setRow_other u _ b _ (by omega)⟩
      have hrun := run_loadVar_row (P := Try.prog) _ _ _ 35 _ _ _ zz1 Try.underlying35 rfl op_info
      (try simp only [Exit.inBlock, Exit.then])
      refine bodyPost_ret (v := .tuple #[.agg #[.int .i64 0, .slice none 0 0, .slice none 0 0, .int .i64 0, .bool false, .slice none 0 0, .slice none 0 0, .slice none 0 0, .slice none 0 0, .slice none 0 0, .slice none 0 0, .bool false, .slice none 0 0, .int .i64 0, .slice none 0 0, .int .i64 0, .bool false, .slice none 0 0, .int .i64 0, .slice none 0 0, .int .i64 0], .int .i64 (backE o.path)]) ?_ ?_ ?_
      · simp [results, Try.results12, asAddr, hrun]
      · rfl
      exact InvS.zero HOQ.out HEQ.out zz3
    have HEQ : Hid (EE = 0) := Lib.hid (by rw [← HEE.out, (inv_3 HFZ.out HK.out).1]; exact he)
    have HOQ : Hid (OO = { kO 4 with path := backL o.path, pos := o.pos, new := o.old }) := Lib.hid (by rw [← HOO.out]; exact (inv_3 HFZ.out HK.out).2.1 he)
    rw [he]
    obtain ⟨x0, -, -, x3, -, -, -, -, x8, -, -, -, -, -, -, -, -, -, -, -, -⟩ := op_facts HX.out
    have zh2 : (#[.int .i64 4, .slice av (backL o.path).length cv, .slice none 0 0, .int .i64 o.pos, .bool false, .slice none 0 0, .slice none 0 0, .slice none 0 0, .slice none 0 0, .slice a5 o.old.length c5, .slice none 0 0, .bool false, .slice none 0 0, .int .i64 0, .slice none 0 0, .int .i64 0, .bool false, .slice none 0 0, .int .i64 0, .slice none 0 0, .int .i64 0] : Array Value).all (·.oneCell') = true := by rw [← Array.all_toList]; rfl
    have s1 := setRow_heap u g _ #[.int .i64 4, .slice av (backL o.path).length cv, .slice none 0 0, .int .i64 o.pos, .bool false, .slice none 0 0, .slice none 0 0, .slice none 0 0, .slice none 0 0, .slice a5 o.old.length c5, .slice none 0 0, .bool false, .slice none 0 0, .int .i64 0, .slice none 0 0, .int .i64 0, .bool false, .slice none 0 0, .int .i64 0, .slice none 0 0, .int .i64 0] 35 (0, 0) HY.out
    have s3 : Below w.heap.size w (u.setRow g #[.int .i64 4, .slice av (backL o.path).length cv, .slice none 0 0, .int .i64 o.pos, .bool false, .slice none 0 0, .slice none 0 0, .slice none 0 0, .slice none 0 0, .slice a5 o.old.length c5, .slice none 0 0, .bool false, .slice none 0 0, .int .i64 0, .slice none 0 0, .int .i64 0, .bool false, .slice none 0 0, .int .i64 0, .slice none 0 0, .int .i64 0]) := HB.out.trans ⟨rfl, rfl, rfl, by simp, fun b hb => setRow_other _ g b _ (by have := HG.out; omega)⟩
    have s4 : (u.setRow g #[.int .i64 4, .slice av (backL o.path).length cv, .slice none 0 0, .int .i64 o.pos, .bool false, .slice none 0 0, .slice none 0 0, .slice none 0 0, .slice none 0 0, .slice a5 o.old.length c5, .slice none 0 0, .bool false, .slice none 0 0, .int .i64 0, .slice none 0 0, .int .i64 0, .bool false, .slice none 0 0, .int .i64 0, .slice none 0 0, .int .i64 0]).heap[w.heap.size + 1]? = _ := (setRow_other _ g _ _ (by have := HG.out; omega)).trans HZ.out
    have s5 := own_keepB (w' := u.setRow g #[.int .i64 4, .slice av (backL o.path).length cv, .slice none 0 0, .int .i64 o.pos, .bool false, .slice none 0 0, .slice none 0 0, .slice none 0 0, .slice none 0 0, .slice a5 o.old.length c5, .slice none 0 0, .bool false, .slice none 0 0, .int .i64 0, .slice none 0 0, .int .i64 0, .bool false, .slice none 0 0, .int .i64 0, .slice none 0 0, .int .i64 0]) HOW.out fun b hb => setRow_other _ g b _ (by have := HGU.out; omega)
    have S1 := Lib.hid s1; have S3 := Lib.hid s3; have S4 := Lib.hid s4; have S5 := Lib.hid s5; clear s1 s3 s4 s5
    go_upto_region 33 with (refine wpList_store_row rfl 35 _ _ rfl _ _ rfl rfl 35 _ HY.out op_info rfl zh2 ?_)
    clear HY HB HZ HX HOW zh2 he x0 x3 x8
    have HY := Lib.hid S1.out; have HB := Lib.hid S3.out; have HZ := Lib.hid S4.out; have HOW := Lib.hid S5.out; clear S1 S3 S4 S5
    generalize World.setRow u _ _ = U2 at *
    have HCC := Lib.hid (show w.heap.size ≤ U.heap.size by have := HG.out; have := HGU.out; omega)
    have zh1 : (#[.int .i64 4, .slice av (backL o.path).length cv, .slice none 0 0, .int .i64 o.pos, .bool false, .slice none 0 0, .slice none 0 0, .slice none 0 0, .slice none 0 0, .slice a5 o.old.length c5, .slice none 0 0, .bool false, .slice none 0 0, .int .i64 0, .slice none 0 0, .int .i64 0, .bool false, .slice none 0 0, .int .i64 0, .slice none 0 0, .int .i64 0] : Array Value).all (·.oneCell') = true := by rw [← Array.all_toList]; rfl
    go_wp2_with (first | (refine wpList_load_row rfl 35 _ rfl _ rfl 35 _ (0, 0) _ HY.out Try.underlying35 rfl op_info ?_) | (refine wpList_store_row rfl 35 _ _ rfl _ _ rfl rfl 35 _ HZ.out op_info rfl zh1 ?_))
    have zz1 := setRow_heap U2 (w.heap.size + 1) _ #[.int .i64 4, .slice av (backL o.path).length cv, .slice none 0 0, .int .i64 o.pos, .bool false, .slice none 0 0, .slice none 0 0, .slice none 0 0, .slice none 0 0, .slice a5 o.old.length c5, .slice none 0 0, .bool false, .slice none 0 0, .int .i64 0, .slice none 0 0, .int .i64 0, .bool false, .slice none 0 0, .int .i64 0, .slice none 0 0, .int .i64 0] _ (0, 0) HZ.out
    have zz3 : Below w.heap.size w (U2.setRow (w.heap.size + 1) #[.int .i64 4, .slice av (backL o.path).length cv, .slice none 0 0, .int .i64 o.pos, .bool false, .slice none 0 0, .slice none 0 0, .slice none 0 0, .slice none 0 0, .slice a5 o.old.length c5, .slice none 0 0, .bool false, .slice none 0 0, .int .i64 0, .slice none 0 0, .int .i64 0, .bool false, .slice none 0 0, .int .i64 0, .slice none 0 0, .int .i64 0]) := HB.out.trans ⟨rfl, rfl, rfl, by simp, fun b hb => setRow_other U2 _ b _ (by omega)⟩
    have hrun := run_loadVar_row (P := Try.prog) _ _ _ 35 _ _ _ zz1 Try.underlying35 rfl op_info
    (try simp only [Exit.inBlock, Exit.then])
    refine bodyPost_ret (v := .tuple #[.agg #[.int .i64 4, .slice av (backL o.path).length cv, .slice none 0 0, .int .i64 o.pos, .bool false, .slice none 0 0, .slice none 0 0, .slice none 0 0, .slice none 0 0, .slice a5 o.old.length c5, .slice none 0 0, .bool false, .slice none 0 0, .int .i64 0, .slice none 0 0, .int .i64 0, .bool false, .slice none 0 0, .int .i64 0, .slice none 0 0, .int .i64 0], .int .i64 0]) ?_ ?_ ?_
    · simp [results, Try.results12, asAddr, hrun]
    · rfl
    rw [HEQ.out, HOQ.out]
    refine ⟨_, rfl, zz3, fun X hX hq => ?_⟩
    have rd := hX.unmk
    exact ⟨_, _, _, _, _, _, _, _, _, _, _, _, _, _, _, _, _, _, _, _, _, _, _, _, _, _, _, _, _, _, _, rfl, ⟨(ints_own (own_keepB (w' := U2.setRow (w.heap.size + 1) #[.int .i64 4, .slice av (backL o.path).length cv, .slice none 0 0, .int .i64 o.pos, .bool false, .slice none 0 0, .slice none 0 0, .slice none 0 0, .slice none 0 0, .slice a5 o.old.length c5, .slice none 0 0, .bool false, .slice none 0 0, .int .i64 0, .slice none 0 0, .int .i64 0, .bool false, .slice none 0 0, .int .i64 0, .slice none 0 0, .int .i64 0]) HOW.out fun b hb => setRow_other U2 _ b _ (by have := HG.out; have := HGU.out; omega)).ints (fun k hk => Nat.le_trans HCC.out (HOW.out.1.lt k hk).1) hq), ints_nil _, zeroNdF _, Sl.nil _ _ _ _, rd.old, Sl.nil _ _ _ _, ints_nil _, ints_nil _, ints_nil _, ints_nil _⟩⟩
  have q3 : (o.kind == 3) = false := by rw [beq_eq_false_iff_ne]; exact hk3
  by_cases hk4 : o.kind = 4
  case pos =>
    have q4 : (o.kind == 4) = true := by simpa using hk4
    have HK := Lib.hid hk4; clear hk4
    obtain ⟨x0, x1, -, x3, -, -, -, -, -, x9, -, -, -, -, -, -, -, -, -, -, -⟩ := op_facts HX.out
    have HC := Lib.hid (rnext_any o.path _ U (HR.out.path.below HB.out (Nat.le_refl _)) HI.out)
    go_wp2_with fail
    refine HC.out.mono ?_
    rintro e u ⟨v', rfl, hown, hb⟩
    obtain ⟨av, cv, hav⟩ := hown.ints.slice
    subst hav
    clear x0 x1 x3 x9
    have HGU := Lib.hid (lt_of_block HY.out)
    replace HX := Lib.hid (blk_below HX.out hb); replace HZ := Lib.hid (blk_below HZ.out hb); replace HY := Lib.hid (blk_below HY.out hb); replace HB := Lib.hid (gr_tr HB.out hb); have HOW := Lib.hid hown
    clear hown hb HC
    by_cases he : nextE o.path = 0
    case neg =>
      have HEQ : Hid (EE = nextE o.path) := Lib.hid (by rw [← HEE.out]; exact (inv_4 HFZ.out HK.out).1)
      have HOQ : Hid (OO = zeroO) := Lib.hid (by rw [← HOO.out]; exact (inv_4 HFZ.out HK.out).2.2 he)
      have q : (nextE o.path != 0) = true := by simpa using he
      have HWS := HG.out
      clear he
      have zh1 : (#[.int .i64 0, .slice none 0 0, .slice none 0 0, .int .i64 0, .bool false, .slice none 0 0, .slice none 0 0, .slice none 0 0, .slice none 0 0, .slice none 0 0, .slice none 0 0, .bool false, .slice none 0 0, .int .i64 0, .slice none 0 0, .int .i64 0, .bool false, .slice none 0 0, .int .i64 0, .slice none 0 0, .int .i64 0] : Array Value).all (·.oneCell') = true := by rw [← Array.all_toList]; rfl
      go_wp2_with (refine wpList_store_row rfl 35 _ _ rfl _ _ rfl rfl 35 _ HZ.out op_info rfl zh1 ?_)
      have zz1 := setRow_heap u (w.heap.size + 1) _ #[.int .i64 0, .slice none 0 0, .slice none 0 0, .int .i64 0, .bool false, .slice none 0 0, .slice none 0 0, .slice none 0 0, .slice none 0 0, .slice none 0 0, .slice none 0 0, .bool false, .slice none 0 0, .int .i64 0, .slice none 0 0, .int .i64 0, .bool false, .slice none 0 0, .int .i64 0, .slice none 0 0, .int .i64 0] _ (0, 0) HZ.out
      have zz3 : Below w.heap.size w (u.setRow (w.heap.size + 1) #[.int .i64 0, .slice none 0 0, .slice none 0 0, .int .i64 0, .bool false, .slice none 0 0, .slice none 0 0, .slice none 0 0, .slice none 0 0, .slice none 0 0, .slice none 0 0, .bool false, .slice none 0 0, .int .i64 0, .slice none 0 0, .int .i64 0, .bool false, .slice none 0 0, .int .i64 0, .slice none 0 0, .int .i64 0]) := HB.out.trans ⟨rfl, rfl, rfl, by simp, fun b hb => setRow_other u _ b _ (by omega)⟩
      have hrun := run_loadVar_row (P := Try.prog) _ _ _ 35 _ _ _ zz1 Try.underlying35 rfl op_info
      (try simp only [Exit.inBlock, Exit.then])
      refine bodyPost_ret (v := .tuple #[.agg #[.int .i64 0, .slice none 0 0, .slice none 0 0, .int .i64 0, .bool false, .slice none 0 0, .slice none 0 0, .slice none 0 0, .slice none 0 0, .slice none 0 0, .slice none 0 0, .bool false, .slice none 0 0, .int .i64 0, .slice none 0 0, .int .i64 0, .bool false, .slice none 0 0, .int .i64 0, .slice none 0 0, .int .i64 0], .int .i64 (nextE o.path)]) ?_ ?_ ?_
      · simp [results, Try.results12, asAddr, hrun]
      · rfl
      exact InvS.zero HOQ.out HEQ.out zz3
    have HEQ : Hid (EE = 0) := Lib.hid (by rw [← HEE.out, (inv_4 HFZ.out HK.out).1]; exact he)
    have HOQ : Hid (OO = { kO 3 with path := nextL o.path, pos := o.pos, old := o.new }) := Lib.hid (by rw [← HOO.out]; exact (inv_4 HFZ.out HK.out).2.1 he)
    rw [he]
    obtain ⟨x0, -, -, x3, -, -, -, -, -, x9, -, -, -, -, -, -, -, -, -, -, -⟩ := op_facts HX.out
    have zh2 : (#[.int .i64 3, .slice av (nextL o.path).length cv, .slice none 0 0, .int .i64 o.pos, .bool false, .slice none 0 0, .slice none 0 0, .slice none 0 0, .slice a6 o.new.length c6, .slice none 0 0, .slice none 0 0, .bool false, .slice none 0 0, .int .i64 0, .slice none 0 0, .int .i64 0, .bool false, .slice none 0 0, .int .i64 0, .slice none 0 0, .int .i64 0] : Array Value).all (·.oneCell') = true := by rw [← Array.all_toList]; rfl
    have s1 := setRow_heap u g _ #[.int .i64 3, .slice av (nextL o.path).length cv, .slice none 0 0, .int .i64 o.pos, .bool false, .slice none 0 0, .slice none 0 0, .slice none 0 0, .slice a6 o.new.length c6, .slice none 0 0, .slice none 0 0, .bool false, .slice none 0 0, .int .i64 0, .slice none 0 0, .int .i64 0, .bool false, .slice none 0 0, .int .i64 0, .slice none 0 0, .int .i64 0] 35 (0, 0) HY.out
    have s3 : Below w.heap.size w (u.setRow g #[.int .i64 3, .slice av (nextL o.path).length cv, .slice none 0 0, .int .i64 o.pos, .bool false, .slice none 0 0, .slice none 0 0, .slice none 0 0, .slice a6 o.new.length c6, .slice none 0 0, .slice none 0 0, .bool false, .slice none 0 0, .int .i64 0, .slice none 0 0, .int .i64 0, .bool false, .slice none 0 0, .int .i64 0, .slice none 0 0, .int .i64 0]) := HB.out.trans ⟨rfl, rfl, rfl, by simp, fun b hb => setRow_other _ g b _ (by have := HG.out; omega)⟩
    have s4 : (u.setRow g #[.int .i64 3, .slice av (nextL o.path).length cv, .slice none 0 0, .int .i64 o.pos, .bool false, .slice none 0 0, .slice none 0 0, .slice none 0 0, .slice a6 o.new.length c6, .slice none 0 0, .slice none 0 0, .bool false, .slice none 0 0, .int .i64 0, .slice none 0 0, .int .i64 0, .bool false, .slice none 0 0, .int .i64 0, .slice none 0 0, .int .i64 0]).heap[w.heap.size + 1]? = _ := (setRow_other _ g _ _ (by have := HG.out; omega)).trans HZ.out
    have s5 := own_keepB (w' := u.setRow g #[.int .i64 3, .slice av (nextL o.path).length cv, .slice none 0 0, .int .i64 o.pos, .bool false, .slice none 0 0, .slice none 0 0, .slice none 0 0, .slice a6 o.new.length c6, .slice none 0 0, .slice none 0 0, .bool false, .slice none 0 0, .int .i64 0, .slice none 0 0, .int .i64 0, .bool false, .slice none 0 0, .int .i64 0, .slice none 0 0, .int .i64 0]) HOW.out fun b hb => setRow_other _ g b _ (by have := HGU.out; omega)
    have S1 := Lib.hid s1; have S3 := Lib.hid s3; have S4 := Lib.hid s4; have S5 := Lib.hid s5; clear s1 s3 s4 s5
    go_upto_region 33 with (refine wpList_store_row rfl 35 _ _ rfl _ _ rfl rfl 35 _ HY.out op_info rfl zh2 ?_)
    clear HY HB HZ HX HOW zh2 he x0 x3 x9
    have HY := Lib.hid S1.out; have HB := Lib.hid S3.out; have HZ := Lib.hid S4.out; have HOW := Lib.hid S5.out; clear S1 S3 S4 S5
    generalize World.setRow u _ _ = U2 at *
    have HCC := Lib.hid (show w.heap.size ≤ U.heap.size by have := HG.out; have := HGU.out; omega)
    have zh1 : (#[.int .i64 3, .slice av (nextL o.path).length cv, .slice none 0 0, .int .i64 o.pos, .bool false, .slice none 0 0, .slice none 0 0, .slice none 0 0, .slice a6 o.new.length c6, .slice none 0 0, .slice none 0 0, .bool false, .slice none 0 0, .int .i64 0, .slice none 0 0, .int .i64 0, .bool false, .slice none 0 0, .int .i64 0, .slice none 0 0, .int .i64 0] : Array Value).all (·.oneCell') = true := by rw [← Array.all_toList]; rfl
    go_wp2_with (first | (refine wpList_load_row rfl 35 _ rfl _ rfl 35 _ (0, 0) _ HY.out Try.underlying35 rfl op_info ?_) | (refine wpList_store_row rfl 35 _ _ rfl _ _ rfl rfl 35 _ HZ.out op_info rfl zh1 ?_))
    have zz1 := setRow_heap U2 (w.heap.size + 1) _ #[.int .i64 3, .slice av (nextL o.path).length cv, .slice none 0 0, .int .i64 o.pos, .bool false, .slice none 0 0, .slice none 0 0, .slice none 0 0, .slice a6 o.new.length c6, .slice none 0 0, .slice none 0 0, .bool false, .slice none 0 0, .int .i64 0, .slice none 0 0, .int .i64 0, .bool false, .slice none 0 0, .int .i64 0, .slice none 0 0, .int .i64 0] _ (0, 0) HZ.out
    have zz3 : Below w.heap.size w (U2.setRow (w.heap.size + 1) #[.int .i64 3, .slice av (nextL o.path).length cv, .slice none 0 0, .int .i64 o.pos, .bool false, .slice none 0 0, .slice none 0 0, .slice none 0 0, .slice a6 o.new.length c6, .slice none 0 0, .slice none 0 0, .bool false, .slice none 0 0, .int .i64 0, .slice none 0 0, .int .i64 0, .bool false, .slice none 0 0, .int .i64 0, .slice none 0 0, .int .i64 0]) := HB.out.trans ⟨rfl, rfl, rfl, by simp, fun b hb => setRow_other U2 _ b _ (by omega)⟩
    have hrun := run_loadVar_row (P := Try.prog) _ _ _ 35 _ _ _ zz1 Try.underlying35 rfl op_info
    (try simp only [Exit.inBlock, Exit.then])
    refine bodyPost_ret (v := .tuple #[.agg #[.int .i64 3, .slice av (nextL o.path).length cv, .slice none 0 0, .int .i64 o.pos, .bool false, .slice none 0 0, .slice none 0 0, .slice none 0 0, .slice a6 o.new.length c6, .slice none 0 0, .slice none 0 0, .bool false, .slice none 0 0, .int .i64 0, .slice none 0 0, .int .i64 0, .bool false, .slice none 0 0, .int .i64 0, .slice none 0 0, .int .i64 0], .int .i64 0]) ?_ ?_ ?_
    · simp [results, Try.results12, asAddr, hrun]
    · rfl
    rw [HEQ.out, HOQ.out]
    refine ⟨_, rfl, zz3, fun X hX hq => ?_⟩
    have rd := hX.unmk
    exact ⟨_, _, _, _, _, _, _, _, _, _, _, _, _, _, _, _, _, _, _, _, _, _, _, _, _, _, _, _, _, _, _, rfl, ⟨(ints_own (own_keepB (w' := U2.setRow (w.heap.size + 1) #[.int .i64 3, .slice av (nextL o.path).length cv, .slice none 0 0, .int .i64 o.pos, .bool false, .slice none 0 0, .slice none 0 0, .slice none 0 0, .slice a6 o.new.length c6, .slice none 0 0, .slice none 0 0, .bool false, .slice none 0 0, .int .i64 0, .slice none 0 0, .int .i64 0, .bool false, .slice none 0 0, .int .i64 0, .slice none 0 0, .int .i64 0]) HOW.out fun b hb => setRow_other U2 _ b _ (by have := HG.out; have := HGU.out; omega)).ints (fun k hk => Nat.le_trans HCC.out (HOW.out.1.lt k hk).1) hq), ints_nil _, zeroNdF _, rd.new, Sl.nil _ _ _ _, Sl.nil _ _ _ _, ints_nil _, ints_nil _, ints_nil _, ints_nil _⟩⟩
  have q4 : (o.kind == 4) = false := by rw [beq_eq_false_iff_ne]; exact hk4
  by_cases hk5 : o.kind = 5
  case pos =>
    have q5 : (o.kind == 5) = true := by simpa using hk5
    have HK := Lib.hid hk5; clear hk5
    have HEQ : Hid (EE = 0) := Lib.hid (by rw [← HEE.out]; exact (inv_plain HFZ.out (by have := HK.out; omega) (by have := HK.out; omega)).1)
    have HOQ : Hid (OO = { o with path := o.dest, dest := o.path }) := Lib.hid (by rw [← HOO.out]; exact inv_5 HFZ.out HK.out)
    obtain ⟨x0, x1, x2, -, -, -, -, -, -, -, -, -, -, -, -, -, -, -, -, -, -⟩ := op_facts HX.out
    obtain ⟨-, y1, y2, -, -, -, -, -, -, -, -, -, -, -, -, -, -, -, -, -, -⟩ := op_facts HY.out
    have z1 := frozen_of_row U g 1 _ _ HY.out; have z2 := frozen_of_row U g 2 _ _ HY.out
    have hh := HG.out
    have q1 : ((U.setCell ⟨g, 1, none⟩ (.slice a2 o.dest.length c2)).setCell ⟨g, 2, none⟩ (.slice a1 o.path.length c1)).heap[g]? = some (.cells #[.int .i64 o.kind, .slice a2 o.dest.length c2, .slice a1 o.path.length c1, .int .i64 o.pos, .bool o.node.leaf, .slice p1 m1 d1, .slice p2 m2 d2, .slice p3 m3 d3, .slice a5 o.old.length c5, .slice a6 o.new.length c6, .slice a7 o.text.length c7, .bool o.from_.1, .slice f1 g1 h1, .int .i64 o.from_.2.1.2, .slice f2 g2 h2, .int .i64 o.from_.2.2.2, .bool o.into.1, .slice i1 j1 k1, .int .i64 o.into.2.1.2, .slice i2 j2 k2, .int .i64 o.into.2.2.2] 35 (0, 0)) := (heap_setCell_same _ g 2 _ _ (.slice a1 o.path.length c1) (heap_setCell_same _ g 1 _ _ (.slice a2 o.dest.length c2) HY.out))
    have q2 : Below w.heap.size w ((U.setCell ⟨g, 1, none⟩ (.slice a2 o.dest.length c2)).setCell ⟨g, 2, none⟩ (.slice a1 o.path.length c1)) := ((HB.out.setCell (p := ⟨g, 1, none⟩) (by have := HG.out; simp; omega) (.slice a2 o.dest.length c2)).setCell (p := ⟨g, 2, none⟩) (by have := HG.out; simp; omega) (.slice a1 o.path.length c1))
    have q3 : ((U.setCell ⟨g, 1, none⟩ (.slice a2 o.dest.length c2)).setCell ⟨g, 2, none⟩ (.slice a1 o.path.length c1)).heap[w.heap.size + 1]? = some (.cells #[.int .i64 0, .slice none 0 0, .slice none 0 0, .int .i64 0, .bool false, .slice none 0 0, .slice none 0 0, .slice none 0 0, .slice none 0 0, .slice none 0 0, .slice none 0 0, .bool false, .slice none 0 0, .int .i64 0, .slice none 0 0, .int .i64 0, .bool false, .slice none 0 0, .int .i64 0, .slice none 0 0, .int .i64 0] 35 (0, 0)) := by rw [heap_setCell_off _ _ _ _ (show w.heap.size + 1 ≠ _ by simp; omega), heap_setCell_off _ _ _ _ (show w.heap.size + 1 ≠ _ by simp; omega)]; exact HZ.out
    have Q1 := Lib.hid q1; have Q2 := Lib.hid q2; have Q3 := Lib.hid q3; clear q1 q2 q3 hh
    have far : (U.setCell ⟨g, 1, none⟩ (.slice a2 o.dest.length c2)).cell? ⟨w.heap.size, 1, none⟩ = some (.slice a1 o.path.length c1) := by rw [World.cell?_setCell_far _ _ _ _ (by have := HG.out; simp; omega)]; exact x1
    go_upto_region 33 with fail
    clear far
    clear HY HB HZ HX x0 x1 x2 y1 z1 y2 z2
    have HY := Lib.hid Q1.out; have HB := Lib.hid Q2.out; have HZ := Lib.hid Q3.out; clear Q1 Q2 Q3
    generalize World.setCell (World.setCell U _ _) _ _ = U2 at *
    have zh1 : (#[.int .i64 o.kind, .slice a2 o.dest.length c2, .slice a1 o.path.length c1, .int .i64 o.pos, .bool o.node.leaf, .slice p1 m1 d1, .slice p2 m2 d2, .slice p3 m3 d3, .slice a5 o.old.length c5, .slice a6 o.new.length c6, .slice a7 o.text.length c7, .bool o.from_.1, .slice f1 g1 h1, .int .i64 o.from_.2.1.2, .slice f2 g2 h2, .int .i64 o.from_.2.2.2, .bool o.into.1, .slice i1 j1 k1, .int .i64 o.into.2.1.2, .slice i2 j2 k2, .int .i64 o.into.2.2.2] : Array Value).all (·.oneCell') = true := by rw [← Array.all_toList]; rfl
    go_wp2_with (first | (refine wpList_load_row rfl 35 _ rfl _ rfl 35 _ (0, 0) _ HY.out Try.underlying35 rfl op_info ?_) | (refine wpList_store_row rfl 35 _ _ rfl _ _ rfl rfl 35 _ HZ.out op_info rfl zh1 ?_))
    have zz1 := setRow_heap U2 (w.heap.size + 1) _ #[.int .i64 o.kind, .slice a2 o.dest.length c2, .slice a1 o.path.length c1, .int .i64 o.pos, .bool o.node.leaf, .slice p1 m1 d1, .slice p2 m2 d2, .slice p3 m3 d3, .slice a5 o.old.length c5, .slice a6 o.new.length c6, .slice a7 o.text.length c7, .bool o.from_.1, .slice f1 g1 h1, .int .i64 o.from_.2.1.2, .slice f2 g2 h2, .int .i64 o.from_.2.2.2, .bool o.into.1, .slice i1 j1 k1, .int .i64 o.into.2.1.2, .slice i2 j2 k2, .int .i64 o.into.2.2.2] _ (0, 0) HZ.out
    have zz3 : Below w.heap.size w (U2.setRow (w.heap.size + 1) #[.int .i64 o.kind, .slice a2 o.dest.length c2, .slice a1 o.path.length c1, .int .i64 o.pos, .bool o.node.leaf, .slice p1 m1 d1, .slice p2 m2 d2, .slice p3 m3 d3, .slice a5 o.old.length c5, .slice a6 o.new.length c6, .slice a7 o.text.length c7, .bool o.from_.1, .slice f1 g1 h1, .int .i64 o.from_.2.1.2, .slice f2 g2 h2, .int .i64 o.from_.2.2.2, .bool o.into.1, .slice i1 j1 k1, .int .i64 o.into.2.1.2, .slice i2 j2 k2, .int .i64 o.into.2.2.2]) := HB.out.trans ⟨rfl, rfl, rfl, by simp, fun b hb => setRow_other U2 _ b _ (by omega)⟩
    have hrun := run_loadVar_row (P := Try.prog) _ _ _ 35 _ _ _ zz1 Try.underlying35 rfl op_info
    (try simp only [Exit.inBlock, Exit.then])
    refine bodyPost_ret (v := .tuple #[.agg #[.int .i64 o.kind, .slice a2 o.dest.length c2, .slice a1 o.path.length c1, .int .i64 o.pos, .bool o.node.leaf, .slice p1 m1 d1, .slice p2 m2 d2, .slice p3 m3 d3, .slice a5 o.old.length c5, .slice a6 o.new.length c6, .slice a7 o.text.length c7, .bool o.from_.1, .slice f1 g1 h1, .int .i64 o.from_.2.1.2, .slice f2 g2 h2, .int .i64 o.from_.2.2.2, .bool o.into.1, .slice i1 j1 k1, .int .i64 o.into.2.1.2, .slice i2 j2 k2, .int .i64 o.into.2.2.2], .int .i64 0]) ?_ ?_ ?_
    · simp [results, Try.results12, asAddr, hrun]
    · rfl
    rw [HEQ.out, HOQ.out]
    refine ⟨_, rfl, zz3, fun X hX hq => ?_⟩
    have rd := hX.unmk
    exact ⟨_, _, _, _, _, _, _, _, _, _, _, _, _, _, _, _, _, _, _, _, _, _, _, _, _, _, _, _, _, _, _, rfl, ⟨rd.dest, rd.path, rd.node, rd.old, rd.new, rd.text, rd.fa, rd.fb, rd.ia, rd.ib⟩⟩
  have q5 : (o.kind == 5) = false := by rw [beq_eq_false_iff_ne]; exact hk5
  by_cases hk6 : o.kind = 6
  case pos =>
    have q6 : (o.kind == 6) = true := by simpa using hk6
    have HK := Lib.hid hk6; clear hk6
    have HEQ : Hid (EE = 0) := Lib.hid (by rw [← HEE.out]; exact (inv_plain HFZ.out (by have := HK.out; omega) (by have := HK.out; omega)).1)
    have HOQ : Hid (OO = { o with old := o.new, new := o.old }) := Lib.hid (by rw [← HOO.out]; exact inv_6 HFZ.out HK.out)
    obtain ⟨x0, -, -, -, -, -, -, -, x8, x9, -, -, -, -, -, -, -, -, -, -, -⟩ := op_facts HX.out
    obtain ⟨-, -, -, -, -, -, -, -, y8, y9, -, -, -, -, -, -, -, -, -, -, -⟩ := op_facts HY.out
    have z8 := frozen_of_row U g 8 _ _ HY.out; have z9 := frozen_of_row U g 9 _ _ HY.out
    have hh := HG.out
    have q1 : ((U.setCell ⟨g, 8, none⟩ (.slice a6 o.new.length c6)).setCell ⟨g, 9, none⟩ (.slice a5 o.old.length c5)).heap[g]? = some (.cells #[.int .i64 o.kind, .slice a1 o.path.length c1, .slice a2 o.dest.length c2, .int .i64 o.pos, .bool o.node.leaf, .slice p1 m1 d1, .slice p2 m2 d2, .slice p3 m3 d3, .slice a6 o.new.length c6, .slice a5 o.old.length c5, .slice a7 o.text.length c7, .bool o.from_.1, .slice f1 g1 h1, .int .i64 o.from_.2.1.2, .slice f2 g2 h2, .int .i64 o.from_.2.2.2, .bool o.into.1, .slice i1 j1 k1, .int .i64 o.into.2.1.2, .slice i2 j2 k2, .int .i64 o.into.2.2.2] 35 (0, 0)) := (heap_setCell_same _ g 9 _ _ (.slice a5 o.old.length c5) (heap_setCell_same _ g 8 _ _ (.slice a6 o.new.length c6) HY.out))
    have q2 : Below w.heap.size w ((U.setCell ⟨g, 8, none⟩ (.slice a6 o.new.length c6)).setCell ⟨g, 9, none⟩ (.slice a5 o.old.length c5)) := ((HB.out.setCell (p := ⟨g, 8, none⟩) (by have := HG.out; simp; omega) (.slice a6 o.new.length c6)).setCell (p := ⟨g, 9, none⟩) (by have := HG.out; simp; omega) (.slice a5 o.old.length c5))
    have q3 : ((U.setCell ⟨g, 8, none⟩ (.slice a6 o.new.length c6)).setCell ⟨g, 9, none⟩ (.slice a5 o.old.length c5)).heap[w.heap.size + 1]? = some (.cells #[.int .i64 0, .slice none 0 0, .slice none 0 0, .int .i64 0, .bool false, .slice none 0 0, .slice none 0 0, .slice none 0 0, .slice none 0 0, .slice none 0 0, .slice none 0 0, .bool false, .slice none 0 0, .int .i64 0, .slice none 0 0, .int .i64 0, .bool false, .slice none 0 0, .int .i64 0, .slice none 0 0, .int .i64 0] 35 (0, 0)) := by rw [heap_setCell_off _ _ _ _ (show w.heap.size + 1 ≠ _ by simp; omega), heap_setCell_off _ _ _ _ (show w.heap.size + 1 ≠ _ by simp; omega)]; exact HZ.out
    have Q1 := Lib.hid q1; have Q2 := Lib.hid q2; have Q3 := Lib.hid q3; clear q1 q2 q3 hh
    have far : (U.setCell ⟨g, 8, none⟩ (.slice a6 o.new.length c6)).cell? ⟨w.heap.size, 8, none⟩ = some (.slice a5 o.old.length c5) := by rw [World.cell?_setCell_far _ _ _ _ (by have := HG.out; simp; omega)]; exact x8
    go_upto_region 33 with fail
    clear far
    clear HY HB HZ HX x0 x8 x9 y8 z8 y9 z9
    have HY := Lib.hid Q1.out; have HB := Lib.hid Q2.out; have HZ := Lib.hid Q3.out; clear Q1 Q2 Q3
    generalize World.setCell (World.setCell U _ _) _ _ = U2 at *
    have zh1 : (#[.int .i64 o.kind, .slice a1 o.path.length c1, .slice a2 o.dest.length c2, .int .i64 o.pos, .bool o.node.leaf, .slice p1 m1 d1, .slice p2 m2 d2, .slice p3 m3 d3, .slice a6 o.new.length c6, .slice a5 o.old.length c5, .slice a7 o.text.length c7, .bool o.from_.1, .slice f1 g1 h1, .int .i64 o.from_.2.1.2, .slice f2 g2 h2, .int .i64 o.from_.2.2.2, .bool o.into.1, .slice i1 j1 k1, .int .i64 o.into.2.1.2, .slice i2 j2 k2, .int .i64 o.into.2.2.2] : Array Value).all (·.oneCell') = true := by rw [← Array.all_toList]; rfl
    go_wp2_with (first | (refine wpList_load_row rfl 35 _ rfl _ rfl 35 _ (0, 0) _ HY.out Try.underlying35 rfl op_info ?_) | (refine wpList_store_row rfl 35 _ _ rfl _ _ rfl rfl 35 _ HZ.out op_info rfl zh1 ?_))
    have zz1 := setRow_heap U2 (w.heap.size + 1) _ #[.int .i64 o.kind, .slice a1 o.path.length c1, .slice a2 o.dest.length c2, .int .i64 o.pos, .bool o.node.leaf, .slice p1 m1 d1, .slice p2 m2 d2, .slice p3 m3 d3, .slice a6 o.new.length c6, .slice a5 o.old.length c5, .slice a7 o.text.length c7, .bool o.from_.1, .slice f1 g1 h1, .int .i64 o.from_.2.1.2, .slice f2 g2 h2, .int .i64 o.from_.2.2.2, .bool o.into.1, .slice i1 j1 k1, .int .i64 o.into.2.1.2, .slice i2 j2 k2, .int .i64 o.into.2.2.2] _ (0, 0) HZ.out
    have zz3 : Below w.heap.size w (U2.setRow (w.heap.size + 1) #[.int .i64 o.kind, .slice a1 o.path.length c1, .slice a2 o.dest.length c2, .int .i64 o.pos, .bool o.node.leaf, .slice p1 m1 d1, .slice p2 m2 d2, .slice p3 m3 d3, .slice a6 o.new.length c6, .slice a5 o.old.length c5, .slice a7 o.text.length c7, .bool o.from_.1, .slice f1 g1 h1, .int .i64 o.from_.2.1.2, .slice f2 g2 h2, .int .i64 o.from_.2.2.2, .bool o.into.1, .slice i1 j1 k1, .int .i64 o.into.2.1.2, .slice i2 j2 k2, .int .i64 o.into.2.2.2]) := HB.out.trans ⟨rfl, rfl, rfl, by simp, fun b hb => setRow_other U2 _ b _ (by omega)⟩
    have hrun := run_loadVar_row (P := Try.prog) _ _ _ 35 _ _ _ zz1 Try.underlying35 rfl op_info
    (try simp only [Exit.inBlock, Exit.then])
    refine bodyPost_ret (v := .tuple #[.agg #[.int .i64 o.kind, .slice a1 o.path.length c1, .slice a2 o.dest.length c2, .int .i64 o.pos, .bool o.node.leaf, .slice p1 m1 d1, .slice p2 m2 d2, .slice p3 m3 d3, .slice a6 o.new.length c6, .slice a5 o.old.length c5, .slice a7 o.text.length c7, .bool o.from_.1, .slice f1 g1 h1, .int .i64 o.from_.2.1.2, .slice f2 g2 h2, .int .i64 o.from_.2.2.2, .bool o.into.1, .slice i1 j1 k1, .int .i64 o.into.2.1.2, .slice i2 j2 k2, .int .i64 o.into.2.2.2], .int .i64 0]) ?_ ?_ ?_
    · simp [results, Try.results12, asAddr, hrun]
    · rfl
    rw [HEQ.out, HOQ.out]
    refine ⟨_, rfl, zz3, fun X hX hq => ?_⟩
    have rd := hX.unmk
    exact ⟨_, _, _, _, _, _, _, _, _, _, _, _, _, _, _, _, _, _, _, _, _, _, _, _, _, _, _, _, _, _, _, rfl, ⟨rd.path, rd.dest, rd.node, rd.new, rd.old, rd.text, rd.fa, rd.fb, rd.ia, rd.ib⟩⟩
  have q6 : (o.kind == 6) = false := by rw [beq_eq_false_iff_ne]; exact hk6
  by_cases hk7 : o.kind = 7
  case pos =>
    have q7 : (o.kind == 7) = true := by simpa using hk7
    have HK := Lib.hid hk7; clear hk7
    have HEQ : Hid (EE = 0) := Lib.hid (by rw [← HEE.out]; exact (inv_plain HFZ.out (by have := HK.out; omega) (by have := HK.out; omega)).1)
    have HOQ : Hid (OO = { o with kind := 8 }) := Lib.hid (by rw [← HOO.out]; exact inv_7 HFZ.out HK.out)
    obtain ⟨x0, -, -, -, -, -, -, -, -, -, -, -, -, -, -, -, -, -, -, -, -⟩ := op_facts HX.out
    obtain ⟨y0, -, -, -, -, -, -, -, -, -, -, -, -, -, -, -, -, -, -, -, -⟩ := op_facts HY.out
    have z0 := frozen_of_row U g 0 _ _ HY.out
    have hh := HG.out
    have q1 : (U.setCell ⟨g, 0, none⟩ (.int .i64 8)).heap[g]? = some (.cells #[.int .i64 8, .slice a1 o.path.length c1, .slice a2 o.dest.length c2, .int .i64 o.pos, .bool o.node.leaf, .slice p1 m1 d1, .slice p2 m2 d2, .slice p3 m3 d3, .slice a5 o.old.length c5, .slice a6 o.new.length c6, .slice a7 o.text.length c7, .bool o.from_.1, .slice f1 g1 h1, .int .i64 o.from_.2.1.2, .slice f2 g2 h2, .int .i64 o.from_.2.2.2, .bool o.into.1, .slice i1 j1 k1, .int .i64 o.into.2.1.2, .slice i2 j2 k2, .int .i64 o.into.2.2.2] 35 (0, 0)) := (heap_setCell_same _ g 0 _ _ (.int .i64 8) HY.out)
    have q2 : Below w.heap.size w (U.setCell ⟨g, 0, none⟩ (.int .i64 8)) := (HB.out.setCell (p := ⟨g, 0, none⟩) (by have := HG.out; simp; omega) (.int .i64 8))
    have q3 : (U.setCell ⟨g, 0, none⟩ (.int .i64 8)).heap[w.heap.size + 1]? = some (.cells #[.int .i64 0, .slice none 0 0, .slice none 0 0, .int .i64 0, .bool false, .slice none 0 0, .slice none 0 0, .slice none 0 0, .slice none 0 0, .slice none 0 0, .slice none 0 0, .bool false, .slice none 0 0, .int .i64 0, .slice none 0 0, .int .i64 0, .bool false, .slice none 0 0, .int .i64 0, .slice none 0 0, .int .i64 0] 35 (0, 0)) := by rw [heap_setCell_off _ _ _ _ (show w.heap.size + 1 ≠ _ by simp; omega)]; exact HZ.out
    have Q1 := Lib.hid q1; have Q2 := Lib.hid q2; have Q3 := Lib.hid q3; clear q1 q2 q3 hh
    go_upto_region 33 with fail
    clear HY HB HZ HX x0  y0 z0
    have HY := Lib.hid Q1.out; have HB := Lib.hid Q2.out; have HZ := Lib.hid Q3.out; clear Q1 Q2 Q3
    generalize World.setCell U _ _ = U2 at *
    have zh1 : (#[.int .i64 8, .slice a1 o.path.length c1, .slice a2 o.dest.length c2, .int .i64 o.pos, .bool o.node.leaf, .slice p1 m1 d1, .slice p2 m2 d2, .slice p3 m3 d3, .slice a5 o.old.length c5, .slice a6 o.new.length c6, .slice a7 o.text.length c7, .bool o.from_.1, .slice f1 g1 h1, .int .i64 o.from_.2.1.2, .slice f2 g2 h2, .int .i64 o.from_.2.2.2, .bool o.into.1, .slice i1 j1 k1, .int .i64 o.into.2.1.2, .slice i2 j2 k2, .int .i64 o.into.2.2.2] : Array Value).all (·.oneCell') = true := by rw [← Array.all_toList]; rfl
    go_wp2_with (first | (refine wpList_load_row rfl 35 _ rfl _ rfl 35 _ (0, 0) _ HY.out Try.underlying35 rfl op_info ?_) | (refine wpList_store_row rfl 35 _ _ rfl _ _ rfl rfl 35 _ HZ.out op_info rfl zh1 ?_))
    have zz1 := setRow_heap U2 (w.heap.size + 1) _ #[.int .i64 8, .slice a1 o.path.length c1, .slice a2 o.dest.length c2, .int .i64 o.pos, .bool o.node.leaf, .slice p1 m1 d1, .slice p2 m2 d2, .slice p3 m3 d3, .slice a5 o.old.length c5, .slice a6 o.new.length c6, .slice a7 o.text.length c7, .bool o.from_.1, .slice f1 g1 h1, .int .i64 o.from_.2.1.2, .slice f2 g2 h2, .int .i64 o.from_.2.2.2, .bool o.into.1, .slice i1 j1 k1, .int .i64 o.into.2.1.2, .slice i2 j2 k2, .int .i64 o.into.2.2.2] _ (0, 0) HZ.out
    have zz3 : Below w.heap.size w (U2.setRow (w.heap.size + 1) #[.int .i64 8, .slice a1 o.path.length c1, .slice a2 o.dest.length c2, .int .i64 o.pos, .bool o.node.leaf, .slice p1 m1 d1, .slice p2 m2 d2, .slice p3 m3 d3, .slice a5 o.old.length c5, .slice a6 o.new.length c6, .slice a7 o.text.length c7, .bool o.from_.1, .slice f1 g1 h1, .int .i64 o.from_.2.1.2, .slice f2 g2 h2, .int .i64 o.from_.2.2.2, .bool o.into.1, .slice i1 j1 k1, .int .i64 o.into.2.1.2, .slice i2 j2 k2, .int .i64 o.into.2.2.2]) := HB.out.trans ⟨rfl, rfl, rfl, by simp, fun b hb => setRow_other U2 _ b _ (by omega)⟩
    have hrun := run_loadVar_row (P := Try.prog) _ _ _ 35 _ _ _ zz1 Try.underlying35 rfl op_info
    (try simp only [Exit.inBlock, Exit.then])
    refine bodyPost_ret (v := .tuple #[.agg #[.int .i64 8, .slice a1 o.path.length c1, .slice a2 o.dest.length c2, .int .i64 o.pos, .bool o.node.leaf, .slice p1 m1 d1, .slice p2 m2 d2, .slice p3 m3 d3, .slice a5 o.old.length c5, .slice a6 o.new.length c6, .slice a7 o.text.length c7, .bool o.from_.1, .slice f1 g1 h1, .int .i64 o.from_.2.1.2, .slice f2 g2 h2, .int .i64 o.from_.2.2.2, .bool o.into.1, .slice i1 j1 k1, .int .i64 o.into.2.1.2, .slice i2 j2 k2, .int .i64 o.into.2.2.2], .int .i64 0]) ?_ ?_ ?_
    · simp [results, Try.results12, asAddr, hrun]
    · rfl
    rw [HEQ.out, HOQ.out]
    refine ⟨_, rfl, zz3, fun X hX hq => ?_⟩
    have rd := hX.unmk
    exact ⟨_, _, _, _, _, _, _, _, _, _, _, _, _, _, _, _, _, _, _, _, _, _, _, _, _, _, _, _, _, _, _, rfl, ⟨rd.path, rd.dest, rd.node, rd.old, rd.new, rd.text, rd.fa, rd.fb, rd.ia, rd.ib⟩⟩
  have q7 : (o.kind == 7) = false := by rw [beq_eq_false_iff_ne]; exact hk7
  by_cases hk8 : o.kind = 8
  case pos =>
    have q8 : (o.kind == 8) = true := by simpa using hk8
    have HK := Lib.hid hk8; clear hk8
    have HEQ : Hid (EE = 0) := Lib.hid (by rw [← HEE.out]; exact (inv_plain HFZ.out (by have := HK.out; omega) (by have := HK.out; omega)).1)
    have HOQ : Hid (OO = { o with kind := 7 }) := Lib.hid (by rw [← HOO.out]; exact inv_8 HFZ.out HK.out)
    obtain ⟨x0, -, -, -, -, -, -, -, -, -, -, -, -, -, -, -, -, -, -, -, -⟩ := op_facts HX.out
    obtain ⟨y0, -, -, -, -, -, -, -, -, -, -, -, -, -, -, -, -, -, -, -, -⟩ := op_facts HY.out
    have z0 := frozen_of_row U g 0 _ _ HY.out
    have hh := HG.out
    have q1 : (U.setCell ⟨g, 0, none⟩ (.int .i64 7)).heap[g]? = some (.cells #[.int .i64 7, .slice a1 o.path.length c1, .slice a2 o.dest.length c2, .int .i64 o.pos, .bool o.node.leaf, .slice p1 m1 d1, .slice p2 m2 d2, .slice p3 m3 d3, .slice a5 o.old.length c5, .slice a6 o.new.length c6, .slice a7 o.text.length c7, .bool o.from_.1, .slice f1 g1 h1, .int .i64 o.from_.2.1.2, .slice f2 g2 h2, .int .i64 o.from_.2.2.2, .bool o.into.1, .slice i1 j1 k1, .int .i64 o.into.2.1.2, .slice i2 j2 k2, .int .i64 o.into.2.2.2] 35 (0, 0)) := (heap_setCell_same _ g 0 _ _ (.int .i64 7) HY.out)
    have q2 : Below w.heap.size w (U.setCell ⟨g, 0, none⟩ (.int .i64 7)) := (HB.out.setCell (p := ⟨g, 0, none⟩) (by have := HG.out; simp; omega) (.int .i64 7))
    have q3 : (U.setCell ⟨g, 0, none⟩ (.int .i64 7)).heap[w.heap.size + 1]? = some (.cells #[.int .i64 0, .slice none 0 0, .slice none 0 0, .int .i64 0, .bool false, .slice none 0 0, .slice none 0 0, .slice none 0 0, .slice none 0 0, .slice none 0 0, .slice none 0 0, .bool false, .slice none 0 0, .int .i64 0, .slice none 0 0, .int .i64 0, .bool false, .slice none 0 0, .int .i64 0, .slice none 0 0, .int .i64 0] 35 (0, 0)) := by rw [heap_setCell_off _ _ _ _ (show w.heap.size + 1 ≠ _ by simp; omega)]; exact HZ.out
    have Q1 := Lib.hid q1; have Q2 := Lib.hid q2; have Q3 := Lib.hid q3; clear q1 q2 q3 hh
    go_upto_region 33 with fail
    clear HY HB HZ HX x0  y0 z0
    have HY := Lib.hid Q1.out; have HB := Lib.hid Q2.out; have HZ := Lib.hid Q3.out; clear Q1 Q2 Q3
    generalize World.setCell U _ _ = U2 at *
    have zh1 : (#[.int .i64 7, .slice a1 o.path.length c1, .slice a2 o.dest.length c2, .int .i64 o.pos, .bool o.node.leaf, .slice p1 m1 d1, .slice p2 m2 d2, .slice p3 m3 d3, .slice a5 o.old.length c5, .slice a6 o.new.length c6, .slice a7 o.text.length c7, .bool o.from_.1, .slice f1 g1 h1, .int .i64 o.from_.2.1.2, .slice f2 g2 h2, .int .i64 o.from_.2.2.2, .bool o.into.1, .slice i1 j1 k1, .int .i64 o.into.2.1.2, .slice i2 j2 k2, .int .i64 o.into.2.2.2] : Array Value).all (·.oneCell') = true := by rw [← Array.all_toList]; rfl
    go_wp2_with (first | (refine wpList_load_row rfl 35 _ rfl _ rfl 35 _ (0, 0) _ HY.out Try.underlying35 rfl op_info ?_) | (refine wpList_store_row rfl 35 _ _ rfl _ _ rfl rfl 35 _ HZ.out op_info rfl zh1 ?_))
    have zz1 := setRow_heap U2 (w.heap.size + 1) _ #[.int .i64 7, .slice a1 o.path.length c1, .slice a2 o.dest.length c2, .int .i64 o.pos, .bool o.node.leaf, .slice p1 m1 d1, .slice p2 m2 d2, .slice p3 m3 d3, .slice a5 o.old.length c5, .slice a6 o.new.length c6, .slice a7 o.text.length c7, .bool o.from_.1, .slice f1 g1 h1, .int .i64 o.from_.2.1.2, .slice f2 g2 h2, .int .i64 o.from_.2.2.2, .bool o.into.1, .slice i1 j1 k1, .int .i64 o.into.2.1.2, .slice i2 j2 k2, .int .i64 o.into.2.2.2] _ (0, 0) HZ.out
    have zz3 : Below w.heap.size w (U2.setRow (w.heap.size + 1) #[.int .i64 7, .slice a1 o.path.length c1, .slice a2 o.dest.length c2, .int .i64 o.pos, .bool o.node.leaf, .slice p1 m1 d1, .slice p2 m2 d2, .slice p3 m3 d3, .slice a5 o.old.length c5, .slice a6 o.new.length c6, .slice a7 o.text.length c7, .bool o.from_.1, .slice f1 g1 h1, .int .i64 o.from_.2.1.2, .slice f2 g2 h2, .int .i64 o.from_.2.2.2, .bool o.into.1, .slice i1 j1 k1, .int .i64 o.into.2.1.2, .slice i2 j2 k2, .int .i64 o.into.2.2.2]) := HB.out.trans ⟨rfl, rfl, rfl, by simp, fun b hb => setRow_other U2 _ b _ (by omega)⟩
    have hrun := run_loadVar_row (P := Try.prog) _ _ _ 35 _ _ _ zz1 Try.underlying35 rfl op_info
    (try simp only [Exit.inBlock, Exit.then])
    refine bodyPost_ret (v := .tuple #[.agg #[.int .i64 7, .slice a1 o.path.length c1, .slice a2 o.dest.length c2, .int .i64 o.pos, .bool o.node.leaf, .slice p1 m1 d1, .slice p2 m2 d2, .slice p3 m3 d3, .slice a5 o.old.length c5, .slice a6 o.new.length c6, .slice a7 o.text.length c7, .bool o.from_.1, .slice f1 g1 h1, .int .i64 o.from_.2.1.2, .slice f2 g2 h2, .int .i64 o.from_.2.2.2, .bool o.into.1, .slice i1 j1 k1, .int .i64 o.into.2.1.2, .slice i2 j2 k2, .int .i64 o.into.2.2.2], .int .i64 0]) ?_ ?_ ?_
    · simp [results, Try.results12, asAddr, hrun]
    · rfl
    rw [HEQ.out, HOQ.out]
    refine ⟨_, rfl, zz3, fun X hX hq => ?_⟩
    have rd := hX.unmk
    exact ⟨_, _, _, _, _, _, _, _, _, _, _, _, _, _, _, _, _, _, _, _, _, _, _, _, _, _, _, _, _, _, _, rfl, ⟨rd.path, rd.dest, rd.node, rd.old, rd.new, rd.text, rd.fa, rd.fb, rd.ia, rd.ib⟩⟩
  have q8 : (o.kind == 8) = false := by rw [beq_eq_false_iff_ne]; exact hk8
  have hk9 : o.kind = 9 := by have := HFZ.out.k; omega
  clear hk1 hk2 hk3 hk4 hk5 hk6 hk7 hk8
  have q9 : (o.kind == 9) = true := by simpa using hk9
  have HK := Lib.hid hk9; clear hk9
  have HEQ : Hid (EE = 0) := Lib.hid (by rw [← HEE.out]; exact (inv_plain HFZ.out (by have := HK.out; omega) (by have := HK.out; omega)).1)
  have HOQ : Hid (OO = { o with from_ := o.into, into := o.from_ }) := Lib.hid (by rw [← HOO.out]; exact inv_9 HFZ.out HK.out)
  obtain ⟨x0, -, -, -, -, -, -, -, -, -, -, -, -, -, -, -, x16, x17, x18, x19, x20⟩ := op_facts HX.out
  have s1 := setRow_heap U g _ #[.int .i64 o.kind, .slice a1 o.path.length c1, .slice a2 o.dest.length c2, .int .i64 o.pos, .bool o.node.leaf, .slice p1 m1 d1, .slice p2 m2 d2, .slice p3 m3 d3, .slice a5 o.old.length c5, .slice a6 o.new.length c6, .slice a7 o.text.length c7, .bool o.into.1, .slice i1 j1 k1, .int .i64 o.into.2.1.2, .slice i2 j2 k2, .int .i64 o.into.2.2.2, .bool o.into.1, .slice i1 j1 k1, .int .i64 o.into.2.1.2, .slice i2 j2 k2, .int .i64 o.into.2.2.2] 35 (0, 0) HY.out
  have s2 := setRow_heap (U.setRow g #[.int .i64 o.kind, .slice a1 o.path.length c1, .slice a2 o.dest.length c2, .int .i64 o.pos, .bool o.node.leaf, .slice p1 m1 d1, .slice p2 m2 d2, .slice p3 m3 d3, .slice a5 o.old.length c5, .slice a6 o.new.length c6, .slice a7 o.text.length c7, .bool o.into.1, .slice i1 j1 k1, .int .i64 o.into.2.1.2, .slice i2 j2 k2, .int .i64 o.into.2.2.2, .bool o.into.1, .slice i1 j1 k1, .int .i64 o.into.2.1.2, .slice i2 j2 k2, .int .i64 o.into.2.2.2]) g _ #[.int .i64 o.kind, .slice a1 o.path.length c1, .slice a2 o.dest.length c2, .int .i64 o.pos, .bool o.node.leaf, .slice p1 m1 d1, .slice p2 m2 d2, .slice p3 m3 d3, .slice a5 o.old.length c5, .slice a6 o.new.length c6, .slice a7 o.text.length c7, .bool o.into.1, .slice i1 j1 k1, .int .i64 o.into.2.1.2, .slice i2 j2 k2, .int .i64 o.into.2.2.2, .bool o.from_.1, .slice f1 g1 h1, .int .i64 o.from_.2.1.2, .slice f2 g2 h2, .int .i64 o.from_.2.2.2] 35 (0, 0) s1
  have s3 : Below w.heap.size w ((U.setRow g #[.int .i64 o.kind, .slice a1 o.path.length c1, .slice a2 o.dest.length c2, .int .i64 o.pos, .bool o.node.leaf, .slice p1 m1 d1, .slice p2 m2 d2, .slice p3 m3 d3, .slice a5 o.old.length c5, .slice a6 o.new.length c6, .slice a7 o.text.length c7, .bool o.into.1, .slice i1 j1 k1, .int .i64 o.into.2.1.2, .slice i2 j2 k2, .int .i64 o.into.2.2.2, .bool o.into.1, .slice i1 j1 k1, .int .i64 o.into.2.1.2, .slice i2 j2 k2, .int .i64 o.into.2.2.2]).setRow g #[.int .i64 o.kind, .slice a1 o.path.length c1, .slice a2 o.dest.length c2, .int .i64 o.pos, .bool o.node.leaf, .slice p1 m1 d1, .slice p2 m2 d2, .slice p3 m3 d3, .slice a5 o.old.length c5, .slice a6 o.new.length c6, .slice a7 o.text.length c7, .bool o.into.1, .slice i1 j1 k1, .int .i64 o.into.2.1.2, .slice i2 j2 k2, .int .i64 o.into.2.2.2, .bool o.from_.1, .slice f1 g1 h1, .int .i64 o.from_.2.1.2, .slice f2 g2 h2, .int .i64 o.from_.2.2.2]) := HB.out.trans ⟨rfl, rfl, rfl, by simp, fun b hb => (setRow_other _ g b _ (by have := HG.out; omega)).trans (setRow_other _ g b _ (by have := HG.out; omega))⟩
  have s4 : ((U.setRow g #[.int .i64 o.kind, .slice a1 o.path.length c1, .slice a2 o.dest.length c2, .int .i64 o.pos, .bool o.node.leaf, .slice p1 m1 d1, .slice p2 m2 d2, .slice p3 m3 d3, .slice a5 o.old.length c5, .slice a6 o.new.length c6, .slice a7 o.text.length c7, .bool o.into.1, .slice i1 j1 k1, .int .i64 o.into.2.1.2, .slice i2 j2 k2, .int .i64 o.into.2.2.2, .bool o.into.1, .slice i1 j1 k1, .int .i64 o.into.2.1.2, .slice i2 j2 k2, .int .i64 o.into.2.2.2]).setRow g #[.int .i64 o.kind, .slice a1 o.path.length c1, .slice a2 o.dest.length c2, .int .i64 o.pos, .bool o.node.leaf, .slice p1 m1 d1, .slice p2 m2 d2, .slice p3 m3 d3, .slice a5 o.old.length c5, .slice a6 o.new.length c6, .slice a7 o.text.length c7, .bool o.into.1, .slice i1 j1 k1, .int .i64 o.into.2.1.2, .slice i2 j2 k2, .int .i64 o.into.2.2.2, .bool o.from_.1, .slice f1 g1 h1, .int .i64 o.from_.2.1.2, .slice f2 g2 h2, .int .i64 o.from_.2.2.2]).heap[w.heap.size + 1]? = _ := (setRow_other _ g _ _ (by have := HG.out; omega)).trans ((setRow_other _ g _ _ (by have := HG.out; omega)).trans HZ.out)
  have s5 : (U.setRow g #[.int .i64 o.kind, .slice a1 o.path.length c1, .slice a2 o.dest.length c2, .int .i64 o.pos, .bool o.node.leaf, .slice p1 m1 d1, .slice p2 m2 d2, .slice p3 m3 d3, .slice a5 o.old.length c5, .slice a6 o.new.length c6, .slice a7 o.text.length c7, .bool o.into.1, .slice i1 j1 k1, .int .i64 o.into.2.1.2, .slice i2 j2 k2, .int .i64 o.into.2.2.2, .bool o.into.1, .slice i1 j1 k1, .int .i64 o.into.2.1.2, .slice i2 j2 k2, .int .i64 o.into.2.2.2]).heap[w.heap.size]? = _ := (setRow_other _ g _ _ (by have := HG.out; omega)).trans HX.out
  obtain ⟨-, -, -, -, -, -, -, -, -, -, -, r11, r12, r13, r14, r15, -, -, -, -, -⟩ := op_facts s5
  have S1 := Lib.hid s1; have S2 := Lib.hid s2; have S3 := Lib.hid s3; have S4 := Lib.hid s4; clear s1 s2 s3 s4 s5
  go_upto_region 33 with (first | (refine wpList_sel11 rfl _ _ rfl g _ _ _ _ _ rfl rfl _ _ _ _ _ _ _ _ _ _ _ _ _ _ _ _ _ _ _ _ _ _ HY.out rfl ?_) | (refine wpList_sel16 rfl _ _ rfl g _ _ _ _ _ rfl rfl _ _ _ _ _ _ _ _ _ _ _ _ _ _ _ _ _ _ _ _ _ _ S1.out rfl ?_))
  clear HY HB HZ HX x0 x16 x17 x18 x19 x20 r11 r12 r13 r14 r15
  have HY := Lib.hid S2.out; have HB := Lib.hid S3.out; have HZ := Lib.hid S4.out; clear S1 S2 S3 S4
  generalize World.setRow (World.setRow U _ _) _ _ = U3 at *
  have zh1 : (#[.int .i64 o.kind, .slice a1 o.path.length c1, .slice a2 o.dest.length c2, .int .i64 o.pos, .bool o.node.leaf, .slice p1 m1 d1, .slice p2 m2 d2, .slice p3 m3 d3, .slice a5 o.old.length c5, .slice a6 o.new.length c6, .slice a7 o.text.length c7, .bool o.into.1, .slice i1 j1 k1, .int .i64 o.into.2.1.2, .slice i2 j2 k2, .int .i64 o.into.2.2.2, .bool o.from_.1, .slice f1 g1 h1, .int .i64 o.from_.2.1.2, .slice f2 g2 h2, .int .i64 o.from_.2.2.2] : Array Value).all (·.oneCell') = true := by rw [← Array.all_toList]; rfl
  go_wp2_with (first | (refine wpList_load_row rfl 35 _ rfl _ rfl 35 _ (0, 0) _ HY.out Try.underlying35 rfl op_info ?_) | (refine wpList_store_row rfl 35 _ _ rfl _ _ rfl rfl 35 _ HZ.out op_info rfl zh1 ?_))
  have zz1 := setRow_heap U3 (w.heap.size + 1) _ #[.int .i64 o.kind, .slice a1 o.path.length c1, .slice a2 o.dest.length c2, .int .i64 o.pos, .bool o.node.leaf, .slice p1 m1 d1, .slice p2 m2 d2, .slice p3 m3 d3, .slice a5 o.old.length c5, .slice a6 o.new.length c6, .slice a7 o.text.length c7, .bool o.into.1, .slice i1 j1 k1, .int .i64 o.into.2.1.2, .slice i2 j2 k2, .int .i64 o.into.2.2.2, .bool o.from_.1, .slice f1 g1 h1, .int .i64 o.from_.2.1.2, .slice f2 g2 h2, .int .i64 o.from_.2.2.2] _ (0, 0) HZ.out
  have zz3 : Below w.heap.size w (U3.setRow (w.heap.size + 1) #[.int .i64 o.kind, .slice a1 o.path.length c1, .slice a2 o.dest.length c2, .int .i64 o.pos, .bool o.node.leaf, .slice p1 m1 d1, .slice p2 m2 d2, .slice p3 m3 d3, .slice a5 o.old.length c5, .slice a6 o.new.length c6, .slice a7 o.text.length c7, .bool o.into.1, .slice i1 j1 k1, .int .i64 o.into.2.1.2, .slice i2 j2 k2, .int .i64 o.into.2.2.2, .bool o.from_.1, .slice f1 g1 h1, .int .i64 o.from_.2.1.2, .slice f2 g2 h2, .int .i64 o.from_.2.2.2]) := HB.out.trans ⟨rfl, rfl, rfl, by simp, fun b hb => setRow_other U3 _ b _ (by omega)⟩
  have hrun := run_loadVar_row (P := Try.prog) _ _ _ 35 _ _ _ zz1 Try.underlying35 rfl op_info
  (try simp only [Exit.inBlock, Exit.then])
  refine bodyPost_ret (v := .tuple #[.agg #[.int .i64 o.kind, .slice a1 o.path.length c1, .slice a2 o.dest.length c2, .int .i64 o.pos, .bool o.node.leaf, .slice p1 m1 d1, .slice p2 m2 d2, .slice p3 m3 d3, .slice a5 o.old.length c5, .slice a6 o.new.length c6, .slice a7 o.text.length c7, .bool o.into.1, .slice i1 j1 k1, .int .i64 o.into.2.1.2, .slice i2 j2 k2, .int .i64 o.into.2.2.2, .bool o.from_.1, .slice f1 g1 h1, .int .i64 o.from_.2.1.2, .slice f2 g2 h2, .int .i64 o.from_.2.2.2], .int .i64 0]) ?_ ?_ ?_
  · simp [results, Try.results12, asAddr, hrun]
  · rfl
  rw [HEQ.out, HOQ.out]
  refine ⟨_, rfl, zz3, fun X hX hq => ?_⟩
  have rd := hX.unmk
  exact ⟨_, _, _, _, _, _, _, _, _, _, _, _, _, _, _, _, _, _, _, _, _, _, _, _, _, _, _, _, _, _, _, rfl, ⟨rd.path, rd.dest, rd.node, rd.old, rd.new, rd.text, rd.ia, rd.ib, rd.fa, rd.fb⟩⟩
theorem rinv_any (o : OpF) (v : Value) (w : World) (hv : OpV w v o) (hi : I64 o.path) : Calls Try.prog 12 #[v] w (InvP (invO o) (invE o) w) :=
  (rinv_s o v w hv hi).mono fun _ _ h => h.p hv
end Go.Proofs.Ytcbljiiomnhbjaa
