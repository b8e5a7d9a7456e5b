/- The walk of redlineref11.Form; words for whole operations in boxes. (genrform.py wrote it.) -/
import Derived.Test.YtcbljiiomnhbjaaFormR
import Derived.Test.YtcbljiiomnhbjaaLive11
namespace Go.Proofs.Ytcbljiiomnhbjaa
set_option maxRecDepth 100000
open Go.RowKit

theorem OpV.one {w : World} {cs : Array Value} {o : OpF} (h : OpV w (.agg cs) o) : cs.all (·.oneCell') = true ∧ cs.size = 21 := by
  obtain ⟨a1, c1, a2, c2, p1, m1, d1, p2, m2, d2, p3, m3, d3, a5, c5, a6, c6, a7, c7, f1, g1, h1, f2, g2, h2, i1, j1, k1, i2, j2, k2, hc, hr⟩ := h
  simp only [Value.agg.injEq] at hc
  subst hc
  exact ⟨by rw [← Array.all_toList]; rfl, rfl⟩
theorem info_op {cs : Array Value} (h : cs.size = 21) : (Try.prog.info? 35).map (·.size) = some cs.size := by rw [h]; exact op_info
/-- An operation's value is stored into a new box. -/
theorem fresh_row (w : World) (z cs : Array Value) (t : TypeId) : Below w.heap.size w ((w.alloc (.cells z t)).setRow w.heap.size cs) ∧ ((w.alloc (.cells z t)).setRow w.heap.size cs).heap[w.heap.size]? = some (.cells cs t (0, 0)) :=
  ⟨(gr_al (gr_refl w) (.cells z t)).trans ⟨rfl, rfl, rfl, by simp, fun b hb => setRow_other _ w.heap.size b _ (by omega)⟩, setRow_heap (w.alloc (.cells z t)) w.heap.size _ cs _ (0, 0) (heap_alloc_new w (.cells z t))⟩

set_option maxHeartbeats 2000000 in
set_option maxRecDepth 100000 in
theorem rform_any (o : OpF) (v : Value) (w : World) (hv : OpV w v o) : Calls Try.prog 15 #[v] w fun e w' => e = .returned (.int .i64 (formX o)) ∧ Below w.heap.size w w' := by
  obtain ⟨cs, rfl, -, hsz⟩ := hv.agg
  have hbW := gr_al (gr_refl w) (.cells cs 35)
  have hx := heap_alloc_new w (.cells cs 35)
  have ho := hv.later hbW
  have hf := fields_any o (.agg cs) _ ho
  obtain ⟨EE, hEE⟩ : ∃ EE, formX o = EE := ⟨_, rfl⟩
  rw [hEE]
  obtain ⟨OF, hOF⟩ : ∃ OF, fldO o = OF := ⟨_, rfl⟩
  obtain ⟨BF, hBF⟩ : ∃ BF, fldB o = BF := ⟨_, rfl⟩
  obtain ⟨QF, hQF⟩ : ∃ QF, eqO OF o = QF := ⟨_, rfl⟩
  have hE2 := form_fld o
  rw [hOF, hBF] at hf
  rw [hOF, hBF, hEE, hQF] at hE2
  have HX := Lib.hid hx; have HO := Lib.hid ho; have HB := Lib.hid hbW; have HF := Lib.hid hf; have HE := Lib.hid hE2; have HQ := Lib.hid hQF
  have HI := Lib.hid (info_op hsz)
  clear hx ho hbW hf hE2 hQF hOF hBF hEE hsz hv
  go_enter Try.func15, Try.ntmps15
  go_upto_region 1 with fail
  generalize World.alloc w _ = W at *
  go_wp2_with (refine wpList_load_row rfl 35 _ rfl _ rfl 35 _ (0, 0) _ HX.out Try.underlying35 rfl HI.out ?_)
  refine HF.out.mono ?_
  rintro e w1 ⟨cs1, rfl, hv1, hb⟩
  have h1 := hv1.one
  obtain ⟨fr1, fr2⟩ := fresh_row w1 #[.int .i64 0, .slice none 0 0, .slice none 0 0, .int .i64 0, .bool false, .slice none 0 0, .slice none 0 0, .slice none 0 0, .slice none 0 0, .slice none 0 0, .slice none 0 0, .bool false, .slice none 0 0, .int .i64 0, .slice none 0 0, .int .i64 0, .bool false, .slice none 0 0, .int .i64 0, .slice none 0 0, .int .i64 0] cs1 35
  have HX1 := Lib.hid (blk_below (blk_below HX.out hb) fr1); have HO1 := Lib.hid ((HO.out.later hb).later fr1); have HB1 := Lib.hid (gr_tr (gr_tr HB.out hb) fr1); have HV1 := Lib.hid (hv1.later fr1); have HY := Lib.hid fr2; have HI1 := Lib.hid (info_op h1.2); have H1 := Lib.hid h1
  clear hb hv1 h1 fr1 fr2 HF HX HO HB
  go_upto_region 2 with (refine wpList_store_row rfl 35 _ _ rfl _ _ rfl rfl 35 _ (heap_alloc_new w1 (.cells #[.int .i64 0, .slice none 0 0, .slice none 0 0, .int .i64 0, .bool false, .slice none 0 0, .slice none 0 0, .slice none 0 0, .slice none 0 0, .slice none 0 0, .slice none 0 0, .bool false, .slice none 0 0, .int .i64 0, .slice none 0 0, .int .i64 0, .bool false, .slice none 0 0, .int .i64 0, .slice none 0 0, .int .i64 0] 35)) HI1.out H1.out.2.symm H1.out.1 ?_)
  generalize World.setRow (w1.alloc _) _ _ = U at *
  cases BF
  case false =>
    go_wp2_with fail
    go_ret
    exact ⟨ret_int (by rw [HE.out]; rfl), HB1.out⟩
  have hs := rs11_any OF o _ _ _ HV1.out HO1.out
  rw [HQ.out] at hs
  have HS := Lib.hid hs
  clear hs HV1 HO1 HQ
  go_wp2_with (first | (refine wpList_load_row_g (by rfl) 35 _ rfl _ rfl 35 _ (0, 0) _ HY.out Try.underlying35 rfl HI1.out ?_) | (refine wpList_load_row_g (by rfl) 35 _ rfl _ rfl 35 _ (0, 0) _ HX1.out Try.underlying35 rfl HI.out ?_))
  refine HS.out.mono ?_
  rintro e w2 ⟨rfl, hb⟩
  have HB2 := Lib.hid (gr_tr HB1.out hb)
  clear hb HS HX1 HY HB1
  cases QF
  case false =>
    go_wp2_with fail
    go_ret
    exact ⟨ret_int (by rw [HE.out]; rfl), HB2.out⟩
  go_wp2_with fail
  go_ret
  exact ⟨ret_int (by rw [HE.out]; rfl), HB2.out⟩
end Go.Proofs.Ytcbljiiomnhbjaa
