/- The walk of the law BackDoes. (genbdoes.py wrote it.) -/
import Derived.Test.YtcbljiiomnhbjaaRInv
import Derived.Test.YtcbljiiomnhbjaaFew11
namespace Go.Proofs.Ytcbljiiomnhbjaa
set_option maxRecDepth 100000
open Go.RowKit

/-- A whole load of an operation, kept whole. -/
def opLd (p : Addr) : Sem Value := loadVar 35 p
theorem opLd_eq (p : Addr) : loadVar 35 p = opLd p := rfl
attribute [local go_sem ↓] opLd_eq

set_option maxHeartbeats 2000000 in
set_option maxRecDepth 100000 in
theorem law_bdoes (o : OpF) (v : Value) (w : World) (h : OpV w v o ∧ (-9223372036854775808 ≤ o.kind ∧ o.kind ≤ 9223372036854775807) ∧ I64 o.path) : Calls Try.prog 3 #[v] w (Yes w) := by
  obtain ⟨hv, hk, h64⟩ := h
  obtain ⟨cs, rfl, -, hsz⟩ := hv.agg
  have hbW := gr_al (gr_refl w) (.cells cs 35)
  have HX := Lib.hid (heap_alloc_new w (.cells cs 35))
  have HO := Lib.hid (hv.later hbW)
  have LB := Lib.hid (hbW)
  have HIHX := Lib.hid (info_op hsz)
  have HK := Lib.hid (hk)
  have H64 := Lib.hid (h64)
  clear hv hbW hsz hk h64
  go_enter Try.func3, Try.ntmps3
  go_upto_region 1 with fail
  generalize World.alloc w _ = W at *
  go_wp2_with fail
  refine (live11_any W).mono ?_
  rintro e w1 ⟨rfl, hb⟩
  replace HX := Lib.hid (blk_below HX.out hb); replace HO := Lib.hid (HO.out.later hb); replace LB := Lib.hid (gr_tr LB.out hb)
  clear hb
  go_wp2_with (refine wpList_load_row rfl 35 _ rfl _ rfl 35 _ (0, 0) _ HX.out Try.underlying35 rfl HIHX.out ?_)
  refine (few11_any o _ _ HO.out).mono ?_
  rintro e w2 ⟨b, rfl, -, hb⟩
  replace HX := Lib.hid (blk_below HX.out hb); replace HO := Lib.hid (HO.out.later hb); replace LB := Lib.hid (gr_tr LB.out hb)
  clear hb
  cases b
  case false =>
    go_wp2_with fail
    go_ret
    exact ⟨rfl, LB.out⟩
  go_wp2_with (refine wpList_load_row rfl 35 _ rfl _ rfl 35 _ (0, 0) _ HX.out Try.underlying35 rfl HIHX.out ?_)
  refine (binv_any o _ _ HO.out HK.out H64.out (fun o v w h => bown_any o v w h)).mono ?_
  rintro e w3 ⟨c1, rfl, hv1, hb⟩
  replace HX := Lib.hid (blk_below HX.out hb); replace HO := Lib.hid (HO.out.later hb); replace LB := Lib.hid (gr_tr LB.out hb)
  have HV1 := Lib.hid (hv1)
  have HC1 := Lib.hid (hv1.one)
  clear hb hv1
  obtain ⟨fr1, fr2⟩ := fresh_row w3 #[.int .i64 0, .slice none 0 0, .slice none 0 0, .int .i64 0, .bool false, .slice none 0 0, .slice none 0 0, .slice none 0 0, .slice none 0 0, .slice none 0 0, .slice none 0 0, .bool false, .slice none 0 0, .int .i64 0, .slice none 0 0, .int .i64 0, .bool false, .slice none 0 0, .int .i64 0, .slice none 0 0, .int .i64 0] c1 35
  have LK := HC1
  have KX := Lib.hid (blk_below HX.out fr1); have KO := Lib.hid (HO.out.later fr1); have KB := Lib.hid (gr_tr LB.out fr1); have KV1 := Lib.hid (HV1.out.later fr1); have HY1 := Lib.hid fr2; have HIHY1 := Lib.hid (info_op HC1.out.2)
  clear fr1 fr2 LK HO LB HV1 HX
  go_upto_region 6 with (refine wpList_store_row rfl 35 _ _ rfl _ _ rfl rfl 35 _ (heap_alloc_new w3 (.cells #[.int .i64 0, .slice none 0 0, .slice none 0 0, .int .i64 0, .bool false, .slice none 0 0, .slice none 0 0, .slice none 0 0, .slice none 0 0, .slice none 0 0, .slice none 0 0, .bool false, .slice none 0 0, .int .i64 0, .slice none 0 0, .int .i64 0, .bool false, .slice none 0 0, .int .i64 0, .slice none 0 0, .int .i64 0] 35)) (info_op HC1.out.2) HC1.out.2.symm HC1.out.1 ?_)
  generalize World.setRow (w3.alloc _) _ _ = U1 at *
  have HX := KX; have HO := KO; have LB := KB; have HV1 := KV1; clear KX KO KB KV1
  go_wp2_with (refine wpList_load_row rfl 35 _ rfl _ rfl 35 _ (0, 0) _ HX.out Try.underlying35 rfl HIHX.out ?_)
  refine (rinv_any o _ _ HO.out H64.out).mono ?_
  rintro e w4 ⟨c2, rfl, hv2, hb⟩
  replace HX := Lib.hid (blk_below HX.out hb); replace HO := Lib.hid (HO.out.later hb); replace LB := Lib.hid (gr_tr LB.out hb); replace HV1 := Lib.hid (HV1.out.later hb); replace HY1 := Lib.hid (blk_below HY1.out hb)
  have HV2 := Lib.hid (hv2)
  have HC2 := Lib.hid (hv2.one)
  clear hb hv2
  obtain ⟨fr1, fr2⟩ := fresh_row w4 #[.int .i64 0, .slice none 0 0, .slice none 0 0, .int .i64 0, .bool false, .slice none 0 0, .slice none 0 0, .slice none 0 0, .slice none 0 0, .slice none 0 0, .slice none 0 0, .bool false, .slice none 0 0, .int .i64 0, .slice none 0 0, .int .i64 0, .bool false, .slice none 0 0, .int .i64 0, .slice none 0 0, .int .i64 0] c2 35
  have KX := Lib.hid (blk_below HX.out fr1); have KO := Lib.hid (HO.out.later fr1); have KB := Lib.hid (gr_tr LB.out fr1); have KV1 := Lib.hid (HV1.out.later fr1); have KV2 := Lib.hid (HV2.out.later fr1); have KY1 := Lib.hid (blk_below HY1.out fr1); have HY2 := Lib.hid fr2; have HIHY2 := Lib.hid (info_op HC2.out.2)
  clear fr1 fr2 HO LB HV1 HV2 HX HY1
  go_upto_region 7 with (refine wpList_store_row rfl 35 _ _ rfl _ _ rfl rfl 35 _ (heap_alloc_new w4 (.cells #[.int .i64 0, .slice none 0 0, .slice none 0 0, .int .i64 0, .bool false, .slice none 0 0, .slice none 0 0, .slice none 0 0, .slice none 0 0, .slice none 0 0, .slice none 0 0, .bool false, .slice none 0 0, .int .i64 0, .slice none 0 0, .int .i64 0, .bool false, .slice none 0 0, .int .i64 0, .slice none 0 0, .int .i64 0] 35)) (info_op HC2.out.2) HC2.out.2.symm HC2.out.1 ?_)
  generalize World.setRow (w4.alloc _) _ _ = U2 at *
  have HX := KX; have HO := KO; have LB := KB; have HV1 := KV1; have HV2 := KV2; have HY1 := KY1; clear KX KO KB KV1 KV2 KY1
  have BB : Hid (∀ w', Below U2.heap.size U2 w' → (opLd ⟨w.heap.size, 0, none⟩).run Try.prog w' = .ok (.agg cs) w' ∧ (opLd ⟨w3.heap.size, 0, none⟩).run Try.prog w' = .ok (.agg c1) w' ∧ (opLd ⟨w4.heap.size, 0, none⟩).run Try.prog w' = .ok (.agg c2) w') := Lib.hid (fun w' l => ⟨run_loadVar_row w' _ _ 35 _ _ _ (blk_below HX.out l) Try.underlying35 rfl HIHX.out, run_loadVar_row w' _ _ 35 _ _ _ (blk_below HY1.out l) Try.underlying35 rfl HIHY1.out, run_loadVar_row w' _ _ 35 _ _ _ (blk_below HY2.out l) Try.underlying35 rfl HIHY2.out⟩)
  have CS : Hid (∀ w', Below U2.heap.size U2 w' → Calls Try.prog 13 #[.agg c1, .agg c2] w' fun e w'' => e = .returned (.bool true) ∧ Below w'.heap.size w' w'') := Lib.hid (fun w' l => rs11_yes (invO o) _ _ _ (HV1.out.later l) (HV2.out.later l))
  have CF : Hid (∀ w', Below U2.heap.size U2 w' → Calls Try.prog 14 #[.agg cs] w' fun e w'' => e = .returned (.int .i64 (formX o)) ∧ Below w'.heap.size w' w'') := Lib.hid (fun w' l => bform_any o _ _ (HO.out.later l) HK.out)
  have CG : Hid (∀ w', Below U2.heap.size U2 w' → Calls Try.prog 15 #[.agg cs] w' fun e w'' => e = .returned (.int .i64 (formX o)) ∧ Below w'.heap.size w' w'') := Lib.hid (fun w' l => rform_any o _ _ (HO.out.later l))
  clear HX HO HV1 HV2 HY1 HY2 HIHX HIHY1 HIHY2 HK H64 HC1 HC2
  have l := gr_dr (gr_refl U2)
  generalize invE o = EE at *
  generalize formX o = FE at *
  have qe : (EE == EE) = true := by simp
  have qf : (FE == FE) = true := by simp
  go_region_held3 (fun w' => (opLd ⟨w.heap.size, 0, none⟩).run Try.prog w' = .ok (.agg cs) w' ∧ (opLd ⟨w3.heap.size, 0, none⟩).run Try.prog w' = .ok (.agg c1) w' ∧ (opLd ⟨w4.heap.size, 0, none⟩).run Try.prog w' = .ok (.agg c2) w')
    (exact BB.out _ l)
    (first | ((try rw [if_pos (by rfl)]); (try go_simp); go_at_call 13; (with_reducible refine (CS.out _ l).mono ?_); rintro e w5 ⟨rfl, hb5⟩; replace l := gr_tr l hb5; clear hb5; (try dsimp only)) | ((try rw [if_pos (by rfl)]); (try go_simp); go_at_call 14; (with_reducible refine (CF.out _ l).mono ?_); rintro e w5 ⟨rfl, hb5⟩; replace l := gr_tr l hb5; clear hb5; (try dsimp only)) | ((try rw [if_pos (by rfl)]); (try go_simp); go_at_call 15; (with_reducible refine (CG.out _ l).mono ?_); rintro e w5 ⟨rfl, hb5⟩; replace l := gr_tr l hb5; clear hb5; (try dsimp only)))
  all_goals
    go_wp2_with fail
    go_ret
    first | exact ⟨rfl, gr_tr LB.out l⟩ | exact ⟨ret_bool (by simp), gr_tr LB.out l⟩
end Go.Proofs.Ytcbljiiomnhbjaa
