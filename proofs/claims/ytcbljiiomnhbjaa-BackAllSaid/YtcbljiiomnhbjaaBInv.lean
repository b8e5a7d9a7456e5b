/- Walk of back.Inverse. (geninv.py wrote it.) -/
import Derived.Test.YtcbljiiomnhbjaaBInvH
namespace Go.Proofs.Ytcbljiiomnhbjaa
set_option maxRecDepth 100000
open Go.RowKit

set_option maxHeartbeats 8000000 in
set_option maxRecDepth 100000 in
theorem binv_n (o : OpF) (v : Value) (w : World) (h : OpV w v o) (hk : -9223372036854775808 ≤ o.kind ∧ o.kind ≤ 9223372036854775807) (hi : I64 o.path) (hOWN : ∀ (o : OpF) (v : Value) (w : World), OpV w v o → Calls Try.prog 26 #[v] w (OwnP o w)) : Calls Try.prog 11 #[v] w (InvN (invO o) (invE o) w) := by
  obtain ⟨cs, b1, e1, rfl, h0, h1, hip, hsz⟩ := h.agg2
  obtain ⟨hbW, hx, hz⟩ := two_boxes w cs #[.int .i64 0, .slice none 0 0, .slice none 0 0, .int .i64 0, .bool false, .slice none 0 0, .slice none 0 0, .slice none 0 0, .slice none 0 0, .slice none 0 0, .slice none 0 0, .bool false, .slice none 0 0, .int .i64 0, .slice none 0 0, .int .i64 0, .bool false, .slice none 0 0, .int .i64 0, .slice none 0 0, .int .i64 0] 35 35
  have HX := Lib.hid hx; have HZ := Lib.hid hz; have HB := Lib.hid hbW; have HO := Lib.hid (h.later hbW); have HIP := Lib.hid (hip.below hbW (Nat.le_refl _)); have HI := Lib.hid hi; have HK := Lib.hid hk; have H0 := Lib.hid h0; have H1 := Lib.hid h1
  have HINF : Hid ((Try.prog.info? 35).map (·.size) = some cs.size) := Lib.hid (by rw [hsz]; exact op_info)
  obtain ⟨OO, hOO⟩ : ∃ OO, invO o = OO := ⟨_, rfl⟩
  obtain ⟨EE, hEE⟩ : ∃ EE, invE o = EE := ⟨_, rfl⟩
  rw [hOO, hEE]
  have HOO := Lib.hid hOO; have HEE := Lib.hid hEE
  obtain ⟨fe, hfe⟩ : ∃ fe, formX o = fe := ⟨_, rfl⟩
  have hform := bform_any o (.agg cs) _ HO.out HK.out
  rw [hfe] at hform
  have HFM := Lib.hid hform; have HFE := Lib.hid hfe
  have HOW0 := Lib.hid hOWN
  clear hOWN h hbW hx hz hip hi hk h0 h1 hsz hOO hEE hform hfe
  go_enter Try.func11, Try.ntmps11
  go_upto_region 1 with fail
  generalize World.alloc (World.alloc w _) _ = W at *
  have HWS := Lib.hid (show w.heap.size + 1 < W.heap.size from lt_of_block HZ.out)
  go_wp2_with (refine wpList_load_row rfl 35 _ rfl _ rfl 35 _ (0, 0) _ HX.out Try.underlying35 rfl HINF.out ?_)
  refine HFM.out.mono ?_
  rintro e w1 ⟨rfl, hb1⟩
  have HX1 := Lib.hid (blk_below HX.out hb1); have HZ1 := Lib.hid (blk_below HZ.out hb1); have HO1 := Lib.hid (HO.out.later hb1); have HB1 := Lib.hid (gr_tr HB.out hb1); have HIP1 := Lib.hid (HIP.out.below hb1 (Nat.le_refl _)); have HS1 := Lib.hid hb1.size
  clear hb1 HFM
  by_cases hf0 : fe = 0
  case neg =>
    have q : (fe != 0) = true := by simpa using hf0
    have HEQ : Hid (EE = fe) := Lib.hid (by rw [← HEE.out, invE, if_pos (by rw [HFE.out]; exact hf0), HFE.out])
    have HOQ : Hid (OO = zeroO) := Lib.hid (by rw [← HOO.out, invO, if_pos (by rw [HEE.out, HEQ.out]; exact hf0)])
    clear hf0
    have zh1 : (#[.int .i64 0, .slice none 0 0, .slice none 0 0, .int .i64 0, .bool false, .slice none 0 0, .slice none 0 0, .slice none 0 0, .slice none 0 0, .slice none 0 0, .slice none 0 0, .bool false, .slice none 0 0, .int .i64 0, .slice none 0 0, .int .i64 0, .bool false, .slice none 0 0, .int .i64 0, .slice none 0 0, .int .i64 0] : Array Value).all (·.oneCell') = true := by rw [← Array.all_toList]; rfl
    go_wp2_with (refine wpList_store_row rfl 35 _ _ rfl _ _ rfl rfl 35 _ HZ1.out op_info rfl zh1 ?_)
    have zz1 := setRow_heap w1 (w.heap.size + 1) _ #[.int .i64 0, .slice none 0 0, .slice none 0 0, .int .i64 0, .bool false, .slice none 0 0, .slice none 0 0, .slice none 0 0, .slice none 0 0, .slice none 0 0, .slice none 0 0, .bool false, .slice none 0 0, .int .i64 0, .slice none 0 0, .int .i64 0, .bool false, .slice none 0 0, .int .i64 0, .slice none 0 0, .int .i64 0] _ (0, 0) HZ1.out
    have zz3 : Below w.heap.size w (w1.setRow (w.heap.size + 1) #[.int .i64 0, .slice none 0 0, .slice none 0 0, .int .i64 0, .bool false, .slice none 0 0, .slice none 0 0, .slice none 0 0, .slice none 0 0, .slice none 0 0, .slice none 0 0, .bool false, .slice none 0 0, .int .i64 0, .slice none 0 0, .int .i64 0, .bool false, .slice none 0 0, .int .i64 0, .slice none 0 0, .int .i64 0]) := HB1.out.trans ⟨rfl, rfl, rfl, by simp, fun b hb => setRow_other w1 _ b _ (by omega)⟩
    have hrun := run_loadVar_row (P := Try.prog) _ _ _ 35 _ _ _ zz1 Try.underlying35 rfl op_info
    (try simp only [Exit.inBlock, Exit.then])
    refine bodyPost_ret (v := .tuple #[.agg #[.int .i64 0, .slice none 0 0, .slice none 0 0, .int .i64 0, .bool false, .slice none 0 0, .slice none 0 0, .slice none 0 0, .slice none 0 0, .slice none 0 0, .slice none 0 0, .bool false, .slice none 0 0, .int .i64 0, .slice none 0 0, .int .i64 0, .bool false, .slice none 0 0, .int .i64 0, .slice none 0 0, .int .i64 0], .int .i64 fe]) ?_ ?_ ?_
    · simp [results, Try.results11, asAddr, hrun]
    · rfl
    exact InvN.zero HOQ.out HEQ.out zz3
  case pos =>
    subst hf0
    have hown := HOW0.out o (.agg cs) _ HO1.out
    have HOWN := Lib.hid hown
    clear hown
    go_wp2_with (refine wpList_load_row rfl 35 _ rfl _ rfl 35 _ (0, 0) _ HX1.out Try.underlying35 rfl HINF.out ?_)
    refine HOWN.out.mono ?_
    rintro e w2 ⟨cs2, rfl, hv2, hb2⟩
    obtain ⟨a1, c1, a2, c2, p1, m1, d1, p2, m2, d2, p3, m3, d3, a5, c5, a6, c6, a7, c7, f1, g1, h1, f2, g2, h2, i1, j1, k1, i2, j2, k2, hcs, hr⟩ := hv2
    simp only [Value.agg.injEq] at hcs
    subst hcs
    dsimp only [opC]
    have HX2 := Lib.hid (blk_below HX1.out hb2); have HZ2 := Lib.hid (blk_below HZ1.out hb2); have HR2 := Lib.hid hr; have HB2 := Lib.hid (gr_tr HB1.out hb2); have HIP2 := Lib.hid (HIP1.out.below hb2 (Nat.le_refl _)); have HS2 := Lib.hid (Nat.le_trans HS1.out hb2.size); have HS12 := Lib.hid hb2.size
    clear hr hb2 HOWN HX1 HZ1 HO1 HB1 HIP1 HO HX HZ HIP HB
    have zhX : (#[.int .i64 o.kind, .slice a1 o.path.length c1, .slice a2 o.dest.length c2, .int .i64 o.pos, .bool o.node.leaf, .slice p1 m1 d1, .slice p2 m2 d2, .slice p3 m3 d3, .slice a5 o.old.length c5, .slice a6 o.new.length c6, .slice a7 o.text.length c7, .bool o.from_.1, .slice f1 g1 h1, .int .i64 o.from_.2.1.2, .slice f2 g2 h2, .int .i64 o.from_.2.2.2, .bool o.into.1, .slice i1 j1 k1, .int .i64 o.into.2.1.2, .slice i2 j2 k2, .int .i64 o.into.2.2.2] : Array Value).all (·.oneCell') = true := by rw [← Array.all_toList]; rfl
    go_upto_region 5 with (refine wpList_store_row rfl 35 _ _ rfl _ _ rfl rfl 35 _ (heap_alloc_new w2 (.cells #[.int .i64 0, .slice none 0 0, .slice none 0 0, .int .i64 0, .bool false, .slice none 0 0, .slice none 0 0, .slice none 0 0, .slice none 0 0, .slice none 0 0, .slice none 0 0, .bool false, .slice none 0 0, .int .i64 0, .slice none 0 0, .int .i64 0, .bool false, .slice none 0 0, .int .i64 0, .slice none 0 0, .int .i64 0] 35)) op_info rfl zhX ?_)
    have hal : Below w2.heap.size w2 ((w2.alloc (.cells #[.int .i64 0, .slice none 0 0, .slice none 0 0, .int .i64 0, .bool false, .slice none 0 0, .slice none 0 0, .slice none 0 0, .slice none 0 0, .slice none 0 0, .slice none 0 0, .bool false, .slice none 0 0, .int .i64 0, .slice none 0 0, .int .i64 0, .bool false, .slice none 0 0, .int .i64 0, .slice none 0 0, .int .i64 0] 35)).setRow w2.heap.size #[.int .i64 o.kind, .slice a1 o.path.length c1, .slice a2 o.dest.length c2, .int .i64 o.pos, .bool o.node.leaf, .slice p1 m1 d1, .slice p2 m2 d2, .slice p3 m3 d3, .slice a5 o.old.length c5, .slice a6 o.new.length c6, .slice a7 o.text.length c7, .bool o.from_.1, .slice f1 g1 h1, .int .i64 o.from_.2.1.2, .slice f2 g2 h2, .int .i64 o.from_.2.2.2, .bool o.into.1, .slice i1 j1 k1, .int .i64 o.into.2.1.2, .slice i2 j2 k2, .int .i64 o.into.2.2.2]) := (gr_al (gr_refl w2) (.cells #[.int .i64 0, .slice none 0 0, .slice none 0 0, .int .i64 0, .bool false, .slice none 0 0, .slice none 0 0, .slice none 0 0, .slice none 0 0, .slice none 0 0, .slice none 0 0, .bool false, .slice none 0 0, .int .i64 0, .slice none 0 0, .int .i64 0, .bool false, .slice none 0 0, .int .i64 0, .slice none 0 0, .int .i64 0] 35)).trans ⟨rfl, rfl, rfl, by simp, fun b hb => setRow_other _ w2.heap.size b _ (by omega)⟩
    have BX := Lib.hid (setRow_heap (w2.alloc (.cells #[.int .i64 0, .slice none 0 0, .slice none 0 0, .int .i64 0, .bool false, .slice none 0 0, .slice none 0 0, .slice none 0 0, .slice none 0 0, .slice none 0 0, .slice none 0 0, .bool false, .slice none 0 0, .int .i64 0, .slice none 0 0, .int .i64 0, .bool false, .slice none 0 0, .int .i64 0, .slice none 0 0, .int .i64 0] 35)) w2.heap.size _ #[.int .i64 o.kind, .slice a1 o.path.length c1, .slice a2 o.dest.length c2, .int .i64 o.pos, .bool o.node.leaf, .slice p1 m1 d1, .slice p2 m2 d2, .slice p3 m3 d3, .slice a5 o.old.length c5, .slice a6 o.new.length c6, .slice a7 o.text.length c7, .bool o.from_.1, .slice f1 g1 h1, .int .i64 o.from_.2.1.2, .slice f2 g2 h2, .int .i64 o.from_.2.2.2, .bool o.into.1, .slice i1 j1 k1, .int .i64 o.into.2.1.2, .slice i2 j2 k2, .int .i64 o.into.2.2.2] _ (0, 0) (heap_alloc_new w2 (.cells #[.int .i64 0, .slice none 0 0, .slice none 0 0, .int .i64 0, .bool false, .slice none 0 0, .slice none 0 0, .slice none 0 0, .slice none 0 0, .slice none 0 0, .slice none 0 0, .bool false, .slice none 0 0, .int .i64 0, .slice none 0 0, .int .i64 0, .bool false, .slice none 0 0, .int .i64 0, .slice none 0 0, .int .i64 0] 35)))
    obtain ⟨g5, hg5⟩ : ∃ g, w2.heap.size = g := ⟨_, rfl⟩
    have HG := Lib.hid (show w.heap.size + 1 < g5 by have := HWS.out; have := HS2.out; omega)
    have L := Lib.hid hal
    rw [hg5] at BX L ⊢
    have HGE := Lib.hid hg5
    clear zhX hal hg5
    generalize World.setRow (w2.alloc _) _ _ = V at *
    have h19 : 1 ≤ o.kind ∧ o.kind ≤ 9 := by
      have := HFE.out
      unfold formX at this
      split at this
      · assumption
      · cases this
    have H19 := Lib.hid h19
    clear h19
    have HKC : Hid (∀ w', Below V.heap.size V w' → w'.cell? ⟨w.heap.size, 0, none⟩ = some (.int .i64 o.kind)) := Lib.hid (fun w' l => by rw [cell_of_row w' w.heap.size 0 _ _ (0, 0) ((blk_below (blk_below HX2.out (by rw [HGE.out]; exact L.out)) l)), H0.out])
    have hn : ∀ (w' : World) (u : Value), (w'.setCell ⟨g5, 0, none⟩ u).cell? ⟨w.heap.size, 0, none⟩ = w'.cell? ⟨w.heap.size, 0, none⟩ := fun w' u => World.cell?_setCell_far _ _ _ _ (by have := HG.out; simp; omega)
    have l := gr_dr (gr_refl V)
    go_region_held3 (fun w' => w'.cell? ⟨w.heap.size, 0, none⟩ = some (.int .i64 o.kind))
      (first | (with_reducible exact HKC.out _ l) | (rw [hn]; exact HKC.out _ l))
      (first
      | (go_at_call 27; refine (undoes_any _).mono ?_; rintro e w3 ⟨rfl, hown, hb⟩; replace l := gr_tr l hb; clear hb; have hlk := look_un hown H19.out; change (Instr.lookup 59 (.map (some V.heap.size)) (.int .i64 o.kind) false).run Try.prog _ = _ at hlk; clear hown; have bk0 := (op_facts (blk_below BX.out l)).1; have fk0 := frozen_of_row _ g5 0 _ _ (blk_below BX.out l)))
    clear hlk bk0 fk0 hn HKC
    have L3 := Lib.hid (show Below g5 w2 w3 from L.out.trans (l.mono (by have := L.out.size; have := HGE.out; omega)))
    have B5 := heap_setCell_same _ g5 0 _ _ (.int .i64 (unK o.kind)) (blk_below BX.out l)
    replace BX := Lib.hid (show (w3.setCell ⟨g5, 0, none⟩ (.int .i64 (unK o.kind))).heap[g5]? = some (.cells #[.int .i64 (unK o.kind), .slice a1 o.path.length c1, .slice a2 o.dest.length c2, .int .i64 o.pos, .bool o.node.leaf, .slice p1 m1 d1, .slice p2 m2 d2, .slice p3 m3 d3, .slice a5 o.old.length c5, .slice a6 o.new.length c6, .slice a7 o.text.length c7, .bool o.from_.1, .slice f1 g1 h1, .int .i64 o.from_.2.1.2, .slice f2 g2 h2, .int .i64 o.from_.2.2.2, .bool o.into.1, .slice i1 j1 k1, .int .i64 o.into.2.1.2, .slice i2 j2 k2, .int .i64 o.into.2.2.2] 35 (0, 0)) from B5)
    replace L := Lib.hid (L3.out.setCell (p := ⟨g5, 0, none⟩) (Nat.le_refl _) (.int .i64 (unK o.kind)))
    clear B5 L3 l
    generalize World.setCell w3 _ _ = U at *
    obtain ⟨-, -, -, -, -, -, -, -, y8, y9, -, -, -, -, -, -, -, -, -, -, -⟩ := op_facts BX.out
    have z8 := frozen_of_row U g5 8 _ _ BX.out; have z9 := frozen_of_row U g5 9 _ _ BX.out
    have q1 : ((U.setCell ⟨g5, 8, none⟩ (.slice a6 o.new.length c6)).setCell ⟨g5, 9, none⟩ (.slice a5 o.old.length c5)).heap[g5]? = some (.cells #[.int .i64 (unK o.kind), .slice a1 o.path.length c1, .slice a2 o.dest.length c2, .int .i64 o.pos, .bool o.node.leaf, .slice p1 m1 d1, .slice p2 m2 d2, .slice p3 m3 d3, .slice a6 o.new.length c6, .slice a5 o.old.length c5, .slice a7 o.text.length c7, .bool o.from_.1, .slice f1 g1 h1, .int .i64 o.from_.2.1.2, .slice f2 g2 h2, .int .i64 o.from_.2.2.2, .bool o.into.1, .slice i1 j1 k1, .int .i64 o.into.2.1.2, .slice i2 j2 k2, .int .i64 o.into.2.2.2] 35 (0, 0)) := heap_setCell_same _ g5 9 _ _ (.slice a5 o.old.length c5) (heap_setCell_same _ g5 8 _ _ (.slice a6 o.new.length c6) BX.out)
    have q2 := (L.out.setCell (p := ⟨g5, 8, none⟩) (Nat.le_refl _) (.slice a6 o.new.length c6)).setCell (p := ⟨g5, 9, none⟩) (Nat.le_refl _) (.slice a5 o.old.length c5)
    have Q1 := Lib.hid q1; have Q2 := Lib.hid q2
    clear q1 q2 BX L
    go_upto_region 7 with fail
    have q1 := Q1.out; have q2 := Q2.out
    clear Q1 Q2 y8 y9 z8 z9
    generalize World.setCell (World.setCell U _ _) _ _ = U6 at *
    obtain ⟨-, -, -, -, -, -, -, -, -, -, -, y11, y12, y13, y14, y15, y16, y17, y18, y19, y20⟩ := op_facts q1
    have s1 := setRow_heap U6 g5 _ #[.int .i64 (unK o.kind), .slice a1 o.path.length c1, .slice a2 o.dest.length c2, .int .i64 o.pos, .bool o.node.leaf, .slice p1 m1 d1, .slice p2 m2 d2, .slice p3 m3 d3, .slice a6 o.new.length c6, .slice a5 o.old.length c5, .slice a7 o.text.length c7, .bool o.into.1, .slice i1 j1 k1, .int .i64 o.into.2.1.2, .slice i2 j2 k2, .int .i64 o.into.2.2.2, .bool o.into.1, .slice i1 j1 k1, .int .i64 o.into.2.1.2, .slice i2 j2 k2, .int .i64 o.into.2.2.2] 35 (0, 0) q1
    have s2 := setRow_heap (U6.setRow g5 #[.int .i64 (unK o.kind), .slice a1 o.path.length c1, .slice a2 o.dest.length c2, .int .i64 o.pos, .bool o.node.leaf, .slice p1 m1 d1, .slice p2 m2 d2, .slice p3 m3 d3, .slice a6 o.new.length c6, .slice a5 o.old.length c5, .slice a7 o.text.length c7, .bool o.into.1, .slice i1 j1 k1, .int .i64 o.into.2.1.2, .slice i2 j2 k2, .int .i64 o.into.2.2.2, .bool o.into.1, .slice i1 j1 k1, .int .i64 o.into.2.1.2, .slice i2 j2 k2, .int .i64 o.into.2.2.2]) g5 _ #[.int .i64 (unK o.kind), .slice a1 o.path.length c1, .slice a2 o.dest.length c2, .int .i64 o.pos, .bool o.node.leaf, .slice p1 m1 d1, .slice p2 m2 d2, .slice p3 m3 d3, .slice a6 o.new.length c6, .slice a5 o.old.length c5, .slice a7 o.text.length c7, .bool o.into.1, .slice i1 j1 k1, .int .i64 o.into.2.1.2, .slice i2 j2 k2, .int .i64 o.into.2.2.2, .bool o.from_.1, .slice f1 g1 h1, .int .i64 o.from_.2.1.2, .slice f2 g2 h2, .int .i64 o.from_.2.2.2] 35 (0, 0) s1
    have s3 : Below g5 w2 ((U6.setRow g5 #[.int .i64 (unK o.kind), .slice a1 o.path.length c1, .slice a2 o.dest.length c2, .int .i64 o.pos, .bool o.node.leaf, .slice p1 m1 d1, .slice p2 m2 d2, .slice p3 m3 d3, .slice a6 o.new.length c6, .slice a5 o.old.length c5, .slice a7 o.text.length c7, .bool o.into.1, .slice i1 j1 k1, .int .i64 o.into.2.1.2, .slice i2 j2 k2, .int .i64 o.into.2.2.2, .bool o.into.1, .slice i1 j1 k1, .int .i64 o.into.2.1.2, .slice i2 j2 k2, .int .i64 o.into.2.2.2]).setRow g5 #[.int .i64 (unK o.kind), .slice a1 o.path.length c1, .slice a2 o.dest.length c2, .int .i64 o.pos, .bool o.node.leaf, .slice p1 m1 d1, .slice p2 m2 d2, .slice p3 m3 d3, .slice a6 o.new.length c6, .slice a5 o.old.length c5, .slice a7 o.text.length c7, .bool o.into.1, .slice i1 j1 k1, .int .i64 o.into.2.1.2, .slice i2 j2 k2, .int .i64 o.into.2.2.2, .bool o.from_.1, .slice f1 g1 h1, .int .i64 o.from_.2.1.2, .slice f2 g2 h2, .int .i64 o.from_.2.2.2]) := q2.trans ⟨rfl, rfl, rfl, by simp, fun b hb => (setRow_other _ g5 b _ (by omega)).trans (setRow_other _ g5 b _ (by omega))⟩
    have S1 := Lib.hid s1; have S2 := Lib.hid s2; have S3 := Lib.hid s3; have S0 := Lib.hid q1
    clear s1 s2 s3 q1 q2
    go_upto_region 8 with (first | (refine wpList_sel11 rfl _ _ rfl g5 _ _ _ _ _ rfl rfl _ _ _ _ _ _ _ _ _ _ _ _ _ _ _ _ _ _ _ _ _ _ S0.out rfl ?_) | (refine wpList_sel16 rfl _ _ rfl g5 _ _ _ _ _ rfl rfl _ _ _ _ _ _ _ _ _ _ _ _ _ _ _ _ _ _ _ _ _ _ S1.out rfl ?_))
    have s2 := S2.out; have s3 := S3.out
    clear S0 S1 S2 S3 y11 y12 y13 y14 y15 y16 y17 y18 y19 y20
    generalize World.setRow (World.setRow U6 _ _) _ _ = V2 at *
    have BX := Lib.hid s2; have L := Lib.hid s3; clear s2 s3
    have LW := Lib.hid (show Below w2.heap.size w2 V2 by rw [HGE.out]; exact L.out)
    have HXV := Lib.hid (blk_below HX2.out LW.out); have HZV := Lib.hid (blk_below HZ2.out LW.out)
    have kc : V2.cell? ⟨w.heap.size, 0, none⟩ = some (.int .i64 o.kind) := by rw [cell_of_row V2 w.heap.size 0 _ _ (0, 0) HXV.out, H0.out]
    have pc : V2.cell? ⟨w.heap.size, 1, none⟩ = some (.slice b1 o.path.length e1) := by rw [cell_of_row V2 w.heap.size 1 _ _ (0, 0) HXV.out, H1.out]
    have HIPV := Lib.hid (HIP2.out.below LW.out (Nat.le_refl _))
    have HGV := Lib.hid (show g5 < V2.heap.size from lt_of_block BX.out)
    by_cases hk5 : o.kind = 5
    case pos =>
      have q5 : (o.kind == 5) = true := by simpa using hk5
      have HEQ : Hid (EE = 0) := Lib.hid (by rw [← HEE.out, invE, if_neg (by rw [HFE.out]; decide), if_neg (by omega), if_neg (by omega)])
      have HOQ : Hid (OO = { undoO o with path := o.dest, dest := o.path }) := Lib.hid (by rw [← HOO.out, invO, if_neg (by rw [HEE.out, HEQ.out]; decide), if_pos hk5])
      obtain ⟨-, y1, y2, -⟩ := op_facts BX.out
      have z1 := frozen_of_row V2 g5 1 _ _ BX.out; have z2 := frozen_of_row V2 g5 2 _ _ BX.out
      have q1 : ((V2.setCell ⟨g5, 1, none⟩ (.slice a2 o.dest.length c2)).setCell ⟨g5, 2, none⟩ (.slice a1 o.path.length c1)).heap[g5]? = some (.cells #[.int .i64 (unK o.kind), .slice a2 o.dest.length c2, .slice a1 o.path.length c1, .int .i64 o.pos, .bool o.node.leaf, .slice p1 m1 d1, .slice p2 m2 d2, .slice p3 m3 d3, .slice a6 o.new.length c6, .slice a5 o.old.length c5, .slice a7 o.text.length c7, .bool o.into.1, .slice i1 j1 k1, .int .i64 o.into.2.1.2, .slice i2 j2 k2, .int .i64 o.into.2.2.2, .bool o.from_.1, .slice f1 g1 h1, .int .i64 o.from_.2.1.2, .slice f2 g2 h2, .int .i64 o.from_.2.2.2] 35 (0, 0)) := heap_setCell_same _ g5 2 _ _ (.slice a1 o.path.length c1) (heap_setCell_same _ g5 1 _ _ (.slice a2 o.dest.length c2) BX.out)
      have q2 : Below w2.heap.size w2 ((V2.setCell ⟨g5, 1, none⟩ (.slice a2 o.dest.length c2)).setCell ⟨g5, 2, none⟩ (.slice a1 o.path.length c1)) := (LW.out.setCell (p := ⟨g5, 1, none⟩) (Nat.le_of_eq HGE.out) (.slice a2 o.dest.length c2)).setCell (p := ⟨g5, 2, none⟩) (Nat.le_of_eq HGE.out) (.slice a1 o.path.length c1)
      have Q1 := Lib.hid q1; have Q2 := Lib.hid q2; clear q1 q2 hk5 BX
      go_upto_region 19 with fail
      have BX := Lib.hid Q1.out; have LU := Lib.hid Q2.out; clear Q1 Q2 y1 y2 z1 z2 kc pc q5
      generalize World.setCell (World.setCell V2 _ _) _ _ = V3 at *
      have zh1 : (#[.int .i64 (unK o.kind), .slice a2 o.dest.length c2, .slice a1 o.path.length c1, .int .i64 o.pos, .bool o.node.leaf, .slice p1 m1 d1, .slice p2 m2 d2, .slice p3 m3 d3, .slice a6 o.new.length c6, .slice a5 o.old.length c5, .slice a7 o.text.length c7, .bool o.into.1, .slice i1 j1 k1, .int .i64 o.into.2.1.2, .slice i2 j2 k2, .int .i64 o.into.2.2.2, .bool o.from_.1, .slice f1 g1 h1, .int .i64 o.from_.2.1.2, .slice f2 g2 h2, .int .i64 o.from_.2.2.2] : Array Value).all (·.oneCell') = true := by rw [← Array.all_toList]; rfl
      have HZU := Lib.hid (blk_below HZ2.out LU.out)
      go_wp2_with (first | (refine wpList_load_row rfl 35 _ rfl _ rfl 35 _ (0, 0) _ BX.out Try.underlying35 rfl op_info ?_) | (refine wpList_store_row rfl 35 _ _ rfl _ _ rfl rfl 35 _ HZU.out op_info rfl zh1 ?_))
      have zz1 := setRow_heap V3 (w.heap.size + 1) _ #[.int .i64 (unK o.kind), .slice a2 o.dest.length c2, .slice a1 o.path.length c1, .int .i64 o.pos, .bool o.node.leaf, .slice p1 m1 d1, .slice p2 m2 d2, .slice p3 m3 d3, .slice a6 o.new.length c6, .slice a5 o.old.length c5, .slice a7 o.text.length c7, .bool o.into.1, .slice i1 j1 k1, .int .i64 o.into.2.1.2, .slice i2 j2 k2, .int .i64 o.into.2.2.2, .bool o.from_.1, .slice f1 g1 h1, .int .i64 o.from_.2.1.2, .slice f2 g2 h2, .int .i64 o.from_.2.2.2] _ (0, 0) HZU.out
      have hgg := HG.out; have hww := HWS.out; have hs1 := HS1.out; have hge := HGE.out
      have zz3 : Below w.heap.size w (V3.setRow (w.heap.size + 1) #[.int .i64 (unK o.kind), .slice a2 o.dest.length c2, .slice a1 o.path.length c1, .int .i64 o.pos, .bool o.node.leaf, .slice p1 m1 d1, .slice p2 m2 d2, .slice p3 m3 d3, .slice a6 o.new.length c6, .slice a5 o.old.length c5, .slice a7 o.text.length c7, .bool o.into.1, .slice i1 j1 k1, .int .i64 o.into.2.1.2, .slice i2 j2 k2, .int .i64 o.into.2.2.2, .bool o.from_.1, .slice f1 g1 h1, .int .i64 o.from_.2.1.2, .slice f2 g2 h2, .int .i64 o.from_.2.2.2]) := (gr_tr HB2.out LU.out).trans ⟨rfl, rfl, rfl, by simp, fun b hb => setRow_other V3 _ b _ (by omega)⟩
      have zz2 : ∀ b, w1.heap.size ≤ b → (V3.setRow (w.heap.size + 1) #[.int .i64 (unK o.kind), .slice a2 o.dest.length c2, .slice a1 o.path.length c1, .int .i64 o.pos, .bool o.node.leaf, .slice p1 m1 d1, .slice p2 m2 d2, .slice p3 m3 d3, .slice a6 o.new.length c6, .slice a5 o.old.length c5, .slice a7 o.text.length c7, .bool o.into.1, .slice i1 j1 k1, .int .i64 o.into.2.1.2, .slice i2 j2 k2, .int .i64 o.into.2.2.2, .bool o.from_.1, .slice f1 g1 h1, .int .i64 o.from_.2.1.2, .slice f2 g2 h2, .int .i64 o.from_.2.2.2]).heap[b]? = V3.heap[b]? := fun b hb => setRow_other V3 _ b _ (by omega)
      have rd := (HR2.out.keep (w' := V3.setRow (w.heap.size + 1) #[.int .i64 (unK o.kind), .slice a2 o.dest.length c2, .slice a1 o.path.length c1, .int .i64 o.pos, .bool o.node.leaf, .slice p1 m1 d1, .slice p2 m2 d2, .slice p3 m3 d3, .slice a6 o.new.length c6, .slice a5 o.old.length c5, .slice a7 o.text.length c7, .bool o.into.1, .slice i1 j1 k1, .int .i64 o.into.2.1.2, .slice i2 j2 k2, .int .i64 o.into.2.2.2, .bool o.from_.1, .slice f1 g1 h1, .int .i64 o.from_.2.1.2, .slice f2 g2 h2, .int .i64 o.from_.2.2.2]) fun b hb hb2 => (zz2 b hb).trans (LU.out.block b hb2)).mono (show w.heap.size ≤ w1.heap.size by omega)
      have hrun := run_loadVar_row (P := Try.prog) _ _ _ 35 _ _ _ zz1 Try.underlying35 rfl op_info
      (try simp only [Exit.inBlock, Exit.then])
      refine bodyPost_ret (v := .tuple #[.agg #[.int .i64 (unK o.kind), .slice a2 o.dest.length c2, .slice a1 o.path.length c1, .int .i64 o.pos, .bool o.node.leaf, .slice p1 m1 d1, .slice p2 m2 d2, .slice p3 m3 d3, .slice a6 o.new.length c6, .slice a5 o.old.length c5, .slice a7 o.text.length c7, .bool o.into.1, .slice i1 j1 k1, .int .i64 o.into.2.1.2, .slice i2 j2 k2, .int .i64 o.into.2.2.2, .bool o.from_.1, .slice f1 g1 h1, .int .i64 o.from_.2.1.2, .slice f2 g2 h2, .int .i64 o.from_.2.2.2], .int .i64 0]) ?_ ?_ ?_
      · simp [results, Try.results11, asAddr, hrun]
      · rfl
      rw [HEQ.out, HOQ.out]
      exact ⟨_, rfl, ⟨_, _, _, _, _, _, _, _, _, _, _, _, _, _, _, _, _, _, _, _, _, _, _, _, _, _, _, _, _, _, _, rfl, ⟨rd.dest, rd.path, rd.node, rd.new, rd.old, rd.text, rd.ia, rd.ib, rd.fa, rd.fb⟩⟩, zz3⟩
    have q5 : (o.kind == 5) = false := by rw [beq_eq_false_iff_ne]; exact hk5
    by_cases hk3 : o.kind = 3
    case pos =>
      have q3 : (o.kind == 3) = true := by simpa using hk3
      have HK3 := Lib.hid hk3
      clear hk3
      have HC := Lib.hid (back_any o.path _ V2 HIPV.out HI.out)
      go_wp2_with fail
      refine HC.out.mono ?_
      rintro e u ⟨v', rfl, ho, hb⟩
      obtain ⟨av, cv, hav⟩ := ho.ints.slice
      subst hav
      have LU := Lib.hid (gr_tr LW.out hb); have BU := Lib.hid (blk_below BX.out hb); have OU := Lib.hid ho; have HSU := Lib.hid hb.size
      clear ho hb HC kc pc BX
      by_cases he : backE o.path = 0
      case neg =>
        have HEQ : Hid (EE = backE o.path) := Lib.hid (by rw [← HEE.out, invE, if_neg (by rw [HFE.out]; decide), if_pos HK3.out])
        have HOQ : Hid (OO = zeroO) := Lib.hid (by rw [← HOO.out, invO, if_pos (by rw [HEE.out, HEQ.out]; exact he)])
        have q : (backE o.path != 0) = true := by simpa using he
        have HZU := Lib.hid (blk_below HZ2.out LU.out); have HBU := Lib.hid (gr_tr HB2.out LU.out)
        clear he
        have zh1 : (#[.int .i64 0, .slice none 0 0, .slice none 0 0, .int .i64 0, .bool false, .slice none 0 0, .slice none 0 0, .slice none 0 0, .slice none 0 0, .slice none 0 0, .slice none 0 0, .bool false, .slice none 0 0, .int .i64 0, .slice none 0 0, .int .i64 0, .bool false, .slice none 0 0, .int .i64 0, .slice none 0 0, .int .i64 0] : Array Value).all (·.oneCell') = true := by rw [← Array.all_toList]; rfl
        go_wp2_with (refine wpList_store_row rfl 35 _ _ rfl _ _ rfl rfl 35 _ HZU.out op_info rfl zh1 ?_)
        have zz1 := setRow_heap u (w.heap.size + 1) _ #[.int .i64 0, .slice none 0 0, .slice none 0 0, .int .i64 0, .bool false, .slice none 0 0, .slice none 0 0, .slice none 0 0, .slice none 0 0, .slice none 0 0, .slice none 0 0, .bool false, .slice none 0 0, .int .i64 0, .slice none 0 0, .int .i64 0, .bool false, .slice none 0 0, .int .i64 0, .slice none 0 0, .int .i64 0] _ (0, 0) HZU.out
        have zz3 : Below w.heap.size w (u.setRow (w.heap.size + 1) #[.int .i64 0, .slice none 0 0, .slice none 0 0, .int .i64 0, .bool false, .slice none 0 0, .slice none 0 0, .slice none 0 0, .slice none 0 0, .slice none 0 0, .slice none 0 0, .bool false, .slice none 0 0, .int .i64 0, .slice none 0 0, .int .i64 0, .bool false, .slice none 0 0, .int .i64 0, .slice none 0 0, .int .i64 0]) := HBU.out.trans ⟨rfl, rfl, rfl, by simp, fun b hb => setRow_other u _ b _ (by omega)⟩
        have hrun := run_loadVar_row (P := Try.prog) _ _ _ 35 _ _ _ zz1 Try.underlying35 rfl op_info
        (try simp only [Exit.inBlock, Exit.then])
        refine bodyPost_ret (v := .tuple #[.agg #[.int .i64 0, .slice none 0 0, .slice none 0 0, .int .i64 0, .bool false, .slice none 0 0, .slice none 0 0, .slice none 0 0, .slice none 0 0, .slice none 0 0, .slice none 0 0, .bool false, .slice none 0 0, .int .i64 0, .slice none 0 0, .int .i64 0, .bool false, .slice none 0 0, .int .i64 0, .slice none 0 0, .int .i64 0], .int .i64 (backE o.path)]) ?_ ?_ ?_
        · simp [results, Try.results11, asAddr, hrun]
        · rfl
        exact InvN.zero HOQ.out HEQ.out zz3
      case pos =>
        have HEQ : Hid (EE = 0) := Lib.hid (by rw [← HEE.out, invE, if_neg (by rw [HFE.out]; decide), if_pos HK3.out, he])
        have HOQ : Hid (OO = { undoO o with path := backL o.path }) := Lib.hid (by rw [← HOO.out, invO, if_neg (by rw [HEE.out, HEQ.out]; decide), if_neg hk5, if_pos HK3.out])
        rw [he]
        have y1 := (op_facts BU.out).2.1; have z1 := frozen_of_row u g5 1 _ _ BU.out
        have q1 : (u.setCell ⟨g5, 1, none⟩ (.slice av (backL o.path).length cv)).heap[g5]? = some (.cells #[.int .i64 (unK o.kind), .slice av (backL o.path).length cv, .slice a2 o.dest.length c2, .int .i64 o.pos, .bool o.node.leaf, .slice p1 m1 d1, .slice p2 m2 d2, .slice p3 m3 d3, .slice a6 o.new.length c6, .slice a5 o.old.length c5, .slice a7 o.text.length c7, .bool o.into.1, .slice i1 j1 k1, .int .i64 o.into.2.1.2, .slice i2 j2 k2, .int .i64 o.into.2.2.2, .bool o.from_.1, .slice f1 g1 h1, .int .i64 o.from_.2.1.2, .slice f2 g2 h2, .int .i64 o.from_.2.2.2] 35 (0, 0)) := heap_setCell_same _ g5 1 _ _ (.slice av (backL o.path).length cv) BU.out
        have q2 : Below w2.heap.size w2 (u.setCell ⟨g5, 1, none⟩ (.slice av (backL o.path).length cv)) := LU.out.setCell (p := ⟨g5, 1, none⟩) (Nat.le_of_eq HGE.out) (.slice av (backL o.path).length cv)
        have q3' := OU.out.setBelow (a := ⟨g5, 1, none⟩) HGV.out (.slice av (backL o.path).length cv)
        have Q1 := Lib.hid q1; have Q2 := Lib.hid q2; have Q3 := Lib.hid q3'; clear q1 q2 q3' he BU OU LU
        go_upto_region 19 with fail
        have BX := Lib.hid Q1.out; have LU := Lib.hid Q2.out; have OU := Lib.hid Q3.out; clear Q1 Q2 Q3 y1 z1
        generalize World.setCell u _ _ = V3 at *
        have zh1 : (#[.int .i64 (unK o.kind), .slice av (backL o.path).length cv, .slice a2 o.dest.length c2, .int .i64 o.pos, .bool o.node.leaf, .slice p1 m1 d1, .slice p2 m2 d2, .slice p3 m3 d3, .slice a6 o.new.length c6, .slice a5 o.old.length c5, .slice a7 o.text.length c7, .bool o.into.1, .slice i1 j1 k1, .int .i64 o.into.2.1.2, .slice i2 j2 k2, .int .i64 o.into.2.2.2, .bool o.from_.1, .slice f1 g1 h1, .int .i64 o.from_.2.1.2, .slice f2 g2 h2, .int .i64 o.from_.2.2.2] : Array Value).all (·.oneCell') = true := by rw [← Array.all_toList]; rfl
        have HZU := Lib.hid (blk_below HZ2.out LU.out)
        go_wp2_with (first | (refine wpList_load_row rfl 35 _ rfl _ rfl 35 _ (0, 0) _ BX.out Try.underlying35 rfl op_info ?_) | (refine wpList_store_row rfl 35 _ _ rfl _ _ rfl rfl 35 _ HZU.out op_info rfl zh1 ?_))
        have zz1 := setRow_heap V3 (w.heap.size + 1) _ #[.int .i64 (unK o.kind), .slice av (backL o.path).length cv, .slice a2 o.dest.length c2, .int .i64 o.pos, .bool o.node.leaf, .slice p1 m1 d1, .slice p2 m2 d2, .slice p3 m3 d3, .slice a6 o.new.length c6, .slice a5 o.old.length c5, .slice a7 o.text.length c7, .bool o.into.1, .slice i1 j1 k1, .int .i64 o.into.2.1.2, .slice i2 j2 k2, .int .i64 o.into.2.2.2, .bool o.from_.1, .slice f1 g1 h1, .int .i64 o.from_.2.1.2, .slice f2 g2 h2, .int .i64 o.from_.2.2.2] _ (0, 0) HZU.out
        have hgg := HG.out; have hww := HWS.out; have hs1 := HS1.out; have hge := HGE.out
        have zz3 : Below w.heap.size w (V3.setRow (w.heap.size + 1) #[.int .i64 (unK o.kind), .slice av (backL o.path).length cv, .slice a2 o.dest.length c2, .int .i64 o.pos, .bool o.node.leaf, .slice p1 m1 d1, .slice p2 m2 d2, .slice p3 m3 d3, .slice a6 o.new.length c6, .slice a5 o.old.length c5, .slice a7 o.text.length c7, .bool o.into.1, .slice i1 j1 k1, .int .i64 o.into.2.1.2, .slice i2 j2 k2, .int .i64 o.into.2.2.2, .bool o.from_.1, .slice f1 g1 h1, .int .i64 o.from_.2.1.2, .slice f2 g2 h2, .int .i64 o.from_.2.2.2]) := (gr_tr HB2.out LU.out).trans ⟨rfl, rfl, rfl, by simp, fun b hb => setRow_other V3 _ b _ (by omega)⟩
        have zz2 : ∀ b, w1.heap.size ≤ b → (V3.setRow (w.heap.size + 1) #[.int .i64 (unK o.kind), .slice av (backL o.path).length cv, .slice a2 o.dest.length c2, .int .i64 o.pos, .bool o.node.leaf, .slice p1 m1 d1, .slice p2 m2 d2, .slice p3 m3 d3, .slice a6 o.new.length c6, .slice a5 o.old.length c5, .slice a7 o.text.length c7, .bool o.into.1, .slice i1 j1 k1, .int .i64 o.into.2.1.2, .slice i2 j2 k2, .int .i64 o.into.2.2.2, .bool o.from_.1, .slice f1 g1 h1, .int .i64 o.from_.2.1.2, .slice f2 g2 h2, .int .i64 o.from_.2.2.2]).heap[b]? = V3.heap[b]? := fun b hb => setRow_other V3 _ b _ (by omega)
        have rd := (HR2.out.keep (w' := V3.setRow (w.heap.size + 1) #[.int .i64 (unK o.kind), .slice av (backL o.path).length cv, .slice a2 o.dest.length c2, .int .i64 o.pos, .bool o.node.leaf, .slice p1 m1 d1, .slice p2 m2 d2, .slice p3 m3 d3, .slice a6 o.new.length c6, .slice a5 o.old.length c5, .slice a7 o.text.length c7, .bool o.into.1, .slice i1 j1 k1, .int .i64 o.into.2.1.2, .slice i2 j2 k2, .int .i64 o.into.2.2.2, .bool o.from_.1, .slice f1 g1 h1, .int .i64 o.from_.2.1.2, .slice f2 g2 h2, .int .i64 o.from_.2.2.2]) fun b hb hb2 => (zz2 b hb).trans (LU.out.block b hb2)).mono (show w.heap.size ≤ w1.heap.size by omega)
        have hrun := run_loadVar_row (P := Try.prog) _ _ _ 35 _ _ _ zz1 Try.underlying35 rfl op_info
        (try simp only [Exit.inBlock, Exit.then])
        refine bodyPost_ret (v := .tuple #[.agg #[.int .i64 (unK o.kind), .slice av (backL o.path).length cv, .slice a2 o.dest.length c2, .int .i64 o.pos, .bool o.node.leaf, .slice p1 m1 d1, .slice p2 m2 d2, .slice p3 m3 d3, .slice a6 o.new.length c6, .slice a5 o.old.length c5, .slice a7 o.text.length c7, .bool o.into.1, .slice i1 j1 k1, .int .i64 o.into.2.1.2, .slice i2 j2 k2, .int .i64 o.into.2.2.2, .bool o.from_.1, .slice f1 g1 h1, .int .i64 o.from_.2.1.2, .slice f2 g2 h2, .int .i64 o.from_.2.2.2], .int .i64 0]) ?_ ?_ ?_
        · simp [results, Try.results11, asAddr, hrun]
        · rfl
        rw [HEQ.out, HOQ.out]
        exact ⟨_, rfl, ⟨_, _, _, _, _, _, _, _, _, _, _, _, _, _, _, _, _, _, _, _, _, _, _, _, _, _, _, _, _, _, _, rfl, ⟨(own_keepB OU.out fun b hb => zz2 b (by have := LW.out.size; have := HS12.out; omega)).mono (by have := LW.out.size; have := HS12.out; omega), rd.dest, rd.node, rd.new, rd.old, rd.text, rd.ia, rd.ib, rd.fa, rd.fb⟩⟩, zz3⟩
    have q3 : (o.kind == 3) = false := by rw [beq_eq_false_iff_ne]; exact hk3
    by_cases hk4 : o.kind = 4
    case pos =>
      have q4 : (o.kind == 4) = true := by simpa using hk4
      have HK4 := Lib.hid hk4
      clear hk4
      have HC := Lib.hid (next_any o.path _ V2 HIPV.out HI.out)
      go_wp2_with fail
      refine HC.out.mono ?_
      rintro e u ⟨v', rfl, ho, hb⟩
      obtain ⟨av, cv, hav⟩ := ho.ints.slice
      subst hav
      have LU := Lib.hid (gr_tr LW.out hb); have BU := Lib.hid (blk_below BX.out hb); have OU := Lib.hid ho; have HSU := Lib.hid hb.size
      clear ho hb HC kc pc BX
      by_cases he : nextE o.path = 0
      case neg =>
        have HEQ : Hid (EE = nextE o.path) := Lib.hid (by rw [← HEE.out, invE, if_neg (by rw [HFE.out]; decide), if_neg hk3, if_pos HK4.out])
        have HOQ : Hid (OO = zeroO) := Lib.hid (by rw [← HOO.out, invO, if_pos (by rw [HEE.out, HEQ.out]; exact he)])
        have q : (nextE o.path != 0) = true := by simpa using he
        have HZU := Lib.hid (blk_below HZ2.out LU.out); have HBU := Lib.hid (gr_tr HB2.out LU.out)
        clear he
        have zh1 : (#[.int .i64 0, .slice none 0 0, .slice none 0 0, .int .i64 0, .bool false, .slice none 0 0, .slice none 0 0, .slice none 0 0, .slice none 0 0, .slice none 0 0, .slice none 0 0, .bool false, .slice none 0 0, .int .i64 0, .slice none 0 0, .int .i64 0, .bool false, .slice none 0 0, .int .i64 0, .slice none 0 0, .int .i64 0] : Array Value).all (·.oneCell') = true := by rw [← Array.all_toList]; rfl
        go_wp2_with (refine wpList_store_row rfl 35 _ _ rfl _ _ rfl rfl 35 _ HZU.out op_info rfl zh1 ?_)
        have zz1 := setRow_heap u (w.heap.size + 1) _ #[.int .i64 0, .slice none 0 0, .slice none 0 0, .int .i64 0, .bool false, .slice none 0 0, .slice none 0 0, .slice none 0 0, .slice none 0 0, .slice none 0 0, .slice none 0 0, .bool false, .slice none 0 0, .int .i64 0, .slice none 0 0, .int .i64 0, .bool false, .slice none 0 0, .int .i64 0, .slice none 0 0, .int .i64 0] _ (0, 0) HZU.out
        have zz3 : Below w.heap.size w (u.setRow (w.heap.size + 1) #[.int .i64 0, .slice none 0 0, .slice none 0 0, .int .i64 0, .bool false, .slice none 0 0, .slice none 0 0, .slice none 0 0, .slice none 0 0, .slice none 0 0, .slice none 0 0, .bool false, .slice none 0 0, .int .i64 0, .slice none 0 0, .int .i64 0, .bool false, .slice none 0 0, .int .i64 0, .slice none 0 0, .int .i64 0]) := HBU.out.trans ⟨rfl, rfl, rfl, by simp, fun b hb => setRow_other u _ b _ (by omega)⟩
        have hrun := run_loadVar_row (P := Try.prog) _ _ _ 35 _ _ _ zz1 Try.underlying35 rfl op_info
        (try simp only [Exit.inBlock, Exit.then])
        refine bodyPost_ret (v := .tuple #[.agg #[.int .i64 0, .slice none 0 0, .slice none 0 0, .int .i64 0, .bool false, .slice none 0 0, .slice none 0 0, .slice none 0 0, .slice none 0 0, .slice none 0 0, .slice none 0 0, .bool false, .slice none 0 0, .int .i64 0, .slice none 0 0, .int .i64 0, .bool false, .slice none 0 0, .int .i64 0, .slice none 0 0, .int .i64 0], .int .i64 (nextE o.path)]) ?_ ?_ ?_
        · simp [results, Try.results11, asAddr, hrun]
        · rfl
        exact InvN.zero HOQ.out HEQ.out zz3
      case pos =>
        have HEQ : Hid (EE = 0) := Lib.hid (by rw [← HEE.out, invE, if_neg (by rw [HFE.out]; decide), if_neg hk3, if_pos HK4.out, he])
        have HOQ : Hid (OO = { undoO o with path := nextL o.path }) := Lib.hid (by rw [← HOO.out, invO, if_neg (by rw [HEE.out, HEQ.out]; decide), if_neg hk5, if_neg hk3, if_pos HK4.out])
        rw [he]
        have y1 := (op_facts BU.out).2.1; have z1 := frozen_of_row u g5 1 _ _ BU.out
        have q1 : (u.setCell ⟨g5, 1, none⟩ (.slice av (nextL o.path).length cv)).heap[g5]? = some (.cells #[.int .i64 (unK o.kind), .slice av (nextL o.path).length cv, .slice a2 o.dest.length c2, .int .i64 o.pos, .bool o.node.leaf, .slice p1 m1 d1, .slice p2 m2 d2, .slice p3 m3 d3, .slice a6 o.new.length c6, .slice a5 o.old.length c5, .slice a7 o.text.length c7, .bool o.into.1, .slice i1 j1 k1, .int .i64 o.into.2.1.2, .slice i2 j2 k2, .int .i64 o.into.2.2.2, .bool o.from_.1, .slice f1 g1 h1, .int .i64 o.from_.2.1.2, .slice f2 g2 h2, .int .i64 o.from_.2.2.2] 35 (0, 0)) := heap_setCell_same _ g5 1 _ _ (.slice av (nextL o.path).length cv) BU.out
        have q2 : Below w2.heap.size w2 (u.setCell ⟨g5, 1, none⟩ (.slice av (nextL o.path).length cv)) := LU.out.setCell (p := ⟨g5, 1, none⟩) (Nat.le_of_eq HGE.out) (.slice av (nextL o.path).length cv)
        have q3' := OU.out.setBelow (a := ⟨g5, 1, none⟩) HGV.out (.slice av (nextL o.path).length cv)
        have Q1 := Lib.hid q1; have Q2 := Lib.hid q2; have Q3 := Lib.hid q3'; clear q1 q2 q3' he BU OU LU
        go_upto_region 19 with fail
        have BX := Lib.hid Q1.out; have LU := Lib.hid Q2.out; have OU := Lib.hid Q3.out; clear Q1 Q2 Q3 y1 z1
        generalize World.setCell u _ _ = V3 at *
        have zh1 : (#[.int .i64 (unK o.kind), .slice av (nextL o.path).length cv, .slice a2 o.dest.length c2, .int .i64 o.pos, .bool o.node.leaf, .slice p1 m1 d1, .slice p2 m2 d2, .slice p3 m3 d3, .slice a6 o.new.length c6, .slice a5 o.old.length c5, .slice a7 o.text.length c7, .bool o.into.1, .slice i1 j1 k1, .int .i64 o.into.2.1.2, .slice i2 j2 k2, .int .i64 o.into.2.2.2, .bool o.from_.1, .slice f1 g1 h1, .int .i64 o.from_.2.1.2, .slice f2 g2 h2, .int .i64 o.from_.2.2.2] : Array Value).all (·.oneCell') = true := by rw [← Array.all_toList]; rfl
        have HZU := Lib.hid (blk_below HZ2.out LU.out)
        go_wp2_with (first | (refine wpList_load_row rfl 35 _ rfl _ rfl 35 _ (0, 0) _ BX.out Try.underlying35 rfl op_info ?_) | (refine wpList_store_row rfl 35 _ _ rfl _ _ rfl rfl 35 _ HZU.out op_info rfl zh1 ?_))
        have zz1 := setRow_heap V3 (w.heap.size + 1) _ #[.int .i64 (unK o.kind), .slice av (nextL o.path).length cv, .slice a2 o.dest.length c2, .int .i64 o.pos, .bool o.node.leaf, .slice p1 m1 d1, .slice p2 m2 d2, .slice p3 m3 d3, .slice a6 o.new.length c6, .slice a5 o.old.length c5, .slice a7 o.text.length c7, .bool o.into.1, .slice i1 j1 k1, .int .i64 o.into.2.1.2, .slice i2 j2 k2, .int .i64 o.into.2.2.2, .bool o.from_.1, .slice f1 g1 h1, .int .i64 o.from_.2.1.2, .slice f2 g2 h2, .int .i64 o.from_.2.2.2] _ (0, 0) HZU.out
        have hgg := HG.out; have hww := HWS.out; have hs1 := HS1.out; have hge := HGE.out
        have zz3 : Below w.heap.size w (V3.setRow (w.heap.size + 1) #[.int .i64 (unK o.kind), .slice av (nextL o.path).length cv, .slice a2 o.dest.length c2, .int .i64 o.pos, .bool o.node.leaf, .slice p1 m1 d1, .slice p2 m2 d2, .slice p3 m3 d3, .slice a6 o.new.length c6, .slice a5 o.old.length c5, .slice a7 o.text.length c7, .bool o.into.1, .slice i1 j1 k1, .int .i64 o.into.2.1.2, .slice i2 j2 k2, .int .i64 o.into.2.2.2, .bool o.from_.1, .slice f1 g1 h1, .int .i64 o.from_.2.1.2, .slice f2 g2 h2, .int .i64 o.from_.2.2.2]) := (gr_tr HB2.out LU.out).trans ⟨rfl, rfl, rfl, by simp, fun b hb => setRow_other V3 _ b _ (by omega)⟩
        have zz2 : ∀ b, w1.heap.size ≤ b → (V3.setRow (w.heap.size + 1) #[.int .i64 (unK o.kind), .slice av (nextL o.path).length cv, .slice a2 o.dest.length c2, .int .i64 o.pos, .bool o.node.leaf, .slice p1 m1 d1, .slice p2 m2 d2, .slice p3 m3 d3, .slice a6 o.new.length c6, .slice a5 o.old.length c5, .slice a7 o.text.length c7, .bool o.into.1, .slice i1 j1 k1, .int .i64 o.into.2.1.2, .slice i2 j2 k2, .int .i64 o.into.2.2.2, .bool o.from_.1, .slice f1 g1 h1, .int .i64 o.from_.2.1.2, .slice f2 g2 h2, .int .i64 o.from_.2.2.2]).heap[b]? = V3.heap[b]? := fun b hb => setRow_other V3 _ b _ (by omega)
        have rd := (HR2.out.keep (w' := V3.setRow (w.heap.size + 1) #[.int .i64 (unK o.kind), .slice av (nextL o.path).length cv, .slice a2 o.dest.length c2, .int .i64 o.pos, .bool o.node.leaf, .slice p1 m1 d1, .slice p2 m2 d2, .slice p3 m3 d3, .slice a6 o.new.length c6, .slice a5 o.old.length c5, .slice a7 o.text.length c7, .bool o.into.1, .slice i1 j1 k1, .int .i64 o.into.2.1.2, .slice i2 j2 k2, .int .i64 o.into.2.2.2, .bool o.from_.1, .slice f1 g1 h1, .int .i64 o.from_.2.1.2, .slice f2 g2 h2, .int .i64 o.from_.2.2.2]) fun b hb hb2 => (zz2 b hb).trans (LU.out.block b hb2)).mono (show w.heap.size ≤ w1.heap.size by omega)
        have hrun := run_loadVar_row (P := Try.prog) _ _ _ 35 _ _ _ zz1 Try.underlying35 rfl op_info
        (try simp only [Exit.inBlock, Exit.then])
        refine bodyPost_ret (v := .tuple #[.agg #[.int .i64 (unK o.kind), .slice av (nextL o.path).length cv, .slice a2 o.dest.length c2, .int .i64 o.pos, .bool o.node.leaf, .slice p1 m1 d1, .slice p2 m2 d2, .slice p3 m3 d3, .slice a6 o.new.length c6, .slice a5 o.old.length c5, .slice a7 o.text.length c7, .bool o.into.1, .slice i1 j1 k1, .int .i64 o.into.2.1.2, .slice i2 j2 k2, .int .i64 o.into.2.2.2, .bool o.from_.1, .slice f1 g1 h1, .int .i64 o.from_.2.1.2, .slice f2 g2 h2, .int .i64 o.from_.2.2.2], .int .i64 0]) ?_ ?_ ?_
        · simp [results, Try.results11, asAddr, hrun]
        · rfl
        rw [HEQ.out, HOQ.out]
        exact ⟨_, rfl, ⟨_, _, _, _, _, _, _, _, _, _, _, _, _, _, _, _, _, _, _, _, _, _, _, _, _, _, _, _, _, _, _, rfl, ⟨(own_keepB OU.out fun b hb => zz2 b (by have := LW.out.size; have := HS12.out; omega)).mono (by have := LW.out.size; have := HS12.out; omega), rd.dest, rd.node, rd.new, rd.old, rd.text, rd.ia, rd.ib, rd.fa, rd.fb⟩⟩, zz3⟩
    have q4 : (o.kind == 4) = false := by rw [beq_eq_false_iff_ne]; exact hk4
    have HEQ : Hid (EE = 0) := Lib.hid (by rw [← HEE.out, invE, if_neg (by rw [HFE.out]; decide), if_neg hk3, if_neg hk4])
    have HOQ : Hid (OO = undoO o) := Lib.hid (by rw [← HOO.out, invO, if_neg (by rw [HEE.out, HEQ.out]; decide), if_neg hk5, if_neg hk3, if_neg hk4])
    have zh1 : (#[.int .i64 (unK o.kind), .slice a1 o.path.length c1, .slice a2 o.dest.length c2, .int .i64 o.pos, .bool o.node.leaf, .slice p1 m1 d1, .slice p2 m2 d2, .slice p3 m3 d3, .slice a6 o.new.length c6, .slice a5 o.old.length c5, .slice a7 o.text.length c7, .bool o.into.1, .slice i1 j1 k1, .int .i64 o.into.2.1.2, .slice i2 j2 k2, .int .i64 o.into.2.2.2, .bool o.from_.1, .slice f1 g1 h1, .int .i64 o.from_.2.1.2, .slice f2 g2 h2, .int .i64 o.from_.2.2.2] : Array Value).all (·.oneCell') = true := by rw [← Array.all_toList]; rfl
    have HZU := Lib.hid (blk_below HZ2.out LW.out)
    go_wp2_with (first | (refine wpList_load_row rfl 35 _ rfl _ rfl 35 _ (0, 0) _ BX.out Try.underlying35 rfl op_info ?_) | (refine wpList_store_row rfl 35 _ _ rfl _ _ rfl rfl 35 _ HZU.out op_info rfl zh1 ?_))
    have zz1 := setRow_heap V2 (w.heap.size + 1) _ #[.int .i64 (unK o.kind), .slice a1 o.path.length c1, .slice a2 o.dest.length c2, .int .i64 o.pos, .bool o.node.leaf, .slice p1 m1 d1, .slice p2 m2 d2, .slice p3 m3 d3, .slice a6 o.new.length c6, .slice a5 o.old.length c5, .slice a7 o.text.length c7, .bool o.into.1, .slice i1 j1 k1, .int .i64 o.into.2.1.2, .slice i2 j2 k2, .int .i64 o.into.2.2.2, .bool o.from_.1, .slice f1 g1 h1, .int .i64 o.from_.2.1.2, .slice f2 g2 h2, .int .i64 o.from_.2.2.2] _ (0, 0) HZU.out
    have hgg := HG.out; have hww := HWS.out; have hs1 := HS1.out; have hge := HGE.out
    have zz3 : Below w.heap.size w (V2.setRow (w.heap.size + 1) #[.int .i64 (unK o.kind), .slice a1 o.path.length c1, .slice a2 o.dest.length c2, .int .i64 o.pos, .bool o.node.leaf, .slice p1 m1 d1, .slice p2 m2 d2, .slice p3 m3 d3, .slice a6 o.new.length c6, .slice a5 o.old.length c5, .slice a7 o.text.length c7, .bool o.into.1, .slice i1 j1 k1, .int .i64 o.into.2.1.2, .slice i2 j2 k2, .int .i64 o.into.2.2.2, .bool o.from_.1, .slice f1 g1 h1, .int .i64 o.from_.2.1.2, .slice f2 g2 h2, .int .i64 o.from_.2.2.2]) := (gr_tr HB2.out LW.out).trans ⟨rfl, rfl, rfl, by simp, fun b hb => setRow_other V2 _ b _ (by omega)⟩
    have zz2 : ∀ b, w1.heap.size ≤ b → (V2.setRow (w.heap.size + 1) #[.int .i64 (unK o.kind), .slice a1 o.path.length c1, .slice a2 o.dest.length c2, .int .i64 o.pos, .bool o.node.leaf, .slice p1 m1 d1, .slice p2 m2 d2, .slice p3 m3 d3, .slice a6 o.new.length c6, .slice a5 o.old.length c5, .slice a7 o.text.length c7, .bool o.into.1, .slice i1 j1 k1, .int .i64 o.into.2.1.2, .slice i2 j2 k2, .int .i64 o.into.2.2.2, .bool o.from_.1, .slice f1 g1 h1, .int .i64 o.from_.2.1.2, .slice f2 g2 h2, .int .i64 o.from_.2.2.2]).heap[b]? = V2.heap[b]? := fun b hb => setRow_other V2 _ b _ (by omega)
    have rd := (HR2.out.keep (w' := V2.setRow (w.heap.size + 1) #[.int .i64 (unK o.kind), .slice a1 o.path.length c1, .slice a2 o.dest.length c2, .int .i64 o.pos, .bool o.node.leaf, .slice p1 m1 d1, .slice p2 m2 d2, .slice p3 m3 d3, .slice a6 o.new.length c6, .slice a5 o.old.length c5, .slice a7 o.text.length c7, .bool o.into.1, .slice i1 j1 k1, .int .i64 o.into.2.1.2, .slice i2 j2 k2, .int .i64 o.into.2.2.2, .bool o.from_.1, .slice f1 g1 h1, .int .i64 o.from_.2.1.2, .slice f2 g2 h2, .int .i64 o.from_.2.2.2]) fun b hb hb2 => (zz2 b hb).trans (LW.out.block b hb2)).mono (show w.heap.size ≤ w1.heap.size by omega)
    have hrun := run_loadVar_row (P := Try.prog) _ _ _ 35 _ _ _ zz1 Try.underlying35 rfl op_info
    (try simp only [Exit.inBlock, Exit.then])
    refine bodyPost_ret (v := .tuple #[.agg #[.int .i64 (unK o.kind), .slice a1 o.path.length c1, .slice a2 o.dest.length c2, .int .i64 o.pos, .bool o.node.leaf, .slice p1 m1 d1, .slice p2 m2 d2, .slice p3 m3 d3, .slice a6 o.new.length c6, .slice a5 o.old.length c5, .slice a7 o.text.length c7, .bool o.into.1, .slice i1 j1 k1, .int .i64 o.into.2.1.2, .slice i2 j2 k2, .int .i64 o.into.2.2.2, .bool o.from_.1, .slice f1 g1 h1, .int .i64 o.from_.2.1.2, .slice f2 g2 h2, .int .i64 o.from_.2.2.2], .int .i64 0]) ?_ ?_ ?_
    · simp [results, Try.results11, asAddr, hrun]
    · rfl
    rw [HEQ.out, HOQ.out]
    exact ⟨_, rfl, ⟨_, _, _, _, _, _, _, _, _, _, _, _, _, _, _, _, _, _, _, _, _, _, _, _, _, _, _, _, _, _, _, rfl, ⟨rd.path, rd.dest, rd.node, rd.new, rd.old, rd.text, rd.ia, rd.ib, rd.fa, rd.fb⟩⟩, zz3⟩
theorem binv_any (o : OpF) (v : Value) (w : World) (h : OpV w v o) (hk : -9223372036854775808 ≤ o.kind ∧ o.kind ≤ 9223372036854775807) (hi : I64 o.path) (hOWN : ∀ (o : OpF) (v : Value) (w : World), OpV w v o → Calls Try.prog 26 #[v] w (OwnP o w)) : Calls Try.prog 11 #[v] w (InvP (invO o) (invE o) w) :=
  (binv_n o v w h hk hi hOWN).mono fun _ _ h => h.p
end Go.Proofs.Ytcbljiiomnhbjaa
