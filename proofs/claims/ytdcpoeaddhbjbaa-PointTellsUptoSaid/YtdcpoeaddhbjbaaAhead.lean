/- Walks of point.Ahead and point.Behind. -/
import Derived.Test.YtdcpoeaddhbjbaaAheadC
import Derived.Test.YtdcpoeaddhbjbaaLast
namespace Go.Proofs.Ytdcpoeaddhbjbaa
set_option maxRecDepth 100000
open Go.RowKit

theorem NF.drewB {b : Nat} {x0 x1 x2 x3 : Value} {w w' : World} (h : NF b x0 x1 x2 x3 w) (hb : Below w.heap.size w w') : NF b x0 x1 x2 x3 w' := h.later hb
/-- The boxes of a node, of a path, of a point. -/
theorem three_box (w : World) (cs : Array Value) (pv : Value) : Below w.heap.size w (((w.alloc (.cells cs 26)).alloc (.cells #[pv] 27)).alloc (.cells #[.slice none 0 0, .int .i64 0] 35)) ∧
    (((w.alloc (.cells cs 26)).alloc (.cells #[pv] 27)).alloc (.cells #[.slice none 0 0, .int .i64 0] 35)).heap[w.heap.size]? = some (.cells cs 26 (0, 0)) ∧
    (((w.alloc (.cells cs 26)).alloc (.cells #[pv] 27)).alloc (.cells #[.slice none 0 0, .int .i64 0] 35)).heap[w.heap.size + 1]? = some (.cells #[pv] 27 (0, 0)) ∧
    (((w.alloc (.cells cs 26)).alloc (.cells #[pv] 27)).alloc (.cells #[.slice none 0 0, .int .i64 0] 35)).heap[w.heap.size + 1 + 1]? = some (.cells #[.slice none 0 0, .int .i64 0] 35 (0, 0)) := by
  obtain ⟨h1, h2, h3⟩ := two_boxes w cs #[pv] 26 27
  have hs : ((w.alloc (.cells cs 26)).alloc (.cells #[pv] 27)).heap.size = w.heap.size + 1 + 1 := by simp
  generalize (w.alloc (.cells cs 26)).alloc (.cells #[pv] 27) = V at *
  refine ⟨gr_al h1 _, blk_below h2 (gr_al (gr_refl V) _), blk_below h3 (gr_al (gr_refl V) _), ?_⟩
  have := heap_alloc_new V (.cells #[.slice none 0 0, .int .i64 0] 35)
  rwa [hs] at this
theorem i64_sub {t : Tree} {f : List Int → Bool} (h : sizeT t ≤ 1500000) : ∀ p ∈ (leavesL t).filter f, I64 p := fun p hp => leavesL_i64 t h p (List.mem_filter.1 hp).1
theorem len_sub {t : Tree} {f : List Int → Bool} (h : sizeT t ≤ 1500000) : ((leavesL t).filter f).length * 24 ≤ 140737488351232 := by
  have := List.length_filter_le f (leavesL t)
  have := leavesL_len t h
  omega

set_option maxHeartbeats 2000000 in
theorem ahead_own (S : Nat → Prop) (t : Tree) (cs : List Value) (p : List Int) (v : Value) (w : World) (h : NodeAt S w cs t) (hp : Ints w v p) (hs : sizeT t ≤ 1500000) :
    Calls Try.prog 45 #[.agg (List.toArray cs), v] w (fun e w' => ∃ a n c, e = .returned (.tuple #[.agg #[.slice a n c, .int .i64 (edgeR t ((leavesL t).filter (fun q => !(decide (0 ≤ cmpI q p) || aboveB q p))) true).2.1], .int .i64 (edgeR t ((leavesL t).filter (fun q => !(decide (0 ≤ cmpI q p) || aboveB q p))) true).2.2]) ∧ Own w' w.heap.size (.slice a n c) (edgeR t ((leavesL t).filter (fun q => !(decide (0 ≤ cmpI q p) || aboveB q p))) true).1 ∧ Below w.heap.size w w') := by
  obtain ⟨a1, n1, c1, a2, n2, c2, a3, n3, c3, rfl⟩ := h.form
  obtain ⟨pa, pn, pc, rfl⟩ := hp.slice3
  obtain ⟨hbw, hbox, hpx, hblk⟩ := three_box w #[.bool t.leaf, .slice a1 n1 c1, .slice a2 n2 c2, .slice a3 n3 c3] (.slice pa pn pc)
  have hnW := h.boxed hbw
  have hpW := hp.below hbw (Nat.le_refl _)
  have HB := Lib.hid hbw; have HK := Lib.hid hblk; have HX := Lib.hid hbox; have HN := Lib.hid hnW; have HS := Lib.hid hs; have HP := Lib.hid hpW; have HPX := Lib.hid hpx
  clear h hp hbw hblk hbox hnW hpW hpx
  obtain ⟨F, hF⟩ : ∃ F, (leavesL t).filter (fun q => !(decide (0 ≤ cmpI q p) || aboveB q p)) = F := ⟨_, rfl⟩
  have HI : Hid (∀ p ∈ F, I64 p) := Lib.hid (by rw [← hF]; exact i64_sub HS.out)
  have HL : Hid (F.length * 24 ≤ 140737488351232) := Lib.hid (by rw [← hF]; exact len_sub HS.out)
  rw [hF]
  have HFF := Lib.hid hF
  clear hF
  go_enter Try.func45, Try.ntmps45
  go_upto_region 1 with fail
  generalize World.alloc (World.alloc (World.alloc w _) _) _ = W at *
  obtain ⟨⟨k0, k1, k2, k3⟩, _⟩ := four_facts HX.out
  have HC := Lib.hid (leaves_any S t _ W HN.out hs)
  have hcp : W.cell? ⟨w.heap.size + 1, 0, none⟩ = some (.slice pa pn pc) := by
    rw [cell_of_row _ (w.heap.size + 1) 0 _ _ (0, 0) HPX.out]
    rfl
  have HF := Lib.hid (pred_ahead (w.heap.size + 1) _ p W hcp HP.out)
  have HE := Lib.hid (show ∀ args w, (callFunc 86 args).run Try.prog w = .ok (.enter 86 args) w from enters_of Try.func86 (by kernel_rfl) rfl)
  have hne : w.heap.size + 1 + 1 ≠ w.heap.size := by omega
  clear hcp
  go_wp2_with (first
      | (go_at_call 23; refine HC.out.mono ?_; rintro e w1 ⟨v1, rfl, ho1, hb1⟩)
      | (go_at_call 85; refine (delf_any _ _ _ HE.out W.heap.size W.heap.size (Nat.le_refl _) _ _ W _ ho1 HF.out hb1).mono ?_; rintro e w2 ⟨v2, rfl, ho2, hb2⟩; change OwnL w2 _ v2 ((leavesL t).filter (fun q => !(decide (0 ≤ cmpI q p) || aboveB q p))) at ho2; rw [HFF.out] at ho2; replace hb2 := hb1.trans hb2; clear k0 k1 k2 k3; obtain ⟨⟨k0, k1, k2, k3⟩, _⟩ := four_facts (blk_below HX.out hb2))
      | (go_at_call 82; refine (edge_any S t _ _ _ true _ (HN.out.boxed hb2) (ho2.ints HL.out) HI.out _ ho2.each).mono ?_; rintro e w3 ⟨ak, nk, ck, rfl, ⟨_, hi3⟩, hb3⟩; obtain ⟨⟨q0, q1⟩, ⟨r0, r1⟩⟩ := two_facts (blk_below (blk_below HK.out hb2) hb3)))
  have hlt := lt_of_block HK.out
  have hsz2 := hb2.size
  have hbz := gr_tr (gr_tr HB.out hb2) hb3
  have hblk2 := blk_below (blk_below HK.out hb2) hb3
  have HFB := Lib.hid (two_block hblk2 (.slice ak nk ck) (.int .i64 (edgeR t F true).2.1))
  have HWB := Lib.hid (two_below (u0 := .slice ak nk ck) (u1 := .int .i64 (edgeR t F true).2.1) hbz (show w.heap.size ≤ w.heap.size + 1 + 1 by omega))
  have HV := Lib.hid ((OwnKeep.put2 (hi3.below hb3 (Nat.le_refl _)) (u0 := .slice ak nk ck) (u1 := .int .i64 (edgeR t F true).2.1) (show w.heap.size + 1 + 1 < W.heap.size from hlt)).mono (show w.heap.size ≤ W.heap.size by omega))
  clear hbz hblk2 hi3 hb2 hb3 ho1 ho2 q0 q1 r0 r1
  have hf := HFB.out; have hw := HWB.out; have hv := HV.out
  simp only [put2] at hf hw hv
  generalize World.setCell (World.setCell w3 _ _) _ _ = wf at *
  obtain ⟨⟨j0, j1⟩, _⟩ := two_facts hf
  exact bodyPost_ret (v := .tuple #[.agg #[.slice ak nk ck, .int .i64 (edgeR t F true).2.1], .int .i64 (edgeR t F true).2.2]) (by simp [results, Try.results45, go_sem, j0, j1]) rfl ⟨ak, nk, ck, rfl, hv, hw⟩

set_option maxHeartbeats 2000000 in
theorem behind_own (S : Nat → Prop) (t : Tree) (cs : List Value) (p : List Int) (v : Value) (w : World) (h : NodeAt S w cs t) (hp : Ints w v p) (hs : sizeT t ≤ 1500000) :
    Calls Try.prog 47 #[.agg (List.toArray cs), v] w (fun e w' => ∃ a n c, e = .returned (.tuple #[.agg #[.slice a n c, .int .i64 (edgeR t ((leavesL t).filter (fun q => !decide (cmpI q p < 0))) false).2.1], .int .i64 (edgeR t ((leavesL t).filter (fun q => !decide (cmpI q p < 0))) false).2.2]) ∧ Own w' w.heap.size (.slice a n c) (edgeR t ((leavesL t).filter (fun q => !decide (cmpI q p < 0))) false).1 ∧ Below w.heap.size w w') := by
  obtain ⟨a1, n1, c1, a2, n2, c2, a3, n3, c3, rfl⟩ := h.form
  obtain ⟨pa, pn, pc, rfl⟩ := hp.slice3
  obtain ⟨hbw, hbox, hpx, hblk⟩ := three_box w #[.bool t.leaf, .slice a1 n1 c1, .slice a2 n2 c2, .slice a3 n3 c3] (.slice pa pn pc)
  have hnW := h.boxed hbw
  have hpW := hp.below hbw (Nat.le_refl _)
  have HB := Lib.hid hbw; have HK := Lib.hid hblk; have HX := Lib.hid hbox; have HN := Lib.hid hnW; have HS := Lib.hid hs; have HP := Lib.hid hpW; have HPX := Lib.hid hpx
  clear h hp hbw hblk hbox hnW hpW hpx
  obtain ⟨F, hF⟩ : ∃ F, (leavesL t).filter (fun q => !decide (cmpI q p < 0)) = F := ⟨_, rfl⟩
  have HI : Hid (∀ p ∈ F, I64 p) := Lib.hid (by rw [← hF]; exact i64_sub HS.out)
  have HL : Hid (F.length * 24 ≤ 140737488351232) := Lib.hid (by rw [← hF]; exact len_sub HS.out)
  rw [hF]
  have HFF := Lib.hid hF
  clear hF
  go_enter Try.func47, Try.ntmps47
  go_upto_region 1 with fail
  generalize World.alloc (World.alloc (World.alloc w _) _) _ = W at *
  obtain ⟨⟨k0, k1, k2, k3⟩, _⟩ := four_facts HX.out
  have HC := Lib.hid (leaves_any S t _ W HN.out hs)
  have hcp : W.cell? ⟨w.heap.size + 1, 0, none⟩ = some (.slice pa pn pc) := by
    rw [cell_of_row _ (w.heap.size + 1) 0 _ _ (0, 0) HPX.out]
    rfl
  have HF := Lib.hid (pred_behind (w.heap.size + 1) _ p W hcp HP.out)
  have HE := Lib.hid (show ∀ args w, (callFunc 89 args).run Try.prog w = .ok (.enter 89 args) w from enters_of Try.func89 (by kernel_rfl) rfl)
  have hne : w.heap.size + 1 + 1 ≠ w.heap.size := by omega
  clear hcp
  go_wp2_with (first
      | (go_at_call 23; refine HC.out.mono ?_; rintro e w1 ⟨v1, rfl, ho1, hb1⟩)
      | (go_at_call 85; refine (delf_any _ _ _ HE.out W.heap.size W.heap.size (Nat.le_refl _) _ _ W _ ho1 HF.out hb1).mono ?_; rintro e w2 ⟨v2, rfl, ho2, hb2⟩; change OwnL w2 _ v2 ((leavesL t).filter (fun q => !decide (cmpI q p < 0))) at ho2; rw [HFF.out] at ho2; replace hb2 := hb1.trans hb2; clear k0 k1 k2 k3; obtain ⟨⟨k0, k1, k2, k3⟩, _⟩ := four_facts (blk_below HX.out hb2))
      | (go_at_call 82; refine (edge_any S t _ _ _ false _ (HN.out.boxed hb2) (ho2.ints HL.out) HI.out _ ho2.each).mono ?_; rintro e w3 ⟨ak, nk, ck, rfl, ⟨_, hi3⟩, hb3⟩; obtain ⟨⟨q0, q1⟩, ⟨r0, r1⟩⟩ := two_facts (blk_below (blk_below HK.out hb2) hb3)))
  have hlt := lt_of_block HK.out
  have hsz2 := hb2.size
  have hbz := gr_tr (gr_tr HB.out hb2) hb3
  have hblk2 := blk_below (blk_below HK.out hb2) hb3
  have HFB := Lib.hid (two_block hblk2 (.slice ak nk ck) (.int .i64 (edgeR t F false).2.1))
  have HWB := Lib.hid (two_below (u0 := .slice ak nk ck) (u1 := .int .i64 (edgeR t F false).2.1) hbz (show w.heap.size ≤ w.heap.size + 1 + 1 by omega))
  have HV := Lib.hid ((OwnKeep.put2 (hi3.below hb3 (Nat.le_refl _)) (u0 := .slice ak nk ck) (u1 := .int .i64 (edgeR t F false).2.1) (show w.heap.size + 1 + 1 < W.heap.size from hlt)).mono (show w.heap.size ≤ W.heap.size by omega))
  clear hbz hblk2 hi3 hb2 hb3 ho1 ho2 q0 q1 r0 r1
  have hf := HFB.out; have hw := HWB.out; have hv := HV.out
  simp only [put2] at hf hw hv
  generalize World.setCell (World.setCell w3 _ _) _ _ = wf at *
  obtain ⟨⟨j0, j1⟩, _⟩ := two_facts hf
  exact bodyPost_ret (v := .tuple #[.agg #[.slice ak nk ck, .int .i64 (edgeR t F false).2.1], .int .i64 (edgeR t F false).2.2]) (by simp [results, Try.results47, go_sem, j0, j1]) rfl ⟨ak, nk, ck, rfl, hv, hw⟩
theorem ahead_any (S : Nat → Prop) (t : Tree) (cs : List Value) (p : List Int) (v : Value) (w : World) (h : NodeAt S w cs t) (hp : Ints w v p) (hs : sizeT t ≤ 1500000) :
    Calls Try.prog 45 #[.agg (List.toArray cs), v] w (PtPost w (fun _ _ => True) (edgeR t ((leavesL t).filter (fun q => !(decide (0 ≤ cmpI q p) || aboveB q p))) true).1 (edgeR t ((leavesL t).filter (fun q => !(decide (0 ≤ cmpI q p) || aboveB q p))) true).2.1 (edgeR t ((leavesL t).filter (fun q => !(decide (0 ≤ cmpI q p) || aboveB q p))) true).2.2) :=
  (ahead_own S t cs p v w h hp hs).mono fun _ _ ⟨a, n, c, he, ho, hb⟩ => ⟨a, n, c, he, ⟨ho.ints, trivial⟩, hb⟩
theorem behind_any (S : Nat → Prop) (t : Tree) (cs : List Value) (p : List Int) (v : Value) (w : World) (h : NodeAt S w cs t) (hp : Ints w v p) (hs : sizeT t ≤ 1500000) :
    Calls Try.prog 47 #[.agg (List.toArray cs), v] w (PtPost w (fun _ _ => True) (edgeR t ((leavesL t).filter (fun q => !decide (cmpI q p < 0))) false).1 (edgeR t ((leavesL t).filter (fun q => !decide (cmpI q p < 0))) false).2.1 (edgeR t ((leavesL t).filter (fun q => !decide (cmpI q p < 0))) false).2.2) :=
  (behind_own S t cs p v w h hp hs).mono fun _ _ ⟨a, n, c, he, ho, hb⟩ => ⟨a, n, c, he, ⟨ho.ints, trivial⟩, hb⟩
end Go.Proofs.Ytdcpoeaddhbjbaa
