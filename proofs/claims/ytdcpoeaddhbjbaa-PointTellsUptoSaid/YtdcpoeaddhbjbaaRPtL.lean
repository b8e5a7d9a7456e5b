/- Walks of redlineref07.First, Last, Ahead, Behind. -/
import Derived.Test.YtdcpoeaddhbjbaaRPt
import Derived.Test.YtdcpoeaddhbjbaaRList
import Derived.Test.YtdcpoeaddhbjbaaLast
import Derived.Test.YtdcpoeaddhbjbaaDelP
import Derived.IntWalk
namespace Go.Proofs.Ytdcpoeaddhbjbaa
set_option maxRecDepth 100000
open Go.RowKit

theorem edge_snoc {t s : Tree} {q : List Int} {F : List (List Int)} (hg : getT t q = some s) : edgeR t (F ++ [q]) true = (q, (s.text.length : Int), 0) := by
  have h1 : (F ++ [q]).length = F.length + 1 := by simp
  have h2 : (F ++ [q]).getD ((F ++ [q]).length - 1) [] = q := by simp
  rw [edgeR, if_neg (by omega), if_neg (by simp), h2, hg]
theorem edge_lastD {t : Tree} {L : List (List Int)} (h : 0 < L.length) {s : Tree} (hg : getT t (L.getD (L.length - 1) []) = some s) : edgeR t L true = (L.getD (L.length - 1) [], (s.text.length : Int), 0) := by
  rw [edgeR, if_neg (by omega), if_neg (by simp), hg]
theorem edge_head {t : Tree} {q : List Int} {F : List (List Int)} : edgeR t (q :: F) false = (q, 0, 0) := by
  rw [edgeR, if_neg (by simp), if_pos rfl]
  simp
theorem edge_nil {t : Tree} {b : Bool} : edgeR t [] b = ([], 0, 14) := by simp [edgeR]
theorem filter_take {α : Type} (f : α → Bool) (L : List α) (k : Nat) (d : α) (hk : k < L.length) : (L.take (k + 1)).filter f = (L.take k).filter f ++ if f (L.getD k d) then [L.getD k d] else [] := by
  rw [List.take_succ_eq_append_getElem hk, List.filter_append]
  have e : L.getD k d = L[k] := by simp [hk]
  rw [e]
  by_cases h : f L[k] <;> simp [h]
theorem getD_mem' {L : List (List Int)} {k : Nat} (hk : k < L.length) : L.getD k [] ∈ L := by
  have e : L.getD k [] = L[k] := by simp [hk]
  rw [e]
  exact List.getElem_mem _

set_option maxHeartbeats 1000000 in
theorem rfirst_any (S : Nat → Prop) (t : Tree) (cs : List Value) (w : World) (h : NodeAt S w cs t) (hs : sizeT t ≤ 1500000) :
    Calls Try.prog 42 #[.agg (List.toArray cs)] w (PtPost w (fun _ _ => True) (edgeR t (leavesL t) false).1 (edgeR t (leavesL t) false).2.1 (edgeR t (leavesL t) false).2.2) := by
  obtain ⟨a1, n1, c1, a2, n2, c2, a3, n3, c3, rfl⟩ := h.form
  obtain ⟨hbw, hbox, hblk⟩ := two_boxes w #[.bool t.leaf, .slice a1 n1 c1, .slice a2 n2 c2, .slice a3 n3 c3] #[.slice none 0 0, .int .i64 0] 26 35
  have HB := Lib.hid hbw; have HK := Lib.hid hblk; have HX := Lib.hid hbox; have HN := Lib.hid (h.boxed hbw); have HS := Lib.hid hs
  clear h hbw hblk hbox
  obtain ⟨E, hE⟩ : ∃ E, edgeR t (leavesL t) false = E := ⟨_, rfl⟩
  rw [hE]
  have HEE := Lib.hid hE
  clear hE
  go_enter Try.func42, Try.ntmps42
  go_upto_region 1 with fail
  generalize World.alloc _ _ = W at *
  obtain ⟨⟨k0, k1, k2, k3⟩, _⟩ := four_facts HX.out
  have HC := Lib.hid (rleaves_any S t _ W HN.out HS.out)
  have HLN := Lib.hid (leavesL_len t HS.out)
  go_wp2_with fail
  refine HC.out.mono ?_
  rintro e w1 ⟨v1, rfl, ho1, hb1⟩
  change OwnL w1 W.heap.size v1 (leavesL t) at ho1
  obtain ⟨al, cl, rfl, hal⟩ := ho1.slice
  have HL := Lib.hid ho1; have HAL := Lib.hid hal; have HB1 := Lib.hid (gr_tr HB.out hb1); have HK1 := Lib.hid (blk_below HK.out hb1)
  have hlt := lt_of_block HK.out
  clear ho1 hal hb1 HC k0 k1 k2 k3
  obtain ⟨⟨q0, q1⟩, ⟨m0, m1⟩⟩ := two_facts HK1.out
  by_cases h0 : (leavesL t).length = 0
  · have HE : Hid (E = ([], 0, 14)) := Lib.hid (HEE.out.symm.trans <| by rw [List.eq_nil_of_length_eq_zero h0]; exact edge_nil)
    have qz : (((leavesL t).length : Int) == 0) = true := by simp [h0]
    generalize leavesL t = L at *
    have HF := Lib.hid (two_block HK1.out (.slice none 0 0) (.int .i64 0))
    have HW := Lib.hid (two_below (u0 := .slice none 0 0) (u1 := .int .i64 0) HB1.out (show w.heap.size ≤ w.heap.size + 1 by omega))
    clear h0
    go_wp2_with fail
    have hf := HF.out; have hw := HW.out
    simp only [put2] at hf hw
    generalize World.setCell (World.setCell w1 _ _) _ _ = wf at *
    obtain ⟨⟨j0, j1⟩, _⟩ := two_facts hf
    exact bodyPost_ret (v := .tuple #[.agg #[.slice none 0 0, .int .i64 0], .int .i64 14]) (by simp [results, Try.results42, go_sem, j0, j1]) rfl (by rw [HE.out]; exact ⟨none, 0, 0, rfl, ⟨ints_nil _, trivial⟩, hw⟩)
  · have hpos : 0 < (leavesL t).length := by omega
    have qz : (((leavesL t).length : Int) == 0) = false := by rw [beq_eq_false_iff_ne]; omega
    have HE : Hid (E = ((leavesL t).getD 0 [], 0, 0)) := Lib.hid (HEE.out.symm.trans <| by rw [edgeR, if_neg h0, if_pos rfl])
    generalize leavesL t = L at *
    obtain ⟨g, cap, u, hv, hcap, hBg, hcell, -, hou, -⟩ := HL.out.elem 0 hpos
    simp only [Value.slice.injEq] at hv
    obtain ⟨rfl, -, rfl⟩ := hv
    obtain ⟨ak, nk, ck, rfl⟩ := hou.ints.slice3
    have HF := Lib.hid (two_block HK1.out (.slice ak nk ck) (.int .i64 0))
    have HW := Lib.hid (two_below (u0 := .slice ak nk ck) (u1 := .int .i64 0) HB1.out (show w.heap.size ≤ w.heap.size + 1 by omega))
    have HV := Lib.hid (OwnKeep.put2 hou (g := w.heap.size + 1) (u0 := .slice ak nk ck) (u1 := .int .i64 0) hlt).ints
    have hpi : (0 : Int) < (L.length : Int) := by omega
    clear h0 hou
    go_wp2_with fail
    have hf := HF.out; have hw := HW.out; have hv := HV.out
    simp only [put2] at hf hw hv
    generalize World.setCell (World.setCell w1 _ _) _ _ = wf at *
    obtain ⟨⟨j0, j1⟩, _⟩ := two_facts hf
    exact bodyPost_ret (v := .tuple #[.agg #[.slice ak nk ck, .int .i64 0], .int .i64 0]) (by simp [results, Try.results42, go_sem, j0, j1]) rfl (by rw [HE.out]; exact ⟨ak, nk, ck, rfl, ⟨hv, trivial⟩, hw⟩)

set_option maxHeartbeats 2000000 in
theorem rlast_any (S : Nat → Prop) (t : Tree) (cs : List Value) (w : World) (h : NodeAt S w cs t) (hs : sizeT t ≤ 1500000) :
    Calls Try.prog 43 #[.agg (List.toArray cs)] w (PtPost w (fun _ _ => True) (edgeR t (leavesL t) true).1 (edgeR t (leavesL t) true).2.1 (edgeR t (leavesL t) true).2.2) := by
  obtain ⟨a1, n1, c1, a2, n2, c2, a3, n3, c3, rfl⟩ := h.form
  obtain ⟨hbw, hbox, hblk⟩ := two_boxes w #[.bool t.leaf, .slice a1 n1 c1, .slice a2 n2 c2, .slice a3 n3 c3] #[.slice none 0 0, .int .i64 0] 26 35
  have HB := Lib.hid hbw; have HK := Lib.hid hblk; have HX := Lib.hid hbox; have HN := Lib.hid (h.boxed hbw); have HS := Lib.hid hs
  clear h hbw hblk hbox
  obtain ⟨E, hE⟩ : ∃ E, edgeR t (leavesL t) true = E := ⟨_, rfl⟩
  rw [hE]
  have HEE := Lib.hid hE
  clear hE
  go_enter Try.func43, Try.ntmps43
  go_upto_region 1 with fail
  generalize World.alloc _ _ = W at *
  obtain ⟨⟨k0, k1, k2, k3⟩, _⟩ := four_facts HX.out
  have HC := Lib.hid (rleaves_any S t _ W HN.out HS.out)
  have HLN := Lib.hid (leavesL_len t HS.out)
  have HI6 := Lib.hid (leavesL_i64 t HS.out)
  have HME := Lib.hid (fun p => (mem_leaves t p).1)
  go_wp2_with fail
  refine HC.out.mono ?_
  rintro e w1 ⟨v1, rfl, ho1, hb1⟩
  change OwnL w1 W.heap.size v1 (leavesL t) at ho1
  obtain ⟨al, cl, rfl, hal⟩ := ho1.slice
  have HL := Lib.hid ho1; have HAL := Lib.hid hal; have HB1 := Lib.hid (gr_tr HB.out hb1); have HK1 := Lib.hid (blk_below HK.out hb1); have HX1 := Lib.hid (blk_below HX.out hb1); have HN1 := Lib.hid (HN.out.boxed hb1)
  have hlt := lt_of_block HK.out
  have hsz1 := hb1.size
  clear ho1 hal hb1 HC k0 k1 k2 k3
  obtain ⟨⟨q0, q1⟩, ⟨m0, m1⟩⟩ := two_facts HK1.out
  by_cases h0 : (leavesL t).length = 0
  · have HE : Hid (E = ([], 0, 14)) := Lib.hid (HEE.out.symm.trans <| by rw [List.eq_nil_of_length_eq_zero h0]; exact edge_nil)
    have qz : (((leavesL t).length : Int) == 0) = true := by simp [h0]
    generalize leavesL t = L at *
    have HF := Lib.hid (two_block HK1.out (.slice none 0 0) (.int .i64 0))
    have HW := Lib.hid (two_below (u0 := .slice none 0 0) (u1 := .int .i64 0) HB1.out (show w.heap.size ≤ w.heap.size + 1 by omega))
    clear h0
    go_wp2_with fail
    have hf := HF.out; have hw := HW.out
    simp only [put2] at hf hw
    generalize World.setCell (World.setCell w1 _ _) _ _ = wf at *
    obtain ⟨⟨j0, j1⟩, _⟩ := two_facts hf
    exact bodyPost_ret (v := .tuple #[.agg #[.slice none 0 0, .int .i64 0], .int .i64 14]) (by simp [results, Try.results43, go_sem, j0, j1]) rfl (by rw [HE.out]; exact ⟨none, 0, 0, rfl, ⟨ints_nil _, trivial⟩, hw⟩)
  · have hpos : 0 < (leavesL t).length := by omega
    have qz : (((leavesL t).length : Int) == 0) = false := by rw [beq_eq_false_iff_ne]; omega
    have hmem := lastD_mem hpos
    obtain ⟨s, hgs, -⟩ := HME.out _ hmem
    have HE : Hid (E = ((leavesL t).getD ((leavesL t).length - 1) [], (s.text.length : Int), 0)) := Lib.hid (HEE.out.symm.trans <| edge_lastD hpos hgs)
    have HIQ := Lib.hid (HI6.out _ hmem)
    have HGS := Lib.hid hgs
    clear hmem hgs
    generalize leavesL t = L at *
    obtain ⟨g, cap, u, hv, hcap, hBg, hcell, -, hou, -⟩ := HL.out.elem (L.length - 1) (by omega)
    simp only [Value.slice.injEq] at hv
    obtain ⟨rfl, -, rfl⟩ := hv
    obtain ⟨ak, nk, ck, rfl⟩ := hou.ints.slice3
    have h8 := HLN.out
    have hx1 : IntKind.i64.wrap ((L.length : Int) - 1) = (L.length : Int) - 1 := IntWalk.i64_in _ (by omega)
    have hx2 : 0 ≤ (L.length : Int) - 1 := by omega
    have hx3 : ((L.length : Int) - 1).toNat = L.length - 1 := by omega
    have hx4 : (L.length : Int) - 1 < (L.length : Int) := by omega
    have hx5 : (1 : Int) ≤ (L.length : Int) := by omega
    have hgl := World.block_lt_of_cell? w1 _ hcell
    have HQ := Lib.hid hou
    have HK2 : Hid (∀ w', Below w1.heap.size w1 w' → w'.cell? ⟨w.heap.size, 0, none⟩ = some (.bool t.leaf) ∧ w'.cell? ⟨w.heap.size, 1, none⟩ = some (.slice a1 n1 c1) ∧ w'.cell? ⟨w.heap.size, 2, none⟩ = some (.slice a2 n2 c2) ∧ w'.cell? ⟨w.heap.size, 3, none⟩ = some (.slice a3 n3 c3) ∧ w'.cell? ⟨g, L.length - 1, none⟩ = some (.slice ak nk ck)) := Lib.hid (fun w' hb => by
      obtain ⟨⟨x0, x1, x2, x3⟩, -⟩ := four_facts (blk_below HX1.out hb)
      exact ⟨x0, x1, x2, x3, (hb.cell (p := ⟨g, L.length - 1, none⟩) hgl).trans hcell⟩)
    have hn1 : ∀ (w' : World) (o i : Nat) (u : Value), (w'.setCell ⟨w.heap.size + 1, o, none⟩ u).cell? ⟨w.heap.size, i, none⟩ = w'.cell? ⟨w.heap.size, i, none⟩ := fun w' o i u => World.cell?_setCell_far _ _ _ _ (by simp)
    have hn2 : ∀ (w' : World) (o i : Nat) (u : Value), (w'.setCell ⟨w.heap.size + 1, o, none⟩ u).cell? ⟨g, i, none⟩ = w'.cell? ⟨g, i, none⟩ := fun w' o i u => World.cell?_setCell_far _ _ _ _ (by simp; omega)
    clear h0 hou hcell
    have l := gr_dr (gr_refl w1)
    obtain ⟨k0, k1, k2, k3, kg⟩ := HK2.out _ l
    go_wp2_with fail
    go_region_held3 (fun w' => w'.cell? ⟨w.heap.size, 0, none⟩ = some (.bool t.leaf) ∧ w'.cell? ⟨w.heap.size, 1, none⟩ = some (.slice a1 n1 c1) ∧ w'.cell? ⟨w.heap.size, 2, none⟩ = some (.slice a2 n2 c2) ∧ w'.cell? ⟨w.heap.size, 3, none⟩ = some (.slice a3 n3 c3) ∧ w'.cell? ⟨g, L.length - 1, none⟩ = some (.slice ak nk ck))
      (first | with_reducible exact ⟨k0, k1, k2, k3, kg⟩ | simp only [hn1, hn2, k0, k1, k2, k3, kg, and_self])
      (first
        | (go_at_call 84; refine (rend_any S t s _ _ _ _ (HN1.out.boxed l) (HQ.out.ints.below l (Nat.le_refl _)) HIQ.out HGS.out).mono ?_; rintro e w2 ⟨rfl, hb2⟩; replace l := gr_tr l hb2; clear k0 k1 k2 k3 kg; obtain ⟨k0, k1, k2, k3, kg⟩ := HK2.out _ l; obtain ⟨⟨q0, q1⟩, ⟨r0, r1⟩⟩ := two_facts (blk_below HK1.out l)))
    have HF := Lib.hid (two_block (blk_below HK1.out l) (.slice ak nk ck) (.int .i64 s.text.length))
    have HW := Lib.hid (two_below (u0 := .slice ak nk ck) (u1 := .int .i64 s.text.length) (gr_tr HB1.out l) (show w.heap.size ≤ w.heap.size + 1 by omega))
    have HV := Lib.hid (OwnKeep.put2 (HQ.out.below l (Nat.le_refl _)) (g := w.heap.size + 1) (u0 := .slice ak nk ck) (u1 := .int .i64 s.text.length) hlt).ints
    clear hn1 hn2 k0 k1 k2 k3 kg q0 q1 r0 r1 m0 m1 l hb2
    go_wp2_with fail
    have hf := HF.out; have hw := HW.out; have hv := HV.out
    simp only [put2] at hf hw hv
    generalize World.setCell (World.setCell w2 _ _) _ _ = wf at *
    obtain ⟨⟨j0, j1⟩, _⟩ := two_facts hf
    exact bodyPost_ret (v := .tuple #[.agg #[.slice ak nk ck, .int .i64 s.text.length], .int .i64 0]) (by simp [results, Try.results43, go_sem, j0, j1]) rfl (by rw [HE.out]; exact ⟨ak, nk, ck, rfl, ⟨hv, trivial⟩, hw⟩)
end Go.Proofs.Ytdcpoeaddhbjbaa
