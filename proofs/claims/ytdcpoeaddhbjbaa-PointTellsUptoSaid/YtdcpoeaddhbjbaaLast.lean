/- Walks of point.First, point.Last. -/
import Derived.Test.YtdcpoeaddhbjbaaEdge
import Derived.Deep.RegionHeld3
namespace Go.Proofs.Ytdcpoeaddhbjbaa
set_option maxRecDepth 100000
open Go.RowKit

/-- The paths of a tree's leaves. -/
abbrev leavesL (t : Tree) : List (List Int) := pathsL Tree.leaf t []

theorem leavesL_i64 (t : Tree) (hs : sizeT t ≤ 1500000) : ∀ p ∈ leavesL t, I64 p := pathsL_i64 Tree.leaf t [] (by omega) (fun x hx => by simp at hx)
theorem leavesL_len (t : Tree) (hs : sizeT t ≤ 1500000) : (leavesL t).length * 24 ≤ 140737488351232 := by
  have := pathsL_len Tree.leaf t []
  show (pathsL Tree.leaf t []).length * 24 ≤ _
  omega

/-- Four cells of a node's box. -/
def NF (g : Nat) (x0 x1 x2 x3 : Value) (w : World) : Prop := w.cell? ⟨g, 0, none⟩ = some x0 ∧ w.cell? ⟨g, 1, none⟩ = some x1 ∧ w.cell? ⟨g, 2, none⟩ = some x2 ∧ w.cell? ⟨g, 3, none⟩ = some x3
theorem NF.of {w : World} {g : Nat} {x0 x1 x2 x3 : Value} {t : TypeId} (h : w.heap[g]? = some (.cells #[x0, x1, x2, x3] t (0, 0))) : NF g x0 x1 x2 x3 w := (four_facts h).1
theorem NF.later {w w' : World} {g : Nat} {x0 x1 x2 x3 : Value} (h : NF g x0 x1 x2 x3 w) (hb : Below w.heap.size w w') : NF g x0 x1 x2 x3 w' := by
  obtain ⟨h0, h1, h2, h3⟩ := h
  have cb := (box3 hb (g := g) (World.block_lt_of_cell? w _ h0)).1
  exact ⟨by rw [cb, h0], by rw [cb, h1], by rw [cb, h2], by rw [cb, h3]⟩
theorem NF.put2 {w : World} {g b : Nat} {x0 x1 x2 x3 u0 u1 : Value} (h : NF g x0 x1 x2 x3 w) (hne : b ≠ g) : NF g x0 x1 x2 x3 (put2 w b u0 u1) := by
  obtain ⟨h0, h1, h2, h3⟩ := h
  have hc : ∀ i, (_root_.Go.Proofs.Ytdcpoeaddhbjbaa.put2 w b u0 u1).cell? ⟨g, i, none⟩ = w.cell? ⟨g, i, none⟩ := fun i => World.cell?_of_block (a := ⟨g, i, none⟩) (by simp [World.setCell, Array.getElem?_modify, hne])
  exact ⟨by rw [hc, h0], by rw [hc, h1], by rw [hc, h2], by rw [hc, h3]⟩

theorem OwnKeep.put2 {w : World} {B g : Nat} {v : Value} {xs : List Int} {u0 u1 : Value} (h : Own w B v xs) (hg : g < B) : Own (put2 w g u0 u1) B v xs :=
  (h.setBelow (a := ⟨g, 0, none⟩) hg u0).setBelow (a := ⟨g, 1, none⟩) hg u1

set_option maxHeartbeats 1000000 in
theorem last_any (S : Nat → Prop) (t : Tree) (cs : List Value) (w : World) (h : NodeAt S w cs t) (hs : sizeT t ≤ 1500000) :
    Calls Try.prog 35 #[.agg (List.toArray cs)] w (PtPost w (fun _ _ => True) (edgeR t (leavesL t) true).1 (edgeR t (leavesL t) true).2.1 (edgeR t (leavesL t) true).2.2) := by
  obtain ⟨a1, n1, c1, a2, n2, c2, a3, n3, c3, rfl⟩ := h.form
  obtain ⟨hbw, hblk⟩ := edge_start w #[.bool t.leaf, .slice a1 n1 c1, .slice a2 n2 c2, .slice a3 n3 c3]
  have hbox : ((w.alloc (.cells #[.bool t.leaf, .slice a1 n1 c1, .slice a2 n2 c2, .slice a3 n3 c3] 26)).alloc (.cells #[.slice none 0 0, .int .i64 0] 35)).heap[w.heap.size]? = some (.cells #[.bool t.leaf, .slice a1 n1 c1, .slice a2 n2 c2, .slice a3 n3 c3] 26 (0, 0)) :=
    blk_below (heap_alloc_new w _) (gr_al (gr_refl _) _)
  have hnW := h.boxed hbw
  have HB := Lib.hid hbw; have HK := Lib.hid hblk; have HX := Lib.hid hbox; have HN := Lib.hid hnW; have HS := Lib.hid hs
  clear h hbw hblk hbox hnW
  go_enter Try.func35, Try.ntmps35
  go_upto_region 1 with fail
  generalize World.alloc _ _ = W at *
  have kf : NF w.heap.size (.bool t.leaf) (.slice a1 n1 c1) (.slice a2 n2 c2) (.slice a3 n3 c3) W.drew := (NF.of HX.out).later (gr_dr (gr_refl W))
  have HC := Lib.hid (leaves_any S t _ W.drew (HN.out.boxed (gr_dr (gr_refl W))) hs)
  have hne : w.heap.size + 1 ≠ w.heap.size := by omega
  go_region_held3 (fun w' => w'.cell? ⟨w.heap.size, 0, none⟩ = some (.bool t.leaf) ∧ w'.cell? ⟨w.heap.size, 1, none⟩ = some (.slice a1 n1 c1) ∧ w'.cell? ⟨w.heap.size, 2, none⟩ = some (.slice a2 n2 c2) ∧ w'.cell? ⟨w.heap.size, 3, none⟩ = some (.slice a3 n3 c3))
    (first | exact kf | exact kf.put2 hne)
    (first
      | (go_at_call 23; refine HC.out.mono ?_; rintro e w1 ⟨v1, rfl, ho1, hb1⟩; have kf := kf.later hb1)
      | (go_at_call 82; refine (edge_any S t _ _ _ true _ ((HN.out.boxed (gr_dr (gr_refl W))).boxed hb1) (ho1.ints (leavesL_len t HS.out)) (leavesL_i64 t HS.out) _ ho1.each).mono ?_; rintro e w2 ⟨ak, nk, ck, rfl, ⟨_, hi2⟩, hb2⟩; have kf := kf.later hb2; obtain ⟨⟨q0, q1⟩, ⟨r0, r1⟩⟩ := two_facts (blk_below (blk_below (blk_below HK.out (gr_dr (gr_refl W))) hb1) hb2)))
  have hbz := gr_tr (gr_tr (gr_sm HB.out ⟨1, rfl⟩) hb1) hb2
  have hblk2 := blk_below (blk_below (blk_below HK.out (gr_dr (gr_refl W))) hb1) hb2
  have HF := Lib.hid (two_block hblk2 (.slice ak nk ck) (.int .i64 (edgeR t (leavesL t) true).2.1))
  have HW := Lib.hid (two_below (u0 := .slice ak nk ck) (u1 := .int .i64 (edgeR t (leavesL t) true).2.1) hbz (show w.heap.size ≤ w.heap.size + 1 by omega))
  have hlt := lt_of_block HK.out
  have hlt1 := hb1.size
  have HV := Lib.hid ((OwnKeep.put2 (hi2.below hb2 (Nat.le_refl _)) (u0 := .slice ak nk ck) (u1 := .int .i64 (edgeR t (leavesL t) true).2.1) (show w.heap.size + 1 < W.drew.heap.size from hlt)).ints)
  clear hbz hblk2 hi2 hb1 hb2 ho1 kf hlt1
  go_wp2_with fail
  have hf := HF.out; have hw := HW.out; have hv := HV.out
  simp only [put2] at hf hw hv
  generalize World.setCell (World.setCell w2 _ _) _ _ = wf at *
  obtain ⟨⟨j0, j1⟩, _⟩ := two_facts hf
  exact bodyPost_ret (v := .tuple #[.agg #[.slice ak nk ck, .int .i64 (edgeR t (leavesL t) true).2.1], .int .i64 (edgeR t (leavesL t) true).2.2]) (by simp [results, Try.results35, go_sem, j0, j1]) rfl ⟨ak, nk, ck, rfl, ⟨hv, trivial⟩, hw⟩
set_option maxHeartbeats 1000000 in
theorem first_any (S : Nat → Prop) (t : Tree) (cs : List Value) (w : World) (h : NodeAt S w cs t) (hs : sizeT t ≤ 1500000) :
    Calls Try.prog 34 #[.agg (List.toArray cs)] w (PtPost w (fun _ _ => True) (edgeR t (leavesL t) false).1 (edgeR t (leavesL t) false).2.1 (edgeR t (leavesL t) false).2.2) := by
  obtain ⟨a1, n1, c1, a2, n2, c2, a3, n3, c3, rfl⟩ := h.form
  obtain ⟨hbw, hblk⟩ := edge_start w #[.bool t.leaf, .slice a1 n1 c1, .slice a2 n2 c2, .slice a3 n3 c3]
  have hbox : ((w.alloc (.cells #[.bool t.leaf, .slice a1 n1 c1, .slice a2 n2 c2, .slice a3 n3 c3] 26)).alloc (.cells #[.slice none 0 0, .int .i64 0] 35)).heap[w.heap.size]? = some (.cells #[.bool t.leaf, .slice a1 n1 c1, .slice a2 n2 c2, .slice a3 n3 c3] 26 (0, 0)) :=
    blk_below (heap_alloc_new w _) (gr_al (gr_refl _) _)
  have hnW := h.boxed hbw
  have HB := Lib.hid hbw; have HK := Lib.hid hblk; have HX := Lib.hid hbox; have HN := Lib.hid hnW; have HS := Lib.hid hs
  clear h hbw hblk hbox hnW
  go_enter Try.func34, Try.ntmps34
  go_upto_region 1 with fail
  generalize World.alloc _ _ = W at *
  have kf : NF w.heap.size (.bool t.leaf) (.slice a1 n1 c1) (.slice a2 n2 c2) (.slice a3 n3 c3) W.drew := (NF.of HX.out).later (gr_dr (gr_refl W))
  have HC := Lib.hid (leaves_any S t _ W.drew (HN.out.boxed (gr_dr (gr_refl W))) hs)
  have hne : w.heap.size + 1 ≠ w.heap.size := by omega
  go_region_held3 (fun w' => w'.cell? ⟨w.heap.size, 0, none⟩ = some (.bool t.leaf) ∧ w'.cell? ⟨w.heap.size, 1, none⟩ = some (.slice a1 n1 c1) ∧ w'.cell? ⟨w.heap.size, 2, none⟩ = some (.slice a2 n2 c2) ∧ w'.cell? ⟨w.heap.size, 3, none⟩ = some (.slice a3 n3 c3))
    (first | exact kf | exact kf.put2 hne)
    (first
      | (go_at_call 23; refine HC.out.mono ?_; rintro e w1 ⟨v1, rfl, ho1, hb1⟩; have kf := kf.later hb1)
      | (go_at_call 82; refine (edge_any S t _ _ _ false _ ((HN.out.boxed (gr_dr (gr_refl W))).boxed hb1) (ho1.ints (leavesL_len t HS.out)) (leavesL_i64 t HS.out) _ ho1.each).mono ?_; rintro e w2 ⟨ak, nk, ck, rfl, ⟨_, hi2⟩, hb2⟩; have kf := kf.later hb2; obtain ⟨⟨q0, q1⟩, ⟨r0, r1⟩⟩ := two_facts (blk_below (blk_below (blk_below HK.out (gr_dr (gr_refl W))) hb1) hb2)))
  have hbz := gr_tr (gr_tr (gr_sm HB.out ⟨1, rfl⟩) hb1) hb2
  have hblk2 := blk_below (blk_below (blk_below HK.out (gr_dr (gr_refl W))) hb1) hb2
  have HF := Lib.hid (two_block hblk2 (.slice ak nk ck) (.int .i64 (edgeR t (leavesL t) false).2.1))
  have HW := Lib.hid (two_below (u0 := .slice ak nk ck) (u1 := .int .i64 (edgeR t (leavesL t) false).2.1) hbz (show w.heap.size ≤ w.heap.size + 1 by omega))
  have hlt := lt_of_block HK.out
  have hlt1 := hb1.size
  have HV := Lib.hid ((OwnKeep.put2 (hi2.below hb2 (Nat.le_refl _)) (u0 := .slice ak nk ck) (u1 := .int .i64 (edgeR t (leavesL t) false).2.1) (show w.heap.size + 1 < W.drew.heap.size from hlt)).ints)
  clear hbz hblk2 hi2 hb1 hb2 ho1 kf hlt1
  go_wp2_with fail
  have hf := HF.out; have hw := HW.out; have hv := HV.out
  simp only [put2] at hf hw hv
  generalize World.setCell (World.setCell w2 _ _) _ _ = wf at *
  obtain ⟨⟨j0, j1⟩, _⟩ := two_facts hf
  exact bodyPost_ret (v := .tuple #[.agg #[.slice ak nk ck, .int .i64 (edgeR t (leavesL t) false).2.1], .int .i64 (edgeR t (leavesL t) false).2.2]) (by simp [results, Try.results34, go_sem, j0, j1]) rfl ⟨ak, nk, ck, rfl, ⟨hv, trivial⟩, hw⟩
end Go.Proofs.Ytdcpoeaddhbjbaa
