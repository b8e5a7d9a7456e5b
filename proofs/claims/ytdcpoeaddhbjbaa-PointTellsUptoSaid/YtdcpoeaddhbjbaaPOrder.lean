/- Walk of point.Order. -/
import Derived.Test.YtdcpoeaddhbjbaaPts
import Derived.RegionTactic
namespace Go.Proofs.Ytdcpoeaddhbjbaa
set_option maxRecDepth 100000
open Go.RowKit

set_option maxHeartbeats 4000000 in
theorem porder_any (p q : List Int) (a b : Int) (v1 v2 : Value) (w : World) (h1 : Ints w v1 p) (h2 : Ints w v2 q) :
    Calls Try.prog 31 #[.agg #[v1, .int .i64 a, v2, .int .i64 b]] w (if cmpP q b p a < 0 then OrdPt w q b p a true else OrdPt w p a q b false) := by
  obtain ⟨a1, n1, c1, rfl⟩ := h1.slice3
  obtain ⟨a2, n2, c2, rfl⟩ := h2.slice3
  obtain ⟨hb, hx1, hx2, hx3⟩ := three_boxes w #[.slice a1 n1 c1, .int .i64 a, .slice a2 n2 c2, .int .i64 b] #[.slice none 0 0, .int .i64 0] #[.slice none 0 0, .int .i64 0] 50 35 35
  have HB := Lib.hid hb; have HX1 := Lib.hid hx1; have HX2 := Lib.hid hx2; have HX3 := Lib.hid hx3
  have HI1 := Lib.hid (h1.below hb (Nat.le_refl _)); have HI2 := Lib.hid (h2.below hb (Nat.le_refl _))
  clear h1 h2 hb hx1 hx2 hx3
  obtain ⟨Q, hQ⟩ : ∃ Q, (if cmpP q b p a < 0 then OrdPt w q b p a true else OrdPt w p a q b false) = Q := ⟨_, rfl⟩
  rw [hQ]
  have HQ := Lib.hid hQ
  clear hQ
  go_enter Try.func31, Try.ntmps31
  go_upto_region 1 with fail
  generalize World.alloc (World.alloc (World.alloc w _) _) _ = W at *
  obtain ⟨k0, k1, k2, k3⟩ := (NF.of HX1.out).later (gr_dr (gr_refl W))
  have hn1 : ∀ (w' : World) (o i : Nat) (u : Value), (w'.setCell ⟨w.heap.size + 1, o, none⟩ u).cell? ⟨w.heap.size, i, none⟩ = w'.cell? ⟨w.heap.size, i, none⟩ := fun w' o i u => World.cell?_setCell_far _ _ _ _ (by simp)
  have hn2 : ∀ (w' : World) (o i : Nat) (u : Value), (w'.setCell ⟨w.heap.size + 1 + 1, o, none⟩ u).cell? ⟨w.heap.size, i, none⟩ = w'.cell? ⟨w.heap.size, i, none⟩ := fun w' o i u => World.cell?_setCell_far _ _ _ _ (by simp; omega)
  go_region_held3 (fun w' => w'.cell? ⟨w.heap.size, 0, none⟩ = some (.slice a1 n1 c1) ∧ w'.cell? ⟨w.heap.size, 1, none⟩ = some (.int .i64 a) ∧ w'.cell? ⟨w.heap.size, 2, none⟩ = some (.slice a2 n2 c2) ∧ w'.cell? ⟨w.heap.size, 3, none⟩ = some (.int .i64 b))
    (first | with_reducible exact ⟨k0, k1, k2, k3⟩ | simp only [hn1, hn2, k0, k1, k2, k3, and_self])
    (first
      | (go_at_call 79; refine (pown_any p a _ _ (HI1.out.same ⟨1, rfl⟩)).mono ?_; rintro e w1 ⟨x1, m1, d1, rfl, ho1, hb1⟩; have kf := (show NF w.heap.size (.slice a1 n1 c1) (.int .i64 a) (.slice a2 n2 c2) (.int .i64 b) W.drew from ⟨k0, k1, k2, k3⟩).later hb1; clear k0 k1 k2 k3; obtain ⟨k0, k1, k2, k3⟩ := id kf)
      | (go_at_call 79; refine (pown_any q b _ _ ((HI2.out.same ⟨1, rfl⟩).below hb1 (Nat.le_refl _))).mono ?_; rintro e w2 ⟨x2, m2, d2, rfl, ho2, hb2⟩; have kg := kf.later hb2; clear k0 k1 k2 k3; obtain ⟨k0, k1, k2, k3⟩ := id kg; obtain ⟨⟨q0, q1⟩, ⟨r0, r1⟩⟩ := two_facts (blk_below (blk_below (blk_below HX2.out (gr_dr (gr_refl W))) hb1) hb2); obtain ⟨⟨s0, s1⟩, ⟨t0, t1⟩⟩ := two_facts (blk_below (blk_below (blk_below HX3.out (gr_dr (gr_refl W))) hb1) hb2)))
  have hlt := lt_of_block HX3.out
  have hsz1 := hb1.size
  have hB2 := gr_tr (gr_tr (gr_dr HB.out) hb1) hb2
  have e2 := blk_below (blk_below (blk_below HX2.out (gr_dr (gr_refl W))) hb1) hb2
  have e3 := blk_below (blk_below (blk_below HX3.out (gr_dr (gr_refl W))) hb1) hb2
  have hW3 : Below w.heap.size w (put2 (put2 w2 (w.heap.size + 1) (.slice x1 m1 d1) (.int .i64 a)) (w.heap.size + 1 + 1) (.slice x2 m2 d2) (.int .i64 b)) := two_below (two_below hB2 (by omega)) (by omega)
  have hO1 : Own (put2 (put2 w2 (w.heap.size + 1) (.slice x1 m1 d1) (.int .i64 a)) (w.heap.size + 1 + 1) (.slice x2 m2 d2) (.int .i64 b)) W.drew.heap.size (.slice x1 m1 d1) p :=
    OwnKeep.put2 (OwnKeep.put2 (ho1.below hb2 (Nat.le_refl _)) (show w.heap.size + 1 < W.heap.size by omega)) (show w.heap.size + 1 + 1 < W.heap.size by omega)
  have hO2 : Own (put2 (put2 w2 (w.heap.size + 1) (.slice x1 m1 d1) (.int .i64 a)) (w.heap.size + 1 + 1) (.slice x2 m2 d2) (.int .i64 b)) W.drew.heap.size (.slice x2 m2 d2) q :=
    OwnKeep.put2 (OwnKeep.put2 (ho2.mono hsz1) (show w.heap.size + 1 < W.heap.size by omega)) (show w.heap.size + 1 + 1 < W.heap.size by omega)
  have hE3 := two_block (u0 := .slice x2 m2 d2) (u1 := .int .i64 b) (w' := put2 w2 (w.heap.size + 1) (.slice x1 m1 d1) (.int .i64 a)) (g := w.heap.size + 1 + 1) ((put2_far (by omega)).trans e3)
  have hE2 := (put2_far (w := put2 w2 (w.heap.size + 1) (.slice x1 m1 d1) (.int .i64 a)) (g := w.heap.size + 1 + 1) (u0 := .slice x2 m2 d2) (u1 := .int .i64 b) (b := w.heap.size + 1) (by omega)).trans (two_block e2 (.slice x1 m1 d1) (.int .i64 a))
  have H1 := Lib.hid hW3; have H2 := Lib.hid hO1; have H3 := Lib.hid hO2; have H4 := Lib.hid hE2; have H5 := Lib.hid hE3
  clear hW3 hO1 hO2 hE2 hE3 e2 e3 hB2 hsz1 ho1 ho2 hb1 hb2 kf kg k0 k1 k2 k3 hn1 hn2 q0 q1 r0 r1 s0 s1 t0 t1
  simp only [put2] at H1 H2 H3 H4 H5
  generalize World.setCell (World.setCell (World.setCell (World.setCell w2 _ _) _ _) _ _) _ _ = V at *
  obtain ⟨⟨q0, q1⟩, ⟨r0, r1⟩⟩ := two_facts H4.out
  obtain ⟨⟨s0, s1⟩, ⟨t0, t1⟩⟩ := two_facts H5.out
  go_wp2_with fail
  refine (pcompare_any q p b a _ _ _ H3.out.ints H2.out.ints).mono ?_
  rintro e w3 ⟨rfl, hb3⟩
  have G1 := Lib.hid (gr_tr H1.out hb3); have G2 := Lib.hid (H2.out.below hb3 (Nat.le_refl _)); have G3 := Lib.hid (H3.out.below hb3 (Nat.le_refl _)); have G4 := Lib.hid (blk_below H4.out hb3); have G5 := Lib.hid (blk_below H5.out hb3)
  clear H1 H2 H3 H4 H5 hb3 q0 q1 r0 r1 s0 s1 t0 t1
  obtain ⟨⟨q0, q1⟩, ⟨r0, r1⟩⟩ := two_facts G4.out
  obtain ⟨⟨s0, s1⟩, ⟨t0, t1⟩⟩ := two_facts G5.out
  by_cases hlt0 : cmpP q b p a < 0
  · have hd : decide (cmpP q b p a < 0) = true := by simpa using hlt0
    have HQT : Hid (OrdPt w q b p a true = Q) := by show _ = _; rw [← HQ.out, if_pos hlt0]
    clear hlt0
    have hB4 : Below w.heap.size w (put2 (put2 w3 (w.heap.size + 1) (.slice x2 m2 d2) (.int .i64 b)) (w.heap.size + 1 + 1) (.slice x1 m1 d1) (.int .i64 a)) := two_below (two_below G1.out (by omega)) (by omega)
    have hO1 := OwnKeep.put2 (g := w.heap.size + 1 + 1) (u0 := .slice x1 m1 d1) (u1 := .int .i64 a) (OwnKeep.put2 (g := w.heap.size + 1) (u0 := .slice x2 m2 d2) (u1 := .int .i64 b) G2.out (show w.heap.size + 1 < W.heap.size by omega)) (show w.heap.size + 1 + 1 < W.heap.size by omega)
    have hO2 := OwnKeep.put2 (g := w.heap.size + 1 + 1) (u0 := .slice x1 m1 d1) (u1 := .int .i64 a) (OwnKeep.put2 (g := w.heap.size + 1) (u0 := .slice x2 m2 d2) (u1 := .int .i64 b) G3.out (show w.heap.size + 1 < W.heap.size by omega)) (show w.heap.size + 1 + 1 < W.heap.size by omega)
    have hE3 := two_block (w' := put2 w3 (w.heap.size + 1) (.slice x2 m2 d2) (.int .i64 b)) (g := w.heap.size + 1 + 1) ((put2_far (by omega)).trans G5.out) (.slice x1 m1 d1) (.int .i64 a)
    have hE2 := (put2_far (w := put2 w3 (w.heap.size + 1) (.slice x2 m2 d2) (.int .i64 b)) (g := w.heap.size + 1 + 1) (u0 := .slice x1 m1 d1) (u1 := .int .i64 a) (b := w.heap.size + 1) (by omega)).trans (two_block G4.out (.slice x2 m2 d2) (.int .i64 b))
    have K1 := Lib.hid hB4; have K2 := Lib.hid hO1.ints; have K3 := Lib.hid hO2.ints; have K4 := Lib.hid hE2; have K5 := Lib.hid hE3
    clear hB4 hO1 hO2 hE2 hE3 G1 G2 G3 G4 G5
    simp only [put2] at K1 K2 K3 K4 K5
    go_wp2_with fail
    generalize World.setCell (World.setCell (World.setCell (World.setCell w3 _ _) _ _) _ _) _ _ = V2 at *
    obtain ⟨⟨j0, j1⟩, _⟩ := two_facts K4.out
    obtain ⟨⟨l0, l1⟩, _⟩ := two_facts K5.out
    exact bodyPost_ret (v := .tuple #[.agg #[.slice x2 m2 d2, .int .i64 b], .agg #[.slice x1 m1 d1, .int .i64 a], .bool true]) (by simp [results, Try.results31, go_sem, j0, j1, l0, l1]) rfl (by rw [← HQT.out]; exact ⟨x2, m2, d2, x1, m1, d1, rfl, K3.out, K2.out, K1.out⟩)
  · have hd : decide (cmpP q b p a < 0) = false := by simpa using hlt0
    have HQT : Hid (OrdPt w p a q b false = Q) := by show _ = _; rw [← HQ.out, if_neg hlt0]
    clear hlt0
    have hB4 : Below w.heap.size w (put2 (put2 w3 (w.heap.size + 1) (.slice x1 m1 d1) (.int .i64 a)) (w.heap.size + 1 + 1) (.slice x2 m2 d2) (.int .i64 b)) := two_below (two_below G1.out (by omega)) (by omega)
    have hO1 := OwnKeep.put2 (w := put2 w3 (w.heap.size + 1) (.slice x1 m1 d1) (.int .i64 a)) (g := w.heap.size + 1 + 1) (u0 := .slice x2 m2 d2) (u1 := .int .i64 b) (OwnKeep.put2 (w := w3) (g := w.heap.size + 1) (u0 := .slice x1 m1 d1) (u1 := .int .i64 a) G2.out (show w.heap.size + 1 < W.heap.size by omega)) (show w.heap.size + 1 + 1 < W.heap.size by omega)
    have hO2 := OwnKeep.put2 (w := put2 w3 (w.heap.size + 1) (.slice x1 m1 d1) (.int .i64 a)) (g := w.heap.size + 1 + 1) (u0 := .slice x2 m2 d2) (u1 := .int .i64 b) (OwnKeep.put2 (w := w3) (g := w.heap.size + 1) (u0 := .slice x1 m1 d1) (u1 := .int .i64 a) G3.out (show w.heap.size + 1 < W.heap.size by omega)) (show w.heap.size + 1 + 1 < W.heap.size by omega)
    have hE3 := two_block (w' := put2 w3 (w.heap.size + 1) (.slice x1 m1 d1) (.int .i64 a)) (g := w.heap.size + 1 + 1) ((put2_far (by omega)).trans (show w3.heap[w.heap.size + 1 + 1]? = _ from G5.out)) (.slice x2 m2 d2) (.int .i64 b)
    have hE2 := (put2_far (w := put2 w3 (w.heap.size + 1) (.slice x1 m1 d1) (.int .i64 a)) (g := w.heap.size + 1 + 1) (u0 := .slice x2 m2 d2) (u1 := .int .i64 b) (b := w.heap.size + 1) (by omega)).trans (two_block (show w3.heap[w.heap.size + 1]? = _ from G4.out) (.slice x1 m1 d1) (.int .i64 a))
    have hdr := gr_dr (gr_refl (put2 (put2 w3 (w.heap.size + 1) (.slice x1 m1 d1) (.int .i64 a)) (w.heap.size + 1 + 1) (.slice x2 m2 d2) (.int .i64 b)))
    have K1 := Lib.hid (gr_tr hB4 hdr); have K2 := Lib.hid (hO1.ints.below hdr (Nat.le_refl _)); have K3 := Lib.hid (hO2.ints.below hdr (Nat.le_refl _)); have K4 := Lib.hid (blk_below hE2 hdr); have K5 := Lib.hid (blk_below hE3 hdr)
    clear hdr
    clear hB4 hO1 hO2 hE2 hE3 G1 G2 G3 G4 G5
    simp only [put2] at K1 K2 K3 K4 K5
    go_wp2_with fail
    go_region
    go_wp2_with fail
    generalize World.drew (World.setCell (World.setCell (World.setCell (World.setCell w3 _ _) _ _) _ _) _ _) = V2 at *
    obtain ⟨⟨j0, j1⟩, _⟩ := two_facts K4.out
    obtain ⟨⟨l0, l1⟩, _⟩ := two_facts K5.out
    exact bodyPost_ret (v := .tuple #[.agg #[.slice x1 m1 d1, .int .i64 a], .agg #[.slice x2 m2 d2, .int .i64 b], .bool false]) (by simp [results, Try.results31, go_sem, j0, j1, l0, l1]) rfl (by rw [← HQT.out]; exact ⟨x1, m1, d1, x2, m2, d2, rfl, K2.out, K3.out, K1.out⟩)
end Go.Proofs.Ytdcpoeaddhbjbaa
