/- Walks of redlineref07.Compare, Copy, Order, end. -/
import Derived.Test.YtdcpoeaddhbjbaaPts
import Derived.Test.YtdcpoeaddhbjbaaRGet
import Derived.RegionTactic
import Derived.Deep.RegionHeld3
namespace Go.Proofs.Ytdcpoeaddhbjbaa
set_option maxRecDepth 100000
open Go.RowKit

set_option maxHeartbeats 2000000 in
theorem rpcompare_any (p q : List Int) (a b : Int) (v1 v2 : Value) (w : World) (h1 : Ints w v1 p) (h2 : Ints w v2 q) :
    Calls Try.prog 49 #[.agg #[v1, .int .i64 a], .agg #[v2, .int .i64 b]] w fun e w' => e = .returned (.int .i64 (cmpP p a q b)) ∧ Below w.heap.size w w' := by
  obtain ⟨a1, n1, c1, rfl⟩ := h1.slice3
  obtain ⟨a2, n2, c2, rfl⟩ := h2.slice3
  obtain ⟨hb, hx1, hx2⟩ := two_boxes w #[.slice a1 n1 c1, .int .i64 a] #[.slice a2 n2 c2, .int .i64 b] 35 35
  have HB := Lib.hid hb; have HX1 := Lib.hid hx1; have HX2 := Lib.hid hx2
  have HI1 := Lib.hid (h1.below hb (Nat.le_refl _)); have HI2 := Lib.hid (h2.below hb (Nat.le_refl _))
  obtain ⟨z, hz⟩ : ∃ z, cmpP p a q b = z := ⟨_, rfl⟩
  rw [hz]
  have HZ := Lib.hid hz
  clear h1 h2 hb hx1 hx2 hz
  go_enter Try.func49, Try.ntmps49
  go_upto_region 1 with fail
  generalize World.alloc (World.alloc w _) _ = W at *
  obtain ⟨⟨k0, k1⟩, _⟩ := two_facts HX1.out
  obtain ⟨⟨q0, q1⟩, _⟩ := two_facts HX2.out
  have HC := Lib.hid (rcompare_any p q _ _ W HI1.out HI2.out)
  go_wp2_with fail
  refine HC.out.mono ?_
  rintro e w' ⟨rfl, hs⟩
  clear k0 k1 q0 q1 HC
  have HB1 := Lib.hid (gr_tr HB.out (sm_below hs))
  obtain ⟨⟨k0, k1⟩, _⟩ := two_facts (blk_below HX1.out (sm_below hs))
  obtain ⟨⟨q0, q1⟩, _⟩ := two_facts (blk_below HX2.out (sm_below hs))
  clear hs
  by_cases hc : cmpI p q = 0
  · have qn : (cmpI p q != 0) = false := by simpa using hc
    have hp : cmpP p a q b = cmp3 a b := by rw [cmpP, orI, if_pos hc]
    have HP := Lib.hid (hp.symm.trans HZ.out)
    clear hc hp
    by_cases h1 : a < b
    · have d1 : decide (a < b) = true := by simpa using h1
      obtain rfl : z = -1 := by rw [← HP.out, cmp3, if_pos h1]
      clear h1
      go_wp2_with fail
      go_ret
      exact ⟨rfl, HB1.out⟩
    · have d1 : decide (a < b) = false := by simpa using h1
      by_cases h2 : b < a
      · have d2 : decide (b < a) = true := by simpa using h2
        obtain rfl : z = 1 := by rw [← HP.out, cmp3, if_neg h1, if_pos h2]
        clear h1 h2
        go_wp2_with fail
        go_ret
        exact ⟨rfl, HB1.out⟩
      · have d2 : decide (b < a) = false := by simpa using h2
        obtain rfl : z = 0 := by rw [← HP.out, cmp3, if_neg h1, if_neg h2]
        clear h1 h2
        go_wp2_with fail
        go_ret
        exact ⟨rfl, HB1.out⟩
  · have qn : (cmpI p q != 0) = true := by simpa using hc
    have hp : cmpP p a q b = cmpI p q := by rw [cmpP, orI, if_neg hc]
    have HP := Lib.hid (hp.symm.trans HZ.out)
    clear hc hp
    go_wp2_with fail
    go_ret
    exact ⟨ret_int HP.out, HB1.out⟩

set_option maxHeartbeats 1000000 in
theorem rpcopy_any (p : List Int) (a : Int) (v1 : Value) (w : World) (h1 : Ints w v1 p) : Calls Try.prog 83 #[.agg #[v1, .int .i64 a]] w (OwnPt w p a) := by
  obtain ⟨a1, n1, c1, rfl⟩ := h1.slice3
  obtain ⟨hb, hx1, hx2⟩ := two_boxes w #[.slice a1 n1 c1, .int .i64 a] #[.slice none 0 0, .int .i64 0] 35 35
  have HB := Lib.hid hb; have HX1 := Lib.hid hx1; have HX2 := Lib.hid hx2
  have HI1 := Lib.hid (h1.below hb (Nat.le_refl _))
  clear h1 hb hx1 hx2
  go_enter Try.func83, Try.ntmps83
  go_upto_region 1 with fail
  generalize World.alloc (World.alloc w _) _ = W at *
  obtain ⟨⟨k0, k1⟩, _⟩ := two_facts HX1.out
  go_region_held3 (fun w' => w'.cell? ⟨w.heap.size, 0, none⟩ = some (.slice a1 n1 c1) ∧ w'.cell? ⟨w.heap.size, 1, none⟩ = some (.int .i64 a))
    (first | exact ⟨k0, k1⟩ | go_keep)
    (first
      | (go_at_call 111; refine (rcopy_any p _ _ (HI1.out.same ⟨1, rfl⟩)).mono ?_; rintro e w1 ⟨v', rfl, ho, hb1⟩; obtain ⟨a2, n2, c2, rfl⟩ := ho.ints.slice3; obtain ⟨⟨k0, k1⟩, _⟩ := two_facts (blk_below (blk_below HX1.out (gr_dr (gr_refl W))) hb1); obtain ⟨⟨q0, q1⟩, ⟨r0, r1⟩⟩ := two_facts (blk_below (blk_below HX2.out (gr_dr (gr_refl W))) hb1)))
  have HF := Lib.hid (two_block (blk_below (blk_below HX2.out (gr_dr (gr_refl W))) hb1) (.slice a2 n2 c2) (.int .i64 a))
  have HW := Lib.hid (two_below (u0 := .slice a2 n2 c2) (u1 := .int .i64 a) (gr_tr (gr_dr HB.out) hb1) (show w.heap.size ≤ w.heap.size + 1 by omega))
  have hlt := lt_of_block HX2.out
  have HV := Lib.hid (OwnKeep.put2 ho (u0 := .slice a2 n2 c2) (u1 := .int .i64 a) (show w.heap.size + 1 < W.drew.heap.size from hlt))
  clear ho hb1
  go_wp2_with fail
  have hf := HF.out; have hw := HW.out; have hv := HV.out
  simp only [put2] at hf hw hv
  generalize World.setCell (World.setCell w1 _ _) _ _ = wf at *
  obtain ⟨⟨j0, j1⟩, _⟩ := two_facts hf
  exact bodyPost_ret (v := .agg #[.slice a2 n2 c2, .int .i64 a]) (by simp [results, Try.results83, go_sem, j0, j1]) rfl ⟨a2, n2, c2, rfl, hv.mono (show w.heap.size ≤ W.heap.size by omega), hw⟩

set_option maxHeartbeats 4000000 in
theorem rporder_any (p q : List Int) (a b : Int) (v1 v2 : Value) (w : World) (h1 : Ints w v1 p) (h2 : Ints w v2 q) :
    Calls Try.prog 41 #[.agg #[v1, .int .i64 a, v2, .int .i64 b]] w (if cmpP q b p a < 0 then OrdPt w q b p a true else OrdPt w p a q b false) := by
  obtain ⟨a1, n1, c1, rfl⟩ := h1.slice3
  obtain ⟨a2, n2, c2, rfl⟩ := h2.slice3
  obtain ⟨hb, hx1, hx2, hx3⟩ := three_boxes w #[.slice a1 n1 c1, .int .i64 a, .slice a2 n2 c2, .int .i64 b] #[.slice none 0 0, .int .i64 0] #[.slice none 0 0, .int .i64 0] 50 35 35
  have HB0 := Lib.hid hb; have HX1 := Lib.hid hx1; have HX2 := Lib.hid hx2; have HX3 := Lib.hid hx3
  have HI1 := Lib.hid (h1.below hb (Nat.le_refl _)); have HI2 := Lib.hid (h2.below hb (Nat.le_refl _))
  clear h1 h2 hb hx1 hx2 hx3
  obtain ⟨Q, hQ⟩ : ∃ Q, (if cmpP q b p a < 0 then OrdPt w q b p a true else OrdPt w p a q b false) = Q := ⟨_, rfl⟩
  rw [hQ]
  have HQ := Lib.hid hQ
  clear hQ
  go_enter Try.func41, Try.ntmps41
  go_upto_region 1 with fail
  generalize World.alloc (World.alloc (World.alloc w _) _) _ = W0 at *
  obtain ⟨⟨k0, k1, k2, k3⟩, _⟩ := four_facts HX1.out
  have HC := Lib.hid (rpcompare_any q p b a _ _ W0 HI2.out HI1.out)
  go_wp2_with fail
  refine HC.out.mono ?_
  rintro e W ⟨rfl, hb0⟩
  replace HX1 := Lib.hid (blk_below HX1.out hb0); replace HX2 := Lib.hid (blk_below HX2.out hb0); replace HX3 := Lib.hid (blk_below HX3.out hb0)
  replace HI1 := Lib.hid (HI1.out.below hb0 (Nat.le_refl _)); replace HI2 := Lib.hid (HI2.out.below hb0 (Nat.le_refl _))
  have HB := Lib.hid (gr_tr HB0.out hb0)
  clear hb0 HC k0 k1 k2 k3 HB0
  by_cases hlt0 : cmpP q b p a < 0
  · have hd : decide (cmpP q b p a < 0) = true := by simpa using hlt0
    have HQT : Hid (OrdPt w q b p a true = Q) := by show _ = _; rw [← HQ.out, if_pos hlt0]
    clear hlt0 HQ
    obtain ⟨k0, k1, k2, k3⟩ := (NF.of HX1.out).later (gr_dr (gr_refl W))
    have hn1 : ∀ (w' : World) (o i : Nat) (u : Value), (w'.setCell ⟨w.heap.size + 1, o, none⟩ u).cell? ⟨w.heap.size, i, none⟩ = w'.cell? ⟨w.heap.size, i, none⟩ := fun w' o i u => World.cell?_setCell_far _ _ _ _ (by simp)
    have hn2 : ∀ (w' : World) (o i : Nat) (u : Value), (w'.setCell ⟨w.heap.size + 1 + 1, o, none⟩ u).cell? ⟨w.heap.size, i, none⟩ = w'.cell? ⟨w.heap.size, i, none⟩ := fun w' o i u => World.cell?_setCell_far _ _ _ _ (by simp; omega)
    go_wp2_with fail
    go_region_held3 (fun w' => w'.cell? ⟨w.heap.size, 0, none⟩ = some (.slice a1 n1 c1) ∧ w'.cell? ⟨w.heap.size, 1, none⟩ = some (.int .i64 a) ∧ w'.cell? ⟨w.heap.size, 2, none⟩ = some (.slice a2 n2 c2) ∧ w'.cell? ⟨w.heap.size, 3, none⟩ = some (.int .i64 b))
      (first | with_reducible exact ⟨k0, k1, k2, k3⟩ | simp only [hn1, hn2, k0, k1, k2, k3, and_self])
      (first
        | (go_at_call 83; refine (rpcopy_any q b _ _ (HI2.out.same ⟨1, rfl⟩)).mono ?_; rintro e w1 ⟨x1, m1, d1, rfl, ho1, hb1⟩; have kf := (show NF w.heap.size (.slice a1 n1 c1) (.int .i64 a) (.slice a2 n2 c2) (.int .i64 b) W.drew from ⟨k0, k1, k2, k3⟩).later hb1; clear k0 k1 k2 k3; obtain ⟨k0, k1, k2, k3⟩ := id kf)
        | (go_at_call 83; refine (rpcopy_any p a _ _ ((HI1.out.same ⟨1, rfl⟩).below hb1 (Nat.le_refl _))).mono ?_; rintro e w2 ⟨x2, m2, d2, rfl, ho2, hb2⟩; have kg := kf.later hb2; clear k0 k1 k2 k3; obtain ⟨k0, k1, k2, k3⟩ := id kg; obtain ⟨⟨q0, q1⟩, ⟨r0, r1⟩⟩ := two_facts (blk_below (blk_below (blk_below HX2.out (gr_dr (gr_refl W))) hb1) hb2); obtain ⟨⟨s0, s1⟩, ⟨t0, t1⟩⟩ := two_facts (blk_below (blk_below (blk_below HX3.out (gr_dr (gr_refl W))) hb1) hb2)))
    have hlt := lt_of_block HX3.out
    have hsz1 := hb1.size
    have hB2 := gr_tr (gr_tr (gr_dr HB.out) hb1) hb2
    have e2 := blk_below (blk_below (blk_below HX2.out (gr_dr (gr_refl W))) hb1) hb2
    have e3 := blk_below (blk_below (blk_below HX3.out (gr_dr (gr_refl W))) hb1) hb2
    have hW3 : Below w.heap.size w (put2 (put2 w2 (w.heap.size + 1) (.slice x1 m1 d1) (.int .i64 b)) (w.heap.size + 1 + 1) (.slice x2 m2 d2) (.int .i64 a)) := two_below (two_below hB2 (by omega)) (by omega)
    have hO1 : Own (put2 (put2 w2 (w.heap.size + 1) (.slice x1 m1 d1) (.int .i64 b)) (w.heap.size + 1 + 1) (.slice x2 m2 d2) (.int .i64 a)) W.drew.heap.size (.slice x1 m1 d1) q :=
      OwnKeep.put2 (OwnKeep.put2 (ho1.below hb2 (Nat.le_refl _)) (show w.heap.size + 1 < W.heap.size by omega)) (show w.heap.size + 1 + 1 < W.heap.size by omega)
    have hO2 : Own (put2 (put2 w2 (w.heap.size + 1) (.slice x1 m1 d1) (.int .i64 b)) (w.heap.size + 1 + 1) (.slice x2 m2 d2) (.int .i64 a)) W.drew.heap.size (.slice x2 m2 d2) p :=
      OwnKeep.put2 (OwnKeep.put2 (ho2.mono hsz1) (show w.heap.size + 1 < W.heap.size by omega)) (show w.heap.size + 1 + 1 < W.heap.size by omega)
    have hE3 := two_block (u0 := .slice x2 m2 d2) (u1 := .int .i64 a) (w' := put2 w2 (w.heap.size + 1) (.slice x1 m1 d1) (.int .i64 b)) (g := w.heap.size + 1 + 1) ((put2_far (by omega)).trans e3)
    have hE2 := (put2_far (w := put2 w2 (w.heap.size + 1) (.slice x1 m1 d1) (.int .i64 b)) (g := w.heap.size + 1 + 1) (u0 := .slice x2 m2 d2) (u1 := .int .i64 a) (b := w.heap.size + 1) (by omega)).trans (two_block e2 (.slice x1 m1 d1) (.int .i64 b))
    have H1 := Lib.hid hW3; have H2 := Lib.hid hO1.ints; have H3 := Lib.hid hO2.ints; have H4 := Lib.hid hE2; have H5 := Lib.hid hE3
    clear hW3 hO1 hO2 hE2 hE3 e2 e3 hB2 hsz1 ho1 ho2 hb1 hb2 kf kg k0 k1 k2 k3 hn1 hn2 q0 q1 r0 r1 s0 s1 t0 t1
    simp only [put2] at H1 H2 H3 H4 H5
    go_wp2_with fail
    generalize World.setCell (World.setCell (World.setCell (World.setCell w2 _ _) _ _) _ _) _ _ = V2 at *
    obtain ⟨⟨j0, j1⟩, _⟩ := two_facts H4.out
    obtain ⟨⟨l0, l1⟩, _⟩ := two_facts H5.out
    exact bodyPost_ret (v := .tuple #[.agg #[.slice x1 m1 d1, .int .i64 b], .agg #[.slice x2 m2 d2, .int .i64 a], .bool true]) (by simp [results, Try.results41, go_sem, j0, j1, l0, l1]) rfl (by rw [← HQT.out]; exact ⟨x1, m1, d1, x2, m2, d2, rfl, H2.out, H3.out, H1.out⟩)
  · have hd : decide (cmpP q b p a < 0) = false := by simpa using hlt0
    have HQT : Hid (OrdPt w p a q b false = Q) := by show _ = _; rw [← HQ.out, if_neg hlt0]
    clear hlt0 HQ
    obtain ⟨k0, k1, k2, k3⟩ := (NF.of HX1.out).later (gr_dr (gr_refl W))
    have hn1 : ∀ (w' : World) (o i : Nat) (u : Value), (w'.setCell ⟨w.heap.size + 1, o, none⟩ u).cell? ⟨w.heap.size, i, none⟩ = w'.cell? ⟨w.heap.size, i, none⟩ := fun w' o i u => World.cell?_setCell_far _ _ _ _ (by simp)
    have hn2 : ∀ (w' : World) (o i : Nat) (u : Value), (w'.setCell ⟨w.heap.size + 1 + 1, o, none⟩ u).cell? ⟨w.heap.size, i, none⟩ = w'.cell? ⟨w.heap.size, i, none⟩ := fun w' o i u => World.cell?_setCell_far _ _ _ _ (by simp; omega)
    go_wp2_with fail
    go_region_held3 (fun w' => w'.cell? ⟨w.heap.size, 0, none⟩ = some (.slice a1 n1 c1) ∧ w'.cell? ⟨w.heap.size, 1, none⟩ = some (.int .i64 a) ∧ w'.cell? ⟨w.heap.size, 2, none⟩ = some (.slice a2 n2 c2) ∧ w'.cell? ⟨w.heap.size, 3, none⟩ = some (.int .i64 b))
      (first | with_reducible exact ⟨k0, k1, k2, k3⟩ | simp only [hn1, hn2, k0, k1, k2, k3, and_self])
      (first
        | (go_at_call 83; refine (rpcopy_any p a _ _ (HI1.out.same ⟨1, rfl⟩)).mono ?_; rintro e w1 ⟨x1, m1, d1, rfl, ho1, hb1⟩; have kf := (show NF w.heap.size (.slice a1 n1 c1) (.int .i64 a) (.slice a2 n2 c2) (.int .i64 b) W.drew from ⟨k0, k1, k2, k3⟩).later hb1; clear k0 k1 k2 k3; obtain ⟨k0, k1, k2, k3⟩ := id kf)
        | (go_at_call 83; refine (rpcopy_any q b _ _ ((HI2.out.same ⟨1, rfl⟩).below hb1 (Nat.le_refl _))).mono ?_; rintro e w2 ⟨x2, m2, d2, rfl, ho2, hb2⟩; have kg := kf.later hb2; clear k0 k1 k2 k3; obtain ⟨k0, k1, k2, k3⟩ := id kg; obtain ⟨⟨q0, q1⟩, ⟨r0, r1⟩⟩ := two_facts (blk_below (blk_below (blk_below HX2.out (gr_dr (gr_refl W))) hb1) hb2); obtain ⟨⟨s0, s1⟩, ⟨t0, t1⟩⟩ := two_facts (blk_below (blk_below (blk_below HX3.out (gr_dr (gr_refl W))) hb1) hb2)))
    have hlt := lt_of_block HX3.out
    have hsz1 := hb1.size
    have hB2 := gr_tr (gr_tr (gr_dr HB.out) hb1) hb2
    have e2 := blk_below (blk_below (blk_below HX2.out (gr_dr (gr_refl W))) hb1) hb2
    have e3 := blk_below (blk_below (blk_below HX3.out (gr_dr (gr_refl W))) hb1) hb2
    have hW3 : Below w.heap.size w (put2 (put2 w2 (w.heap.size + 1) (.slice x1 m1 d1) (.int .i64 a)) (w.heap.size + 1 + 1) (.slice x2 m2 d2) (.int .i64 b)) := two_below (two_below hB2 (by omega)) (by omega)
    have hO1 : Own (put2 (put2 w2 (w.heap.size + 1) (.slice x1 m1 d1) (.int .i64 a)) (w.heap.size + 1 + 1) (.slice x2 m2 d2) (.int .i64 b)) W.drew.heap.size (.slice x1 m1 d1) p :=
      OwnKeep.put2 (OwnKeep.put2 (ho1.below hb2 (Nat.le_refl _)) (show w.heap.size + 1 < W.heap.size by omega)) (show w.heap.size + 1 + 1 < W.heap.size by omega)
    have hO2 : Own (put2 (put2 w2 (w.heap.size + 1) (.slice x1 m1 d1) (.int .i64 a)) (w.heap.size + 1 + 1) (.slice x2 m2 d2) (.int .i64 b)) W.drew.heap.size (.slice x2 m2 d2) q :=
      OwnKeep.put2 (OwnKeep.put2 (ho2.mono hsz1) (show w.heap.size + 1 < W.heap.size by omega)) (show w.heap.size + 1 + 1 < W.heap.size by omega)
    have hE3 := two_block (u0 := .slice x2 m2 d2) (u1 := .int .i64 b) (w' := put2 w2 (w.heap.size + 1) (.slice x1 m1 d1) (.int .i64 a)) (g := w.heap.size + 1 + 1) ((put2_far (by omega)).trans e3)
    have hE2 := (put2_far (w := put2 w2 (w.heap.size + 1) (.slice x1 m1 d1) (.int .i64 a)) (g := w.heap.size + 1 + 1) (u0 := .slice x2 m2 d2) (u1 := .int .i64 b) (b := w.heap.size + 1) (by omega)).trans (two_block e2 (.slice x1 m1 d1) (.int .i64 a))
    have H1 := Lib.hid hW3; have H2 := Lib.hid hO1.ints; have H3 := Lib.hid hO2.ints; have H4 := Lib.hid hE2; have H5 := Lib.hid hE3
    clear hW3 hO1 hO2 hE2 hE3 e2 e3 hB2 hsz1 ho1 ho2 hb1 hb2 kf kg k0 k1 k2 k3 hn1 hn2 q0 q1 r0 r1 s0 s1 t0 t1
    simp only [put2] at H1 H2 H3 H4 H5
    go_wp2_with fail
    generalize World.setCell (World.setCell (World.setCell (World.setCell w2 _ _) _ _) _ _) _ _ = V2 at *
    obtain ⟨⟨j0, j1⟩, _⟩ := two_facts H4.out
    obtain ⟨⟨l0, l1⟩, _⟩ := two_facts H5.out
    exact bodyPost_ret (v := .tuple #[.agg #[.slice x1 m1 d1, .int .i64 a], .agg #[.slice x2 m2 d2, .int .i64 b], .bool false]) (by simp [results, Try.results41, go_sem, j0, j1, l0, l1]) rfl (by rw [← HQT.out]; exact ⟨x1, m1, d1, x2, m2, d2, rfl, H2.out, H3.out, H1.out⟩)

/-- The point behind a leaf's text. -/
theorem text_form {S : Nat → Prop} {w : World} {cs : List Value} {t : Tree} (h : NodeAt S w cs t) : ∃ (a1 : Option Addr) (n1 c1 : Nat) (a2 : Option Addr) (c2 : Nat) (a3 : Option Addr) (n3 c3 : Nat), cs = [.bool t.leaf, .slice a1 n1 c1, .slice a2 t.text.length c2, .slice a3 n3 c3] := by
  obtain ⟨pv, tv, kv, es, rfl, h1, h2, h3, hl, _⟩ := h.open_
  obtain ⟨a1, c1, rfl⟩ := h1.slice
  obtain ⟨a2, c2, rfl⟩ := h2.slice
  obtain ⟨a3, c3, rfl⟩ := h3.slice
  refine ⟨a1, (t.props.map propCells).length, c1, a2, c2, a3, es.length, c3, ?_⟩
  simp only [List.length_map]

set_option maxHeartbeats 1000000 in
theorem rend_any (S : Nat → Prop) (t s : Tree) (cs : List Value) (p : List Int) (v : Value) (w : World) (h : NodeAt S w cs t) (hp : Ints w v p) (hi : I64 p) (hg : getT t p = some s) :
    Calls Try.prog 84 #[.agg (List.toArray cs), v] w fun e w' => e = .returned (.agg #[v, .int .i64 s.text.length]) ∧ Below w.heap.size w w' := by
  obtain ⟨a1, n1, c1, a2, n2, c2, a3, n3, c3, rfl⟩ := h.form
  obtain ⟨ap, np, cp, rfl⟩ := hp.slice3
  obtain ⟨hb, hx1, hx2⟩ := two_boxes w #[.bool t.leaf, .slice a1 n1 c1, .slice a2 n2 c2, .slice a3 n3 c3] #[.slice none 0 0, .int .i64 0] 26 35
  have HB := Lib.hid hb; have HX1 := Lib.hid hx1; have HX2 := Lib.hid hx2
  have HN := Lib.hid (h.boxed hb); have HP := Lib.hid (hp.below hb (Nat.le_refl _)); have HI := Lib.hid hi; have HG := Lib.hid hg
  clear h hp hi hg hb hx1 hx2
  go_enter Try.func84, Try.ntmps84
  go_upto_region 1 with fail
  generalize World.alloc (World.alloc w _) _ = W at *
  obtain ⟨⟨k0, k1, k2, k3⟩, _⟩ := four_facts HX1.out
  have hc := rget_any S t _ p _ W HN.out HP.out HI.out
  rw [HG.out] at hc
  have HC := Lib.hid hc
  clear hc
  go_wp2_with fail
  refine HC.out.mono ?_
  rintro e w1 ⟨hb1, ⟨h0, -⟩ | ⟨ds, s', h0, rfl, ht⟩⟩
  · cases h0
  obtain rfl := Option.some.inj h0
  obtain ⟨q1, r1, s1, q2, s2, q3, r3, s3, hds⟩ := text_form ht.nodeAt
  subst hds
  have HB1 := Lib.hid (gr_tr HB.out hb1); have HX1' := Lib.hid (blk_below HX2.out hb1)
  have hne : w1.heap.size ≠ w.heap.size + 1 := by have := lt_of_block HX2.out; have := hb1.size; omega
  generalize s.leaf = lf at *
  clear ht h0 hb1 HC k0 k1 k2 k3
  go_upto_region 2 with fail
  have hal := gr_al (gr_refl w1) (.cells #[.bool lf, .slice q1 r1 s1, .slice q2 s.text.length s2, .slice q3 r3 s3] 26)
  have hnb := heap_alloc_new w1 (.cells #[.bool lf, .slice q1 r1 s1, .slice q2 s.text.length s2, .slice q3 r3 s3] 26)
  generalize World.alloc w1 _ = V at *
  obtain ⟨⟨k0, k1, k2, k3⟩, _⟩ := four_facts hnb
  obtain ⟨_, ⟨m0, m1⟩⟩ := two_facts (blk_below HX1'.out hal)
  obtain ⟨⟨q0, q1'⟩, _⟩ := two_facts (blk_below HX1'.out hal)
  have HF := Lib.hid (two_block (blk_below HX1'.out hal) (.slice ap np cp) (.int .i64 s.text.length))
  have HW := Lib.hid (two_below (u0 := .slice ap np cp) (u1 := .int .i64 s.text.length) (gr_tr HB1.out hal) (show w.heap.size ≤ w.heap.size + 1 by omega))
  clear hal hnb
  go_wp2_with fail
  have hf := HF.out; have hw := HW.out
  simp only [put2] at hf hw
  generalize World.setCell (World.setCell V _ _) _ _ = wf at *
  obtain ⟨⟨j0, j1⟩, _⟩ := two_facts hf
  exact bodyPost_ret (v := .agg #[.slice ap np cp, .int .i64 s.text.length]) (by simp [results, Try.results84, go_sem, j0, j1]) rfl ⟨rfl, hw⟩
end Go.Proofs.Ytdcpoeaddhbjbaa
