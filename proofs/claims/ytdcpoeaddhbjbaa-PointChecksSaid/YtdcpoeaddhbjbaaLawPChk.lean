/- The walk of the law PointChecks. -/
import Derived.Test.YtdcpoeaddhbjbaaSel
import Derived.Test.YtdcpoeaddhbjbaaOpenSel
import Derived.Deep.RegionHeld3
namespace Go.Proofs.Ytdcpoeaddhbjbaa
set_option maxRecDepth 100000
open Go.RowKit

theorem cselL {W : World} {t : Tree} {cs : List Value} {is : Bool} {p q : List Int} {a b z : Int} {v1 v2 : Value} (h : NodeAt Any W cs t) (h1 : Ints W v1 p) (h2 : Ints W v2 q) (i1 : I64 p) (i2 : I64 q) (hz : selR t is p a q b = z) :
    ∀ w', Below W.heap.size W w' → Calls Try.prog 37 #[.agg (List.toArray cs), .agg #[.bool is, v1, .int .i64 a, v2, .int .i64 b]] w' fun e w'' => e = .returned (.int .i64 z) ∧ Below W.heap.size W w'' := fun w' hb => by
  refine (csel_any t cs is p q a b v1 v2 w' (h.boxed hb) (h1.below hb (Nat.le_refl _)) (h2.below hb (Nat.le_refl _)) i1 i2).mono ?_
  rintro e w'' ⟨rfl, hb2⟩
  exact ⟨by rw [hz], gr_tr hb hb2⟩
theorem rcselL {W : World} {t : Tree} {cs : List Value} {is : Bool} {p q : List Int} {a b z : Int} {v1 v2 : Value} (h : NodeAt Any W cs t) (h1 : Ints W v1 p) (h2 : Ints W v2 q) (i1 : I64 p) (i2 : I64 q) (hz : selR t is p a q b = z) :
    ∀ w', Below W.heap.size W w' → Calls Try.prog 38 #[.agg (List.toArray cs), .agg #[.bool is, v1, .int .i64 a, v2, .int .i64 b]] w' fun e w'' => e = .returned (.int .i64 z) ∧ Below W.heap.size W w'' := fun w' hb => by
  refine (rcsel_any t cs is p q a b v1 v2 w' (h.boxed hb) (h1.below hb (Nat.le_refl _)) (h2.below hb (Nat.le_refl _)) i1 i2).mono ?_
  rintro e w'' ⟨rfl, hb2⟩
  exact ⟨by rw [hz], gr_tr hb hb2⟩
theorem sselL {W : World} {is is' : Bool} {p q p' q' : List Int} {a b a' b' : Int} {z : Bool} {v1 v2 v3 v4 : Value} (h1 : Ints W v1 p) (h2 : Ints W v2 q) (h3 : Ints W v3 p') (h4 : Ints W v4 q') (hz : sselB is p a q b is' p' a' q' b' = z) :
    ∀ w', Below W.heap.size W w' → Calls Try.prog 39 #[.agg #[.bool is, v1, .int .i64 a, v2, .int .i64 b], .agg #[.bool is', v3, .int .i64 a', v4, .int .i64 b']] w' fun e w'' => e = .returned (.bool z) ∧ Below W.heap.size W w'' := fun w' hb => by
  refine (ssel_any is is' p q p' q' a b a' b' v1 v2 v3 v4 w' (h1.below hb (Nat.le_refl _)) (h2.below hb (Nat.le_refl _)) (h3.below hb (Nat.le_refl _)) (h4.below hb (Nat.le_refl _))).mono ?_
  rintro e w'' ⟨rfl, hb2⟩
  exact ⟨by rw [hz], gr_tr hb hb2⟩
theorem rsselL {W : World} {is is' : Bool} {p q p' q' : List Int} {a b a' b' : Int} {z : Bool} {v1 v2 v3 v4 : Value} (h1 : Ints W v1 p) (h2 : Ints W v2 q) (h3 : Ints W v3 p') (h4 : Ints W v4 q') (hz : sselB is p a q b is' p' a' q' b' = z) :
    ∀ w', Below W.heap.size W w' → Calls Try.prog 40 #[.agg #[.bool is, v1, .int .i64 a, v2, .int .i64 b], .agg #[.bool is', v3, .int .i64 a', v4, .int .i64 b']] w' fun e w'' => e = .returned (.bool z) ∧ Below W.heap.size W w'' := fun w' hb => by
  refine (rssel_any is is' p q p' q' a b a' b' v1 v2 v3 v4 w' (h1.below hb (Nat.le_refl _)) (h2.below hb (Nat.le_refl _)) (h3.below hb (Nat.le_refl _)) (h4.below hb (Nat.le_refl _))).mono ?_
  rintro e w'' ⟨rfl, hb2⟩
  exact ⟨by rw [hz], gr_tr hb hb2⟩

theorem four_boxes (w : World) (c1 c2 c3 c4 : Array Value) (t1 t2 t3 t4 : TypeId) : Below w.heap.size w ((((w.alloc (.cells c1 t1)).alloc (.cells c2 t2)).alloc (.cells c3 t3)).alloc (.cells c4 t4)) ∧
    ((((w.alloc (.cells c1 t1)).alloc (.cells c2 t2)).alloc (.cells c3 t3)).alloc (.cells c4 t4)).heap[w.heap.size]? = some (.cells c1 t1 (0, 0)) ∧ ((((w.alloc (.cells c1 t1)).alloc (.cells c2 t2)).alloc (.cells c3 t3)).alloc (.cells c4 t4)).heap[w.heap.size + 1]? = some (.cells c2 t2 (0, 0)) ∧
      ((((w.alloc (.cells c1 t1)).alloc (.cells c2 t2)).alloc (.cells c3 t3)).alloc (.cells c4 t4)).heap[w.heap.size + 1 + 1]? = some (.cells c3 t3 (0, 0)) ∧ ((((w.alloc (.cells c1 t1)).alloc (.cells c2 t2)).alloc (.cells c3 t3)).alloc (.cells c4 t4)).heap[w.heap.size + 1 + 1 + 1]? = some (.cells c4 t4 (0, 0)) := by
  obtain ⟨h1, h2, h3⟩ := two_boxes w c1 c2 t1 t2
  have h4 := heap_alloc_new ((w.alloc (.cells c1 t1)).alloc (.cells c2 t2)) (.cells c3 t3)
  rw [show ((w.alloc (.cells c1 t1)).alloc (.cells c2 t2)).heap.size = w.heap.size + 1 + 1 by simp] at h4
  have h5 := heap_alloc_new (((w.alloc (.cells c1 t1)).alloc (.cells c2 t2)).alloc (.cells c3 t3)) (.cells c4 t4)
  rw [show (((w.alloc (.cells c1 t1)).alloc (.cells c2 t2)).alloc (.cells c3 t3)).heap.size = w.heap.size + 1 + 1 + 1 by simp] at h5
  exact ⟨gr_al (gr_al h1 _) _, blk_below (blk_below h2 (gr_al (gr_refl _) _)) (gr_al (gr_refl _) _), blk_below (blk_below h3 (gr_al (gr_refl _) _)) (gr_al (gr_refl _) _), blk_below h4 (gr_al (gr_refl _) _), h5⟩

set_option maxHeartbeats 8000000 in
set_option maxRecDepth 1000000 in
theorem law_pchk (t : Tree) (x : List Int × Int) (y z : Bool × (List Int × Int) × (List Int × Int)) (v1 v2 v3 v4 : Value) (w : World) (h1 : NodeV w v1 t) (h2 : PointV w v2 x) (h3 : SelV w v3 y) (h4 : SelV w v4 z) :
    Calls Try.prog 8 #[v1, v2, v3, v4] w (Yes w) := by
  obtain ⟨p, a⟩ := x
  obtain ⟨is, ⟨p1, o1⟩, ⟨p2, o2⟩⟩ := y
  obtain ⟨it, ⟨p3, o3⟩, ⟨p4, o4⟩⟩ := z
  obtain ⟨cs, rfl, hn⟩ := h1
  obtain ⟨a1, n1, c1, a2, n2, c2, a3, n3, c3, rfl⟩ := hn.form
  obtain ⟨ap, np, cp, rfl, ip, i64p⟩ := h2
  obtain ⟨b1, m1, d1, b2, m2, d2, rfl, ⟨i1, j1⟩, i2, j2⟩ := h3
  obtain ⟨b3, m3, d3, b4, m4, d4, rfl, ⟨i3, j3⟩, i4, j4⟩ := h4
  obtain ⟨hb, hx1, hx2, hx3, hx4⟩ := four_boxes w #[.bool t.leaf, .slice a1 n1 c1, .slice a2 n2 c2, .slice a3 n3 c3] #[.slice ap np cp, .int .i64 a] #[.bool is, .slice b1 m1 d1, .int .i64 o1, .slice b2 m2 d2, .int .i64 o2] #[.bool it, .slice b3 m3 d3, .int .i64 o3, .slice b4 m4 d4, .int .i64 o4] 26 35 58 58
  have HB := Lib.hid hb; have HX1 := Lib.hid hx1; have HX2 := Lib.hid hx2; have HX3 := Lib.hid hx3; have HX4 := Lib.hid hx4
  have HN := Lib.hid (hn.boxed hb); have HP := Lib.hid (ip.below hb (Nat.le_refl _)); have HI := Lib.hid i64p
  have H1 := Lib.hid (i1.below hb (Nat.le_refl _)); have H2 := Lib.hid (i2.below hb (Nat.le_refl _)); have H3 := Lib.hid (i3.below hb (Nat.le_refl _)); have H4 := Lib.hid (i4.below hb (Nat.le_refl _)); have J1 := Lib.hid j1; have J2 := Lib.hid j2
  clear hn ip i64p i1 i2 i3 i4 j1 j2 j3 j4 hb hx1 hx2 hx3 hx4
  go_enter Try.func8, Try.ntmps8
  go_upto_region 1 with fail
  generalize World.alloc (World.alloc (World.alloc (World.alloc w _) _) _) _ = W at *
  have BX : Hid (∀ w', Below W.heap.size W w' → w'.cell? ⟨w.heap.size, 0, none⟩ = some (.bool t.leaf) ∧ w'.cell? ⟨w.heap.size, 1, none⟩ = some (.slice a1 n1 c1) ∧ w'.cell? ⟨w.heap.size, 2, none⟩ = some (.slice a2 n2 c2) ∧ w'.cell? ⟨w.heap.size, 3, none⟩ = some (.slice a3 n3 c3) ∧
      w'.cell? ⟨w.heap.size + 1, 0, none⟩ = some (.slice ap np cp) ∧ w'.cell? ⟨w.heap.size + 1, 1, none⟩ = some (.int .i64 a) ∧
      w'.cell? ⟨w.heap.size + 1 + 1, 0, none⟩ = some (.bool is) ∧ w'.cell? ⟨w.heap.size + 1 + 1, 1, none⟩ = some (.slice b1 m1 d1) ∧ w'.cell? ⟨w.heap.size + 1 + 1, 2, none⟩ = some (.int .i64 o1) ∧ w'.cell? ⟨w.heap.size + 1 + 1, 3, none⟩ = some (.slice b2 m2 d2) ∧ w'.cell? ⟨w.heap.size + 1 + 1, 4, none⟩ = some (.int .i64 o2) ∧
      w'.cell? ⟨w.heap.size + 1 + 1 + 1, 0, none⟩ = some (.bool it) ∧ w'.cell? ⟨w.heap.size + 1 + 1 + 1, 1, none⟩ = some (.slice b3 m3 d3) ∧ w'.cell? ⟨w.heap.size + 1 + 1 + 1, 2, none⟩ = some (.int .i64 o3) ∧ w'.cell? ⟨w.heap.size + 1 + 1 + 1, 3, none⟩ = some (.slice b4 m4 d4) ∧ w'.cell? ⟨w.heap.size + 1 + 1 + 1, 4, none⟩ = some (.int .i64 o4)) := by
    intro w' l
    obtain ⟨e0, e1, e2, e3⟩ := (four_facts (blk_below HX1.out l)).1
    obtain ⟨e4, e5⟩ := (two_facts (blk_below HX2.out l)).1
    obtain ⟨e6, e7, e8, e9, e10⟩ := five_facts (blk_below HX3.out l)
    obtain ⟨e11, e12, e13, e14, e15⟩ := five_facts (blk_below HX4.out l)
    exact ⟨e0, e1, e2, e3, e4, e5, e6, e7, e8, e9, e10, e11, e12, e13, e14, e15⟩
  have C1 := Lib.hid (chkL (off := a) HN.out HP.out HI.out rfl)
  have C2 := Lib.hid (rchkL (off := a) HN.out HP.out HI.out rfl)
  have C3 := Lib.hid (cselL (is := is) (a := o1) (b := o2) HN.out H1.out H2.out J1.out J2.out rfl)
  have C4 := Lib.hid (rcselL (is := is) (a := o1) (b := o2) HN.out H1.out H2.out J1.out J2.out rfl)
  have C5 := Lib.hid (sselL (is := is) (is' := it) (a := o1) (b := o2) (a' := o3) (b' := o4) H1.out H2.out H3.out H4.out rfl)
  have C6 := Lib.hid (rsselL (is := is) (is' := it) (a := o1) (b := o2) (a' := o3) (b' := o4) H1.out H2.out H3.out H4.out rfl)
  generalize checkT t p a = z1 at *
  generalize selR t is p1 o1 p2 o2 = z2 at *
  generalize sselB is p1 o1 p2 o2 it p3 o3 p4 o4 = z3 at *
  go_wp2_with fail
  refine (live7_any W).mono ?_
  rintro e w1 ⟨rfl, l⟩
  obtain ⟨e0, e1, e2, e3, e4, e5, e6, e7, e8, e9, e10, e11, e12, e13, e14, e15⟩ := BX.out _ l
  have L := Lib.hid l
  clear l
  go_wp2_with fail
  refine (fewN_any t _ Any 150 _ (HN.out.boxed L.out)).mono ?_
  rintro e w2 ⟨fw, rfl, l2⟩
  have L2 := Lib.hid (gr_tr L.out l2)
  clear l2 L e0 e1 e2 e3 e4 e5 e6 e7 e8 e9 e10 e11 e12 e13 e14 e15
  obtain ⟨e0, e1, e2, e3, e4, e5, e6, e7, e8, e9, e10, e11, e12, e13, e14, e15⟩ := BX.out _ L2.out
  cases fw
  · go_wp2_with fail
    go_ret
    exact ⟨rfl, gr_tr HB.out L2.out⟩
  · go_wp2_with fail
    refine (short7_any 5 _ _ (pts_lit [[.slice ap np cp, .int .i64 a], [.slice b1 m1 d1, .int .i64 o1], [.slice b2 m2 d2, .int .i64 o2], [.slice b3 m3 d3, .int .i64 o3], [.slice b4 m4 d4, .int .i64 o4]] rfl rfl (by decide) rfl (by simp))).mono ?_
    rintro e w3 ⟨sh, rfl, l3⟩
    have L3 := Lib.hid (gr_tr (gr_al L2.out _) l3)
    clear l3 L2 e0 e1 e2 e3 e4 e5 e6 e7 e8 e9 e10 e11 e12 e13 e14 e15
    cases sh
    · go_wp2_with fail
      go_ret
      exact ⟨rfl, gr_tr HB.out L3.out⟩
    · have l : Below W.heap.size W w3.drew := gr_dr L3.out
      go_wp2_with fail
      go_region_held3 (fun w' => w'.cell? ⟨w.heap.size, 0, none⟩ = some (.bool t.leaf) ∧ w'.cell? ⟨w.heap.size, 1, none⟩ = some (.slice a1 n1 c1) ∧ w'.cell? ⟨w.heap.size, 2, none⟩ = some (.slice a2 n2 c2) ∧ w'.cell? ⟨w.heap.size, 3, none⟩ = some (.slice a3 n3 c3) ∧
          w'.cell? ⟨w.heap.size + 1, 0, none⟩ = some (.slice ap np cp) ∧ w'.cell? ⟨w.heap.size + 1, 1, none⟩ = some (.int .i64 a) ∧
          w'.cell? ⟨w.heap.size + 1 + 1, 0, none⟩ = some (.bool is) ∧ w'.cell? ⟨w.heap.size + 1 + 1, 1, none⟩ = some (.slice b1 m1 d1) ∧ w'.cell? ⟨w.heap.size + 1 + 1, 2, none⟩ = some (.int .i64 o1) ∧ w'.cell? ⟨w.heap.size + 1 + 1, 3, none⟩ = some (.slice b2 m2 d2) ∧ w'.cell? ⟨w.heap.size + 1 + 1, 4, none⟩ = some (.int .i64 o2) ∧
          w'.cell? ⟨w.heap.size + 1 + 1 + 1, 0, none⟩ = some (.bool it) ∧ w'.cell? ⟨w.heap.size + 1 + 1 + 1, 1, none⟩ = some (.slice b3 m3 d3) ∧ w'.cell? ⟨w.heap.size + 1 + 1 + 1, 2, none⟩ = some (.int .i64 o3) ∧ w'.cell? ⟨w.heap.size + 1 + 1 + 1, 3, none⟩ = some (.slice b4 m4 d4) ∧ w'.cell? ⟨w.heap.size + 1 + 1 + 1, 4, none⟩ = some (.int .i64 o4))
        (exact BX.out _ l)
        (first
          | ((try rw [if_pos (by rfl)]); (try go_simp); go_at_call 18; (with_reducible refine (C1.out _ l).mono ?_); clear l; rintro e w5 ⟨rfl, l⟩; (try dsimp only))
          | ((try rw [if_pos (by rfl)]); (try go_simp); go_at_call 36; (with_reducible refine (C2.out _ l).mono ?_); clear l; rintro e w5 ⟨rfl, l⟩; (try dsimp only))
          | ((try rw [if_pos (by rfl)]); (try go_simp); go_at_call 37; (with_reducible refine (C3.out _ l).mono ?_); clear l; rintro e w5 ⟨rfl, l⟩; (try dsimp only))
          | ((try rw [if_pos (by rfl)]); (try go_simp); go_at_call 38; (with_reducible refine (C4.out _ l).mono ?_); clear l; rintro e w5 ⟨rfl, l⟩; (try dsimp only))
          | ((try rw [if_pos (by rfl)]); (try go_simp); go_at_call 39; (with_reducible refine (C5.out _ l).mono ?_); clear l; rintro e w5 ⟨rfl, l⟩; (try dsimp only))
          | ((try rw [if_pos (by rfl)]); (try go_simp); go_at_call 40; (with_reducible refine (C6.out _ l).mono ?_); clear l; rintro e w5 ⟨rfl, l⟩; (try dsimp only)))
      go_wp2_with fail
      go_ret
      exact ⟨rfl, gr_tr HB.out l⟩
end Go.Proofs.Ytdcpoeaddhbjbaa
