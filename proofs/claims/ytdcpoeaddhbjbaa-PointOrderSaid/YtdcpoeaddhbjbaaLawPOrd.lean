/- The walk of the law PointOrder. -/
import Derived.Test.YtdcpoeaddhbjbaaPOrder
import Derived.Test.YtdcpoeaddhbjbaaOpenPt
namespace Go.Proofs.Ytdcpoeaddhbjbaa
set_option maxRecDepth 100000
open Go.RowKit

/-- The cells of two points' boxes. -/
theorem boxes2 {W : World} {g1 g2 : Nat} {x0 x1 y0 y1 : Value} {t : TypeId} (h1 : W.heap[g1]? = some (.cells #[x0, x1] t (0, 0))) (h2 : W.heap[g2]? = some (.cells #[y0, y1] t (0, 0))) :
    ∀ w', Below W.heap.size W w' → w'.cell? ⟨g1, 0, none⟩ = some x0 ∧ w'.cell? ⟨g1, 1, none⟩ = some x1 ∧ w'.cell? ⟨g2, 0, none⟩ = some y0 ∧ w'.cell? ⟨g2, 1, none⟩ = some y1 := fun w' hb => by
  obtain ⟨⟨a, b⟩, _⟩ := two_facts (blk_below h1 hb)
  obtain ⟨⟨c, d⟩, _⟩ := two_facts (blk_below h2 hb)
  exact ⟨a, b, c, d⟩
/-- A comparison in any later world. -/
theorem cmp_later {W : World} {p q : List Int} {a b x : Int} {v1 v2 : Value} (h1 : Ints W v1 p) (h2 : Ints W v2 q) (hx : cmpP p a q b = x) :
    ∀ w', Below W.heap.size W w' → Calls Try.prog 33 #[.agg #[v1, .int .i64 a], .agg #[v2, .int .i64 b]] w' fun e w'' => e = .returned (.int .i64 x) ∧ Below W.heap.size W w'' := fun w' hb => by
  refine (pcompare_any p q a b v1 v2 w' (h1.below hb (Nat.le_refl _)) (h2.below hb (Nat.le_refl _))).mono ?_
  rintro e w'' ⟨rfl, hb2⟩
  exact ⟨by rw [hx], gr_tr hb hb2⟩
theorem same_later {W : World} {p q : List Int} {a b : Int} {x : Bool} {v1 v2 : Value} (h1 : Ints W v1 p) (h2 : Ints W v2 q) (hx : (cmpP p a q b == 0) = x) :
    ∀ w', Below W.heap.size W w' → Calls Try.prog 32 #[.agg #[v1, .int .i64 a], .agg #[v2, .int .i64 b]] w' fun e w'' => e = .returned (.bool x) ∧ Below W.heap.size W w'' := fun w' hb => by
  refine (psame_any p q a b v1 v2 w' (h1.below hb (Nat.le_refl _)) (h2.below hb (Nat.le_refl _))).mono ?_
  rintro e w'' ⟨rfl, hb2⟩
  exact ⟨by rw [hx], gr_tr hb hb2⟩

set_option maxHeartbeats 8000000 in
set_option maxRecDepth 1000000 in
theorem law_pord (x y z : List Int × Int) (v1 v2 v3 : Value) (w : World) (h1 : PointV w v1 x) (h2 : PointV w v2 y) (h3 : PointV w v3 z) :
    Calls Try.prog 6 #[v1, v2, v3] w (Yes w) := by
  obtain ⟨p, a⟩ := x
  obtain ⟨q, b⟩ := y
  obtain ⟨r, c⟩ := z
  obtain ⟨a1, n1, c1, rfl, i1, _⟩ := h1
  obtain ⟨a2, n2, c2, rfl, i2, _⟩ := h2
  obtain ⟨a3, n3, c3, rfl, i3, _⟩ := h3
  obtain ⟨hb, hx1, hx2, hx3⟩ := three_boxes w #[.slice a1 n1 c1, .int .i64 a] #[.slice a2 n2 c2, .int .i64 b] #[.slice a3 n3 c3, .int .i64 c] 35 35 35
  have HB := Lib.hid hb; have HX1 := Lib.hid hx1; have HX2 := Lib.hid hx2; have HX3 := Lib.hid hx3
  have HI1 := Lib.hid (i1.below hb (Nat.le_refl _)); have HI2 := Lib.hid (i2.below hb (Nat.le_refl _)); have HI3 := Lib.hid (i3.below hb (Nat.le_refl _))
  clear i1 i2 i3 hb hx1 hx2 hx3
  go_enter Try.func6, Try.ntmps6
  go_upto_region 1 with fail
  generalize World.alloc (World.alloc (World.alloc w _) _) _ = W at *
  have BAB := Lib.hid (boxes2 HX1.out HX2.out)
  have BC := Lib.hid (boxes2 HX3.out HX3.out)
  go_wp2_with fail
  refine (live7_any W).mono ?_
  rintro e w1 ⟨rfl, l⟩
  obtain ⟨k0, k1, q0, q1⟩ := BAB.out _ l
  obtain ⟨r0, r1, _, _⟩ := BC.out _ l
  have L := Lib.hid l
  clear l
  go_wp2_with fail
  refine (short7_any 3 _ _ (pts_lit [[.slice a1 n1 c1, .int .i64 a], [.slice a2 n2 c2, .int .i64 b], [.slice a3 n3 c3, .int .i64 c]] rfl rfl (by decide) rfl (by simp))).mono ?_
  rintro e w2 ⟨sh, rfl, l2⟩
  have L2 := Lib.hid (gr_tr (gr_al L.out _) l2)
  clear l2 k0 k1 q0 q1 r0 r1 L
  cases sh
  · go_wp2_with fail
    go_ret
    exact ⟨rfl, gr_tr HB.out L2.out⟩
  · obtain ⟨k0, k1, q0, q1⟩ := BAB.out _ L2.out
    go_wp2_with fail
    refine (porder_any p q a b _ _ _ (HI1.out.below L2.out (Nat.le_refl _)) (HI2.out.below L2.out (Nat.le_refl _))).mono ?_
    intro e w3 ho
    clear k0 k1 q0 q1
    have hn := cmpP_neg p q a b
    rcases cmpP_range p q a b with hc | hc | hc
    · rw [if_neg (by omega)] at ho
      have hnb : cmpP q b p a = 1 := by omega
      obtain ⟨s1, m1, d1, s2, m2, d2, rfl, j1, j2, l3⟩ := ho
      have HAB := Lib.hid (cmp_later HI1.out HI2.out hc); have HBA := Lib.hid (cmp_later HI2.out HI1.out hnb)
      have HSS := Lib.hid (same_later (x := false) HI1.out HI2.out (by rw [hc]; rfl))
      have hbs := two_boxes w3 #[.slice s1 m1 d1, .int .i64 a] #[.slice s2 m2 d2, .int .i64 b] 35 35
      have LL := Lib.hid (gr_tr L2.out l3)
      have HC := Lib.hid hc
      clear hn hc hnb l3
      go_upto_if 26 with fail
      obtain ⟨l4, y1, y2⟩ := hbs
      have J1 := Lib.hid (j1.below l4 (Nat.le_refl _)); have J2 := Lib.hid (j2.below l4 (Nat.le_refl _))
      have l := gr_tr LL.out l4
      clear l4 j1 j2 LL
      generalize World.alloc (World.alloc w3 _) _ = w4 at *
      obtain ⟨k0, k1, q0, q1⟩ := BAB.out _ l
      obtain ⟨⟨y0, y1'⟩, _⟩ := two_facts y1
      obtain ⟨⟨z0, z1'⟩, _⟩ := two_facts y2
      have Y1 := Lib.hid y1; have Y2 := Lib.hid y2; have L4 := Lib.hid l
      clear y1 y2 l
      go_cut [] (fun wx => Below W.heap.size W wx)
      case first =>
        go_wp2_with fail
        refine (psame_any p p a a _ _ _ J1.out (HI1.out.below L4.out (Nat.le_refl _))).mono ?_
        rintro e w5 ⟨rfl, l5⟩
        rw [cmpP_self]
        have L5 := Lib.hid (gr_tr L4.out l5)
        have Y3 := Lib.hid (blk_below Y1.out l5); have Y4 := Lib.hid (blk_below Y2.out l5); have J3 := Lib.hid (J2.out.below l5 (Nat.le_refl _))
        clear l5 k0 k1 q0 q1 y0 y1' z0 z1'
        obtain ⟨k0, k1, q0, q1⟩ := BAB.out _ L5.out
        obtain ⟨⟨z0, z1'⟩, _⟩ := two_facts Y4.out
        go_wp2_with fail
        refine (psame_any q q b b _ _ _ J3.out (HI2.out.below L5.out (Nat.le_refl _))).mono ?_
        rintro e w6 ⟨rfl, l6⟩
        rw [cmpP_self]
        have L6 := Lib.hid (gr_tr L5.out l6)
        clear l6 k0 k1 q0 q1 z0 z1'
        obtain ⟨k0, k1, q0, q1⟩ := BAB.out _ L6.out
        go_wp2_with fail
        refine (HAB.out _ L6.out).mono ?_
        rintro e w7 ⟨rfl, l7⟩
        go_wp2_with fail
        go_meet
        exact l7
      case rest =>
        have l : Below W.heap.size W wc.drew := gr_dr hcut
        clear k0 k1 q0 q1 y0 y1' z0 z1' hcut L4 Y1 Y2 J1 J2
        go_wp2_with fail
        go_region_held3 (fun w' => w'.cell? ⟨w.heap.size, 0, none⟩ = some (.slice a1 n1 c1) ∧ w'.cell? ⟨w.heap.size, 1, none⟩ = some (.int .i64 a) ∧ w'.cell? ⟨w.heap.size + 1, 0, none⟩ = some (.slice a2 n2 c2) ∧ w'.cell? ⟨w.heap.size + 1, 1, none⟩ = some (.int .i64 b))
          (exact BAB.out _ l)
          (first
            | ((try rw [if_pos (by rfl)]); (try go_simp); go_at_call 33; (with_reducible refine (HAB.out _ l).mono ?_); clear l; rintro e w5 ⟨rfl, l⟩; (try dsimp only))
            | ((try rw [if_pos (by rfl)]); (try go_simp); go_at_call 33; (with_reducible refine (HBA.out _ l).mono ?_); clear l; rintro e w5 ⟨rfl, l⟩; (try dsimp only))
            | ((try rw [if_pos (by rfl)]); (try go_simp); go_at_call 32; (with_reducible refine (HSS.out _ l).mono ?_); clear l; rintro e w5 ⟨rfl, l⟩; (try dsimp only)))
        go_wp2_with fail
        refine (HAB.out _ l).mono ?_
        clear l
        rintro e w8 ⟨rfl, l⟩
        have L8 := Lib.hid l
        obtain ⟨k0, k1, q0, q1⟩ := BAB.out _ l
        obtain ⟨r0, r1, _, _⟩ := BC.out _ l
        clear l
        rcases cmpP_range q r b c with hd | hd | hd
        · have HBC := Lib.hid (cmp_later HI2.out HI3.out hd)
          have HD := Lib.hid hd
          clear hd
          go_wp2_with fail
          refine (HBC.out _ L8.out).mono ?_
          rintro e w9 ⟨rfl, l⟩
          have L9 := Lib.hid l
          clear k0 k1 q0 q1 r0 r1
          obtain ⟨k0, k1, q0, q1⟩ := BAB.out _ l
          obtain ⟨r0, r1, _, _⟩ := BC.out _ l
          clear l
          have hle : cmpP p a r c ≤ 0 := cmpP_trans (by rw [HC.out]; decide) (by rw [HD.out]; decide)
          rcases cmpP_range p r a c with he | he | he
          · have HAC := Lib.hid (cmp_later HI1.out HI3.out he)
            clear he hle
            go_wp2_with fail
            refine (HAC.out _ L9.out).mono ?_
            rintro e w10 ⟨rfl, l⟩
            have L10 := Lib.hid l
            clear l
            go_wp2_with fail
            go_ret
            exact ⟨rfl, gr_tr HB.out L10.out⟩
          · have HAC := Lib.hid (cmp_later HI1.out HI3.out he)
            clear he hle
            go_wp2_with fail
            refine (HAC.out _ L9.out).mono ?_
            rintro e w10 ⟨rfl, l⟩
            have L10 := Lib.hid l
            clear l
            go_wp2_with fail
            go_ret
            exact ⟨rfl, gr_tr HB.out L10.out⟩
          · omega
        · have HBC := Lib.hid (cmp_later HI2.out HI3.out hd)
          have HD := Lib.hid hd
          clear hd
          go_wp2_with fail
          refine (HBC.out _ L8.out).mono ?_
          rintro e w9 ⟨rfl, l⟩
          have L9 := Lib.hid l
          clear k0 k1 q0 q1 r0 r1
          obtain ⟨k0, k1, q0, q1⟩ := BAB.out _ l
          obtain ⟨r0, r1, _, _⟩ := BC.out _ l
          clear l
          have hle : cmpP p a r c ≤ 0 := cmpP_trans (by rw [HC.out]; decide) (by rw [HD.out]; decide)
          rcases cmpP_range p r a c with he | he | he
          · have HAC := Lib.hid (cmp_later HI1.out HI3.out he)
            clear he hle
            go_wp2_with fail
            refine (HAC.out _ L9.out).mono ?_
            rintro e w10 ⟨rfl, l⟩
            have L10 := Lib.hid l
            clear l
            go_wp2_with fail
            go_ret
            exact ⟨rfl, gr_tr HB.out L10.out⟩
          · have HAC := Lib.hid (cmp_later HI1.out HI3.out he)
            clear he hle
            go_wp2_with fail
            refine (HAC.out _ L9.out).mono ?_
            rintro e w10 ⟨rfl, l⟩
            have L10 := Lib.hid l
            clear l
            go_wp2_with fail
            go_ret
            exact ⟨rfl, gr_tr HB.out L10.out⟩
          · omega
        · have HBC := Lib.hid (cmp_later HI2.out HI3.out hd)
          have HD := Lib.hid hd
          clear hd
          go_wp2_with fail
          refine (HBC.out _ L8.out).mono ?_
          rintro e w9 ⟨rfl, l⟩
          have L9 := Lib.hid l
          go_wp2_with fail
          go_ret
          exact ⟨rfl, gr_tr HB.out L9.out⟩
    · rw [if_neg (by omega)] at ho
      have hnb : cmpP q b p a = 0 := by omega
      obtain ⟨s1, m1, d1, s2, m2, d2, rfl, j1, j2, l3⟩ := ho
      have HAB := Lib.hid (cmp_later HI1.out HI2.out hc); have HBA := Lib.hid (cmp_later HI2.out HI1.out hnb)
      have HSS := Lib.hid (same_later (x := true) HI1.out HI2.out (by rw [hc]; rfl))
      have hbs := two_boxes w3 #[.slice s1 m1 d1, .int .i64 a] #[.slice s2 m2 d2, .int .i64 b] 35 35
      have LL := Lib.hid (gr_tr L2.out l3)
      have HC := Lib.hid hc
      clear hn hc hnb l3
      go_upto_if 26 with fail
      obtain ⟨l4, y1, y2⟩ := hbs
      have J1 := Lib.hid (j1.below l4 (Nat.le_refl _)); have J2 := Lib.hid (j2.below l4 (Nat.le_refl _))
      have l := gr_tr LL.out l4
      clear l4 j1 j2 LL
      generalize World.alloc (World.alloc w3 _) _ = w4 at *
      obtain ⟨k0, k1, q0, q1⟩ := BAB.out _ l
      obtain ⟨⟨y0, y1'⟩, _⟩ := two_facts y1
      obtain ⟨⟨z0, z1'⟩, _⟩ := two_facts y2
      have Y1 := Lib.hid y1; have Y2 := Lib.hid y2; have L4 := Lib.hid l
      clear y1 y2 l
      go_cut [] (fun wx => Below W.heap.size W wx)
      case first =>
        go_wp2_with fail
        refine (psame_any p p a a _ _ _ J1.out (HI1.out.below L4.out (Nat.le_refl _))).mono ?_
        rintro e w5 ⟨rfl, l5⟩
        rw [cmpP_self]
        have L5 := Lib.hid (gr_tr L4.out l5)
        have Y3 := Lib.hid (blk_below Y1.out l5); have Y4 := Lib.hid (blk_below Y2.out l5); have J3 := Lib.hid (J2.out.below l5 (Nat.le_refl _))
        clear l5 k0 k1 q0 q1 y0 y1' z0 z1'
        obtain ⟨k0, k1, q0, q1⟩ := BAB.out _ L5.out
        obtain ⟨⟨z0, z1'⟩, _⟩ := two_facts Y4.out
        go_wp2_with fail
        refine (psame_any q q b b _ _ _ J3.out (HI2.out.below L5.out (Nat.le_refl _))).mono ?_
        rintro e w6 ⟨rfl, l6⟩
        rw [cmpP_self]
        have L6 := Lib.hid (gr_tr L5.out l6)
        clear l6 k0 k1 q0 q1 z0 z1'
        obtain ⟨k0, k1, q0, q1⟩ := BAB.out _ L6.out
        go_wp2_with fail
        refine (HAB.out _ L6.out).mono ?_
        rintro e w7 ⟨rfl, l7⟩
        go_wp2_with fail
        go_meet
        exact l7
      case rest =>
        have l : Below W.heap.size W wc.drew := gr_dr hcut
        clear k0 k1 q0 q1 y0 y1' z0 z1' hcut L4 Y1 Y2 J1 J2
        go_wp2_with fail
        go_region_held3 (fun w' => w'.cell? ⟨w.heap.size, 0, none⟩ = some (.slice a1 n1 c1) ∧ w'.cell? ⟨w.heap.size, 1, none⟩ = some (.int .i64 a) ∧ w'.cell? ⟨w.heap.size + 1, 0, none⟩ = some (.slice a2 n2 c2) ∧ w'.cell? ⟨w.heap.size + 1, 1, none⟩ = some (.int .i64 b))
          (exact BAB.out _ l)
          (first
            | ((try rw [if_pos (by rfl)]); (try go_simp); go_at_call 33; (with_reducible refine (HAB.out _ l).mono ?_); clear l; rintro e w5 ⟨rfl, l⟩; (try dsimp only))
            | ((try rw [if_pos (by rfl)]); (try go_simp); go_at_call 33; (with_reducible refine (HBA.out _ l).mono ?_); clear l; rintro e w5 ⟨rfl, l⟩; (try dsimp only))
            | ((try rw [if_pos (by rfl)]); (try go_simp); go_at_call 32; (with_reducible refine (HSS.out _ l).mono ?_); clear l; rintro e w5 ⟨rfl, l⟩; (try dsimp only)))
        go_wp2_with fail
        refine (HAB.out _ l).mono ?_
        clear l
        rintro e w8 ⟨rfl, l⟩
        have L8 := Lib.hid l
        obtain ⟨k0, k1, q0, q1⟩ := BAB.out _ l
        obtain ⟨r0, r1, _, _⟩ := BC.out _ l
        clear l
        rcases cmpP_range q r b c with hd | hd | hd
        · have HBC := Lib.hid (cmp_later HI2.out HI3.out hd)
          have HD := Lib.hid hd
          clear hd
          go_wp2_with fail
          refine (HBC.out _ L8.out).mono ?_
          rintro e w9 ⟨rfl, l⟩
          have L9 := Lib.hid l
          clear k0 k1 q0 q1 r0 r1
          obtain ⟨k0, k1, q0, q1⟩ := BAB.out _ l
          obtain ⟨r0, r1, _, _⟩ := BC.out _ l
          clear l
          have hle : cmpP p a r c ≤ 0 := cmpP_trans (by rw [HC.out]; decide) (by rw [HD.out]; decide)
          rcases cmpP_range p r a c with he | he | he
          · have HAC := Lib.hid (cmp_later HI1.out HI3.out he)
            clear he hle
            go_wp2_with fail
            refine (HAC.out _ L9.out).mono ?_
            rintro e w10 ⟨rfl, l⟩
            have L10 := Lib.hid l
            clear l
            go_wp2_with fail
            go_ret
            exact ⟨rfl, gr_tr HB.out L10.out⟩
          · have HAC := Lib.hid (cmp_later HI1.out HI3.out he)
            clear he hle
            go_wp2_with fail
            refine (HAC.out _ L9.out).mono ?_
            rintro e w10 ⟨rfl, l⟩
            have L10 := Lib.hid l
            clear l
            go_wp2_with fail
            go_ret
            exact ⟨rfl, gr_tr HB.out L10.out⟩
          · omega
        · have HBC := Lib.hid (cmp_later HI2.out HI3.out hd)
          have HD := Lib.hid hd
          clear hd
          go_wp2_with fail
          refine (HBC.out _ L8.out).mono ?_
          rintro e w9 ⟨rfl, l⟩
          have L9 := Lib.hid l
          clear k0 k1 q0 q1 r0 r1
          obtain ⟨k0, k1, q0, q1⟩ := BAB.out _ l
          obtain ⟨r0, r1, _, _⟩ := BC.out _ l
          clear l
          have hle : cmpP p a r c ≤ 0 := cmpP_trans (by rw [HC.out]; decide) (by rw [HD.out]; decide)
          rcases cmpP_range p r a c with he | he | he
          · have HAC := Lib.hid (cmp_later HI1.out HI3.out he)
            clear he hle
            go_wp2_with fail
            refine (HAC.out _ L9.out).mono ?_
            rintro e w10 ⟨rfl, l⟩
            have L10 := Lib.hid l
            clear l
            go_wp2_with fail
            go_ret
            exact ⟨rfl, gr_tr HB.out L10.out⟩
          · have HAC := Lib.hid (cmp_later HI1.out HI3.out he)
            clear he hle
            go_wp2_with fail
            refine (HAC.out _ L9.out).mono ?_
            rintro e w10 ⟨rfl, l⟩
            have L10 := Lib.hid l
            clear l
            go_wp2_with fail
            go_ret
            exact ⟨rfl, gr_tr HB.out L10.out⟩
          · omega
        · have HBC := Lib.hid (cmp_later HI2.out HI3.out hd)
          have HD := Lib.hid hd
          clear hd
          go_wp2_with fail
          refine (HBC.out _ L8.out).mono ?_
          rintro e w9 ⟨rfl, l⟩
          have L9 := Lib.hid l
          go_wp2_with fail
          go_ret
          exact ⟨rfl, gr_tr HB.out L9.out⟩
    · rw [if_pos (by omega)] at ho
      have hnb : cmpP q b p a = (-1) := by omega
      obtain ⟨s1, m1, d1, s2, m2, d2, rfl, j1, j2, l3⟩ := ho
      have HAB := Lib.hid (cmp_later HI1.out HI2.out hc); have HBA := Lib.hid (cmp_later HI2.out HI1.out hnb)
      have HSS := Lib.hid (same_later (x := false) HI1.out HI2.out (by rw [hc]; rfl))
      have hbs := two_boxes w3 #[.slice s1 m1 d1, .int .i64 b] #[.slice s2 m2 d2, .int .i64 a] 35 35
      have LL := Lib.hid (gr_tr L2.out l3)
      have HC := Lib.hid hc
      clear hn hc hnb l3
      go_upto_if 26 with fail
      obtain ⟨l4, y1, y2⟩ := hbs
      have J1 := Lib.hid (j1.below l4 (Nat.le_refl _)); have J2 := Lib.hid (j2.below l4 (Nat.le_refl _))
      have l := gr_tr LL.out l4
      clear l4 j1 j2 LL
      generalize World.alloc (World.alloc w3 _) _ = w4 at *
      obtain ⟨k0, k1, q0, q1⟩ := BAB.out _ l
      obtain ⟨⟨y0, y1'⟩, _⟩ := two_facts y1
      obtain ⟨⟨z0, z1'⟩, _⟩ := two_facts y2
      have Y1 := Lib.hid y1; have Y2 := Lib.hid y2; have L4 := Lib.hid l
      clear y1 y2 l
      go_cut [] (fun wx => Below W.heap.size W wx)
      case first =>
        go_wp2_with fail
        refine (psame_any q q b b _ _ _ J1.out (HI2.out.below L4.out (Nat.le_refl _))).mono ?_
        rintro e w5 ⟨rfl, l5⟩
        rw [cmpP_self]
        have L5 := Lib.hid (gr_tr L4.out l5)
        have Y3 := Lib.hid (blk_below Y1.out l5); have Y4 := Lib.hid (blk_below Y2.out l5); have J3 := Lib.hid (J2.out.below l5 (Nat.le_refl _))
        clear l5 k0 k1 q0 q1 y0 y1' z0 z1'
        obtain ⟨k0, k1, q0, q1⟩ := BAB.out _ L5.out
        obtain ⟨⟨z0, z1'⟩, _⟩ := two_facts Y4.out
        go_wp2_with fail
        refine (psame_any p p a a _ _ _ J3.out (HI1.out.below L5.out (Nat.le_refl _))).mono ?_
        rintro e w6 ⟨rfl, l6⟩
        rw [cmpP_self]
        have L6 := Lib.hid (gr_tr L5.out l6)
        clear l6 k0 k1 q0 q1 z0 z1'
        obtain ⟨k0, k1, q0, q1⟩ := BAB.out _ L6.out
        go_wp2_with fail
        refine (HBA.out _ L6.out).mono ?_
        rintro e w7 ⟨rfl, l7⟩
        go_wp2_with fail
        go_meet
        exact l7
      case rest =>
        have l : Below W.heap.size W wc.drew := gr_dr hcut
        clear k0 k1 q0 q1 y0 y1' z0 z1' hcut L4 Y1 Y2 J1 J2
        go_wp2_with fail
        go_region_held3 (fun w' => w'.cell? ⟨w.heap.size, 0, none⟩ = some (.slice a1 n1 c1) ∧ w'.cell? ⟨w.heap.size, 1, none⟩ = some (.int .i64 a) ∧ w'.cell? ⟨w.heap.size + 1, 0, none⟩ = some (.slice a2 n2 c2) ∧ w'.cell? ⟨w.heap.size + 1, 1, none⟩ = some (.int .i64 b))
          (exact BAB.out _ l)
          (first
            | ((try rw [if_pos (by rfl)]); (try go_simp); go_at_call 33; (with_reducible refine (HAB.out _ l).mono ?_); clear l; rintro e w5 ⟨rfl, l⟩; (try dsimp only))
            | ((try rw [if_pos (by rfl)]); (try go_simp); go_at_call 33; (with_reducible refine (HBA.out _ l).mono ?_); clear l; rintro e w5 ⟨rfl, l⟩; (try dsimp only))
            | ((try rw [if_pos (by rfl)]); (try go_simp); go_at_call 32; (with_reducible refine (HSS.out _ l).mono ?_); clear l; rintro e w5 ⟨rfl, l⟩; (try dsimp only)))
        go_wp2_with fail
        refine (HAB.out _ l).mono ?_
        clear l
        rintro e w8 ⟨rfl, l⟩
        have L8 := Lib.hid l
        go_wp2_with fail
        go_ret
        exact ⟨rfl, gr_tr HB.out L8.out⟩
end Go.Proofs.Ytdcpoeaddhbjbaa
