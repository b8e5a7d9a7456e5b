/- Walks of cmp.Or at int, point.Compare, point.Same, point.own, point.Order. -/
import Derived.Test.YtdcpoeaddhbjbaaLive7
import Derived.Test.YtdcpoeaddhbjbaaCompare
import Derived.Test.YtdcpoeaddhbjbaaPointP
namespace Go.Proofs.Ytdcpoeaddhbjbaa
set_option maxRecDepth 100000
open Go.RowKit

theorem two_boxes (w : World) (c1 c2 : Array Value) (t1 t2 : TypeId) : Below w.heap.size w ((w.alloc (.cells c1 t1)).alloc (.cells c2 t2)) ∧
    ((w.alloc (.cells c1 t1)).alloc (.cells c2 t2)).heap[w.heap.size]? = some (.cells c1 t1 (0, 0)) ∧ ((w.alloc (.cells c1 t1)).alloc (.cells c2 t2)).heap[w.heap.size + 1]? = some (.cells c2 t2 (0, 0)) := by
  refine ⟨gr_al (gr_al (gr_refl w) _) _, blk_below (heap_alloc_new w _) (gr_al (gr_refl _) _), ?_⟩
  have := heap_alloc_new (w.alloc (.cells c1 t1)) (.cells c2 t2)
  rwa [show (w.alloc (.cells c1 t1)).heap.size = w.heap.size + 1 by simp] at this

set_option maxHeartbeats 1000000 in
theorem or_any (x y : Int) (v : Value) (w : World) (h : Ints w v [x, y]) : Calls Try.prog 80 #[v] w fun e w' => e = .returned (.int .i64 (orI x y)) ∧ w = w' := by
  obtain ⟨a, c, rfl, l, _, o⟩ := h.open_
  obtain ⟨b, off, rfl, hc⟩ := o (by simp)
  have e0 : w.cell? ⟨b, off, none⟩ = some (.int .i64 x) := hc 0 (by simp)
  have e1 : w.cell? ⟨b, off + 1, none⟩ = some (.int .i64 y) := hc 1 (by simp)
  have l2 : 2 ≤ c := l
  clear hc h o l
  by_cases hx : x = 0
  · subst hx
    have HF : Hid (orI 0 y = y) := by show _ = _; simp [orI]
    by_cases hy : y = 0
    · subst hy
      go_enter Try.func80, Try.ntmps80
      go_wp2
      go_loop [8] (fun i => ∃ k : Nat, k ≤ 2 ∧ i = .int .i64 k) (fun i => 2 - (intOf i).toNat)
      case atStart => exact ⟨0, by omega, rfl⟩
      case round =>
        obtain ⟨k, hk, rfl⟩ := hrel
        obtain rfl | rfl | rfl : k = 0 ∨ k = 1 ∨ k = 2 := by omega
        · go_wp2
          go_round
          case rel => exact ⟨1, by omega, rfl⟩
          case measure => simp [intOf]
        · go_wp2
          go_round
          case rel => exact ⟨2, by omega, rfl⟩
          case measure => simp [intOf]
        · go_wp2
          go_ret
          exact ⟨ret_int HF.out.symm, rfl⟩
    · have hd : (y != 0) = true := by simpa using hy
      go_enter Try.func80, Try.ntmps80
      go_wp2
      go_loop [8] (fun i => ∃ k : Nat, k ≤ 1 ∧ i = .int .i64 k) (fun i => 2 - (intOf i).toNat)
      case atStart => exact ⟨0, by omega, rfl⟩
      case round =>
        obtain ⟨k, hk, rfl⟩ := hrel
        obtain rfl | rfl : k = 0 ∨ k = 1 := by omega
        · go_wp2
          go_round
          case rel => exact ⟨1, by omega, rfl⟩
          case measure => simp [intOf]
        · go_wp2
          go_ret
          exact ⟨ret_int HF.out.symm, rfl⟩
  · have hd : (x != 0) = true := by simpa using hx
    have HF : Hid (orI x y = x) := by show _ = _; simp [orI, hx]
    go_enter Try.func80, Try.ntmps80
    go_wp2
    go_loop [8] (fun i => i = .int .i64 0) (fun i => 2 - (intOf i).toNat)
    case atStart => rfl
    case round =>
      subst hrel
      go_wp2
      go_ret
      exact ⟨ret_int HF.out.symm, rfl⟩

set_option maxHeartbeats 2000000 in
theorem pcompare_any (p q : List Int) (a b : Int) (v1 v2 : Value) (w : World) (h1 : Ints w v1 p) (h2 : Ints w v2 q) :
    Calls Try.prog 33 #[.agg #[v1, .int .i64 a], .agg #[v2, .int .i64 b]] w fun e w' => e = .returned (.int .i64 (cmpP p a q b)) ∧ Below w.heap.size w w' := by
  obtain ⟨a1, n1, c1, rfl⟩ := h1.slice3
  obtain ⟨a2, n2, c2, rfl⟩ := h2.slice3
  obtain ⟨hb, hx1, hx2⟩ := two_boxes w #[.slice a1 n1 c1, .int .i64 a] #[.slice a2 n2 c2, .int .i64 b] 35 35
  have HB := Lib.hid hb; have HX1 := Lib.hid hx1; have HX2 := Lib.hid hx2
  have HI1 := Lib.hid (h1.below hb (Nat.le_refl _)); have HI2 := Lib.hid (h2.below hb (Nat.le_refl _))
  clear h1 h2 hb hx1 hx2
  go_enter Try.func33, Try.ntmps33
  go_upto_region 1 with fail
  generalize World.alloc (World.alloc w _) _ = W at *
  obtain ⟨⟨k0, k1⟩, _⟩ := two_facts HX1.out
  obtain ⟨⟨q0, q1⟩, _⟩ := two_facts HX2.out
  go_region_held3 (fun w' => w'.cell? ⟨w.heap.size, 0, none⟩ = some (.slice a1 n1 c1) ∧ w'.cell? ⟨w.heap.size, 1, none⟩ = some (.int .i64 a) ∧ w'.cell? ⟨w.heap.size + 1, 0, none⟩ = some (.slice a2 n2 c2) ∧ w'.cell? ⟨w.heap.size + 1, 1, none⟩ = some (.int .i64 b))
    (first | exact ⟨k0, k1, q0, q1⟩ | go_keep)
    (first
      | (go_at_call 50; refine (compare_any p q _ _ _ (HI1.out.same ⟨1, rfl⟩) (HI2.out.same ⟨1, rfl⟩)).mono ?_; rintro e w' ⟨rfl, rfl⟩)
      | (go_at_call 81; refine (cmp_int a b _).mono ?_; rintro e w' ⟨rfl, rfl⟩)
      | (go_at_call 80; refine (or_any (cmpI p q) (cmp3 a b) _ _ (lit_ints (World.drewN W 1) #[.int .i64 (cmpI p q), .int .i64 (cmp3 a b)] 2 W.heap.size [cmpI p q, cmp3 a b] rfl rfl rfl (by simp))).mono ?_; rintro e w' ⟨rfl, rfl⟩))
  go_wp2
  go_ret
  exact ⟨rfl, gr_dr (gr_al HB.out _)⟩

theorem psame_any (p q : List Int) (a b : Int) (v1 v2 : Value) (w : World) (h1 : Ints w v1 p) (h2 : Ints w v2 q) :
    Calls Try.prog 32 #[.agg #[v1, .int .i64 a], .agg #[v2, .int .i64 b]] w fun e w' => e = .returned (.bool (cmpP p a q b == 0)) ∧ Below w.heap.size w w' := by
  obtain ⟨a1, n1, c1, rfl⟩ := h1.slice3
  obtain ⟨a2, n2, c2, rfl⟩ := h2.slice3
  obtain ⟨hb, hx1, hx2⟩ := two_boxes w #[.slice a1 n1 c1, .int .i64 a] #[.slice a2 n2 c2, .int .i64 b] 35 35
  have HB := Lib.hid hb; have HX1 := Lib.hid hx1; have HX2 := Lib.hid hx2
  have HI1 := Lib.hid (h1.below hb (Nat.le_refl _)); have HI2 := Lib.hid (h2.below hb (Nat.le_refl _))
  clear h1 h2 hb hx1 hx2
  go_enter Try.func32, Try.ntmps32
  go_upto_region 1 with fail
  generalize World.alloc (World.alloc w _) _ = W at *
  obtain ⟨⟨k0, k1⟩, _⟩ := two_facts HX1.out
  obtain ⟨⟨q0, q1⟩, _⟩ := two_facts HX2.out
  go_wp2_with fail
  refine (pcompare_any p q a b _ _ _ HI1.out HI2.out).mono ?_
  rintro e w1 ⟨rfl, hb1⟩
  have HB1 := Lib.hid (gr_tr HB.out hb1)
  clear hb1
  go_wp2
  go_ret
  exact ⟨rfl, HB1.out⟩

/-- A point's own copy. -/
def OwnPt (w : World) (p : List Int) (a : Int) (e : Ending) (w' : World) : Prop := ∃ x n c, e = .returned (.agg #[.slice x n c, .int .i64 a]) ∧ Own w' w.heap.size (.slice x n c) p ∧ Below w.heap.size w w'

set_option maxHeartbeats 1000000 in
theorem pown_any (p : List Int) (a : Int) (v1 : Value) (w : World) (h1 : Ints w v1 p) : Calls Try.prog 79 #[.agg #[v1, .int .i64 a]] w (OwnPt w p a) := by
  obtain ⟨a1, n1, c1, rfl⟩ := h1.slice3
  obtain ⟨hb, hx1, hx2⟩ := two_boxes w #[.slice a1 n1 c1, .int .i64 a] #[.slice none 0 0, .int .i64 0] 35 35
  have HB := Lib.hid hb; have HX1 := Lib.hid hx1; have HX2 := Lib.hid hx2
  have HI1 := Lib.hid (h1.below hb (Nat.le_refl _))
  clear h1 hb hx1 hx2
  go_enter Try.func79, Try.ntmps79
  go_upto_region 1 with fail
  generalize World.alloc (World.alloc w _) _ = W at *
  obtain ⟨⟨k0, k1⟩, _⟩ := two_facts HX1.out
  go_region_held3 (fun w' => w'.cell? ⟨w.heap.size, 0, none⟩ = some (.slice a1 n1 c1) ∧ w'.cell? ⟨w.heap.size, 1, none⟩ = some (.int .i64 a))
    (first | exact ⟨k0, k1⟩ | go_keep)
    (first
      | (go_at_call 102; refine (clone_ints p _ _ (HI1.out.same ⟨1, rfl⟩)).mono ?_; rintro e w1 ⟨v', rfl, ho, hb1⟩; obtain ⟨a2, n2, c2, rfl⟩ := ho.ints.slice3; obtain ⟨⟨k0, k1⟩, _⟩ := two_facts (blk_below (blk_below HX1.out (gr_dr (gr_refl W))) hb1); obtain ⟨⟨q0, q1⟩, ⟨r0, r1⟩⟩ := two_facts (blk_below (blk_below HX2.out (gr_dr (gr_refl W))) hb1)))
  have HF := Lib.hid (two_block (blk_below (blk_below HX2.out (gr_dr (gr_refl W))) hb1) (.slice a2 n2 c2) (.int .i64 a))
  have HW := Lib.hid (two_below (u0 := .slice a2 n2 c2) (u1 := .int .i64 a) (gr_tr (gr_dr HB.out) hb1) (show w.heap.size ≤ w.heap.size + 1 by omega))
  have hlt := lt_of_block HX2.out
  have HV := Lib.hid (OwnKeep.put2 ho (u0 := .slice a2 n2 c2) (u1 := .int .i64 a) (show w.heap.size + 1 < W.drew.heap.size from hlt))
  clear ho hb1
  go_wp2_with fail
  have hf := HF.out; have hw := HW.out; have hv := HV.out
  simp only [put2] at hf hw hv
  generalize World.setCell (World.setCell w1 _ _) _ _ = wf at *
  obtain ⟨⟨j0, j1⟩, _⟩ := two_facts hf
  exact bodyPost_ret (v := .agg #[.slice a2 n2 c2, .int .i64 a]) (by simp [results, Try.results79, go_sem, j0, j1]) rfl ⟨a2, n2, c2, rfl, hv.mono (show w.heap.size ≤ W.heap.size by omega), hw⟩

theorem put2_far {w : World} {g b : Nat} {u0 u1 : Value} (h : b ≠ g) : (put2 w g u0 u1).heap[b]? = w.heap[b]? := by simp [World.setCell, Array.getElem?_modify, Ne.symm h]
/-- A pair of points in order. -/
def OrdPt (w : World) (p : List Int) (a : Int) (q : List Int) (b : Int) (turned : Bool) (e : Ending) (w' : World) : Prop :=
  ∃ x1 n1 c1 x2 n2 c2, e = .returned (.tuple #[.agg #[.slice x1 n1 c1, .int .i64 a], .agg #[.slice x2 n2 c2, .int .i64 b], .bool turned]) ∧ Ints w' (.slice x1 n1 c1) p ∧ Ints w' (.slice x2 n2 c2) q ∧ Below w.heap.size w w'

theorem three_boxes (w : World) (c1 c2 c3 : Array Value) (t1 t2 t3 : TypeId) : Below w.heap.size w (((w.alloc (.cells c1 t1)).alloc (.cells c2 t2)).alloc (.cells c3 t3)) ∧
    (((w.alloc (.cells c1 t1)).alloc (.cells c2 t2)).alloc (.cells c3 t3)).heap[w.heap.size]? = some (.cells c1 t1 (0, 0)) ∧ (((w.alloc (.cells c1 t1)).alloc (.cells c2 t2)).alloc (.cells c3 t3)).heap[w.heap.size + 1]? = some (.cells c2 t2 (0, 0)) ∧
      (((w.alloc (.cells c1 t1)).alloc (.cells c2 t2)).alloc (.cells c3 t3)).heap[w.heap.size + 1 + 1]? = some (.cells c3 t3 (0, 0)) := by
  obtain ⟨h1, h2, h3⟩ := two_boxes w c1 c2 t1 t2
  refine ⟨gr_al h1 _, blk_below h2 (gr_al (gr_refl _) _), blk_below h3 (gr_al (gr_refl _) _), ?_⟩
  have := heap_alloc_new ((w.alloc (.cells c1 t1)).alloc (.cells c2 t2)) (.cells c3 t3)
  rwa [show ((w.alloc (.cells c1 t1)).alloc (.cells c2 t2)).heap.size = w.heap.size + 1 + 1 by simp] at this

end Go.Proofs.Ytdcpoeaddhbjbaa
