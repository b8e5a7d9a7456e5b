/- Walks of redlineref07.Same and redlinelaw07.live. Walks of cmp.Or at int, point.Compare, point.Same, point.own, point.Order. Walk of redlinelaw07.short: some answer; opening an argument that is a point. Plain Lean: a tree's paths are those at which a node is found, and they rise; its first and its last point. No program in sight. -/
import Derived.Test.YtdcpoeaddhbjbaaLeafEl
import Derived.Test.YtdcpoeaddhbjbaaRefs
import Derived.Test.YtdcpoeaddhbjbaaPlainAll
import Derived.Test.YtdcpoeaddhbjbaaLast
namespace Go.Proofs.Ytdcpoeaddhbjbaa
set_option maxRecDepth 100000
open Go.RowKit

/- Walks of redlineref07.Same and redlinelaw07.live. -/
set_option maxHeartbeats 1000000 in
theorem rpsame_any (p q : List Int) (a b : Int) (v1 v2 : Value) (w : World) (h1 : Ints w v1 p) (h2 : Ints w v2 q) :
    Calls Try.prog 44 #[.agg #[v1, .int .i64 a], .agg #[v2, .int .i64 b]] w fun e w' => e = .returned (.bool (decide (a = b) && decide (p = q))) ∧ Below w.heap.size w w' := by
  obtain ⟨a1, n1, c1, rfl⟩ := h1.slice3
  obtain ⟨a2, n2, c2, rfl⟩ := h2.slice3
  have hb1 := gr_al (gr_al (gr_refl w) (.cells #[.slice a1 n1 c1, .int .i64 a] 35)) (.cells #[.slice a2 n2 c2, .int .i64 b] 35)
  have hx1 := blk_below (heap_alloc_new w (.cells #[.slice a1 n1 c1, .int .i64 a] 35)) (gr_al (gr_refl _) (.cells #[.slice a2 n2 c2, .int .i64 b] 35))
  have hx2 := heap_alloc_new (w.alloc (.cells #[.slice a1 n1 c1, .int .i64 a] 35)) (.cells #[.slice a2 n2 c2, .int .i64 b] 35)
  rw [show (w.alloc (.cells #[.slice a1 n1 c1, .int .i64 a] 35)).heap.size = w.heap.size + 1 by simp] at hx2
  have HS := Lib.hid (rsame_any p q _ _ _ (h1.below hb1 (Nat.le_refl _)) (h2.below hb1 (Nat.le_refl _)))
  have HB := Lib.hid hb1; have HX1 := Lib.hid hx1; have HX2 := Lib.hid hx2
  clear h1 h2 hb1 hx1 hx2
  go_enter Try.func44, Try.ntmps44
  go_upto_region 1 with fail
  generalize World.alloc (World.alloc w _) _ = W at *
  obtain ⟨⟨k0, k1⟩, _⟩ := two_facts HX1.out
  obtain ⟨⟨q0, q1⟩, _⟩ := two_facts HX2.out
  by_cases hab : a = b
  · have hd : (a == b) = true := by simpa using hab
    have HD : Hid (decide (a = b) = true) := by show _ = _; simpa using hab
    clear hab
    go_wp2_with fail
    refine HS.out.mono ?_
    rintro e w' ⟨rfl, hs⟩
    go_wp2
    go_ret
    refine ⟨ret_bool ?_, gr_sm HB.out hs⟩
    rw [HD.out, Bool.true_and]
  · have hd : (a == b) = false := by simpa using hab
    have HD : Hid (decide (a = b) = false) := by show _ = _; simpa using hab
    clear hab
    go_wp2_with fail
    go_ret
    refine ⟨ret_bool ?_, HB.out⟩
    rw [HD.out, Bool.false_and]

/-- A literal slice of two nodes. -/
theorem lit_nodes (w : World) (x0 x1 x2 x3 y0 y1 y2 y3 : Value) : Sl Any (w.alloc (.cells #[x0, x1, x2, x3, y0, y1, y2, y3] 26)) 4 80 (.slice (some ⟨w.heap.size, 0, none⟩) 2 2) [[x0, x1, x2, x3], [y0, y1, y2, y3]] := by
  refine ⟨_, 2, rfl, Nat.le_refl _, by unfold maxLen; decide, by simp, by simp, fun _ => ⟨w.heap.size, 0, rfl, fun j hj => ⟨trivial, fun k u hu => ?_⟩⟩⟩
  have hj2 : j = 0 ∨ j = 1 := by simp at hj; omega
  rw [cell_of_row _ w.heap.size _ _ _ (0, 0) (heap_alloc_new w _)]
  have hk : k < 4 := by
    have h := (List.getElem?_eq_some_iff.1 hu).1
    rcases hj2 with rfl | rfl <;> simpa using h
  rcases hj2 with rfl | rfl <;> (obtain rfl | rfl | rfl | rfl : k = 0 ∨ k = 1 ∨ k = 2 ∨ k = 3 := by omega) <;> simpa using hu
theorem lit_nodes_all {w : World} {xs ys : List Value} {s t : Tree} (h1 : NodeAt Any w xs s) (h2 : NodeAt Any w ys t) : ∀ i, i < [s, t].length → NodeAt Any w ([xs, ys].getD i []) ([s, t].getD i default) := by
  intro i hi
  obtain rfl | rfl : i = 0 ∨ i = 1 := by simp at hi; omega
  · exact h1
  · exact h2

set_option maxHeartbeats 2000000 in
theorem live7_any (w : World) : Calls Try.prog 15 #[] w fun e w' => e = .returned (.bool true) ∧ Below w.heap.size w w' := by
  have q1 : Conv.runesFrom ⟨#[97]⟩ (⟨#[97]⟩ : ByteArray).size 0 #[] = (([97] : List Int).map (Value.int .i32)).toArray := by kernel_rfl
  have q2 : Conv.runesFrom ⟨#[98, 99]⟩ (⟨#[98, 99]⟩ : ByteArray).size 0 #[] = (([98, 99] : List Int).map (Value.int .i32)).toArray := by kernel_rfl
  have HL1 := Lib.hid (leaf_any ⟨#[97]⟩ [97] q1 (by decide))
  have HL2 := Lib.hid (leaf_any ⟨#[98, 99]⟩ [98, 99] q2 (by decide))
  clear q1 q2
  go_enter Try.func15, Try.ntmps15
  go_wp2_with fail
  refine (HL1.out w).mono ?_
  rintro e w1 ⟨l1, a11, n11, c11, a12, n12, c12, a13, n13, c13, rfl, hn1, hb1⟩
  have HN1 := Lib.hid hn1; have HB1 := Lib.hid hb1
  clear hn1 hb1
  go_wp2_with fail
  refine (HL2.out _).mono ?_
  rintro e w2 ⟨l2, a21, n21, c21, a22, n22, c22, a23, n23, c23, rfl, hn2, hb2⟩
  have HN2 := Lib.hid hn2; have HB2 := Lib.hid hb2
  clear hn2 hb2
  have hal := gr_al (gr_refl w2) (.cells #[.bool l1, .slice a11 n11 c11, .slice a12 n12 c12, .slice a13 n13 c13, .bool l2, .slice a21 n21 c21, .slice a22 n22 c22, .slice a23 n23 c23] 26)
  have HE := Lib.hid (elem_any ⟨#[112]⟩ (by kernel_rfl) _ _ [.mk true [] [97] [], .mk true [] [98, 99] []] _ (lit_nodes w2 (.bool l1) (.slice a11 n11 c11) (.slice a12 n12 c12) (.slice a13 n13 c13) (.bool l2) (.slice a21 n21 c21) (.slice a22 n22 c22) (.slice a23 n23 c23)) rfl
    (lit_nodes_all (((HN1.out.boxed HB2.out).boxed hal).weaken fun _ _ => trivial) ((HN2.out.boxed hal).weaken fun _ _ => trivial)))
  have HB3 := Lib.hid (gr_al (gr_tr HB1.out HB2.out) (.cells #[.bool l1, .slice a11 n11 c11, .slice a12 n12 c12, .slice a13 n13 c13, .bool l2, .slice a21 n21 c21, .slice a22 n22 c22, .slice a23 n23 c23] 26))
  clear hal HN1 HN2 HB1 HB2
  go_wp2_with fail
  refine HE.out.mono ?_
  rintro e w3 ⟨l3, a31, n31, c31, a32, n32, c32, a33, n33, c33, rfl, hn3, hb3⟩
  have HL := Lib.hid (last_any Any _ _ _ hn3 (by decide))
  have HB4 := Lib.hid (gr_tr HB3.out hb3)
  clear hn3 hb3 HE HB3 HL1 HL2
  have hR : edgeR (.mk false [(typeS, ⟨#[112]⟩)] [] [.mk true [] [97] [], .mk true [] [98, 99] []]) (leavesL (.mk false [(typeS, ⟨#[112]⟩)] [] [.mk true [] [97] [], .mk true [] [98, 99] []])) true = ([1], 2, 0) := by rfl
  rw [hR] at HL
  clear hR
  go_wp2_with fail
  refine HL.out.mono ?_
  rintro e w4 ⟨a, n, c, rfl, ⟨hi, _⟩, hb⟩
  have hb4 := gr_tr HB4.out hb
  have HI := Lib.hid hi; have HB5 := Lib.hid hb4
  clear hi hb hb4 HL HB4
  have hal := gr_al (gr_al (gr_refl w4) (.cells #[.slice a n c, .int .i64 2] 35)) (.cells #[.int .i64 1] 3)
  have HS := Lib.hid (rpsame_any [1] [1] 2 2 _ _ _ (HI.out.below hal (Nat.le_refl _)) (lit_ints (w4.alloc (.cells #[.slice a n c, .int .i64 2] 35)) _ 1 (w4.heap.size + 1) _ (by simp) rfl rfl (by simp)))
  have HB6 := Lib.hid (gr_tr HB5.out hal)
  clear hal
  go_wp2_with fail
  refine HS.out.mono ?_
  rintro e w5 ⟨rfl, hb⟩
  have HB7 := Lib.hid hb
  clear hb
  go_wp2
  go_ret
  exact ⟨rfl, gr_tr HB6.out HB7.out⟩
/-- True, and nothing that was there has turned. -/
def Yes (w : World) (e : Ending) (w' : World) : Prop := e = .returned (.bool true) ∧ Below w.heap.size w w'

/- Walks of cmp.Or at int, point.Compare, point.Same, point.own, point.Order. -/
theorem two_boxes (w : World) (c1 c2 : Array Value) (t1 t2 : TypeId) : Below w.heap.size w ((w.alloc (.cells c1 t1)).alloc (.cells c2 t2)) ∧
    ((w.alloc (.cells c1 t1)).alloc (.cells c2 t2)).heap[w.heap.size]? = some (.cells c1 t1 (0, 0)) ∧ ((w.alloc (.cells c1 t1)).alloc (.cells c2 t2)).heap[w.heap.size + 1]? = some (.cells c2 t2 (0, 0)) := by
  refine ⟨gr_al (gr_al (gr_refl w) _) _, blk_below (heap_alloc_new w _) (gr_al (gr_refl _) _), ?_⟩
  have := heap_alloc_new (w.alloc (.cells c1 t1)) (.cells c2 t2)
  rwa [show (w.alloc (.cells c1 t1)).heap.size = w.heap.size + 1 by simp] at this

set_option maxHeartbeats 1000000 in
theorem or_any (x y : Int) (v : Value) (w : World) (h : Ints w v [x, y]) : Calls Try.prog 80 #[v] w fun e w' => e = .returned (.int .i64 (orI x y)) ∧ w = w' := by
  obtain ⟨a, c, rfl, l, _, o⟩ := h.open_
  obtain ⟨b, off, rfl, hc⟩ := o (by simp)
  have e0 : w.cell? ⟨b, off, none⟩ = some (.int .i64 x) := hc 0 (by simp)
  have e1 : w.cell? ⟨b, off + 1, none⟩ = some (.int .i64 y) := hc 1 (by simp)
  have l2 : 2 ≤ c := l
  clear hc h o l
  by_cases hx : x = 0
  · subst hx
    have HF : Hid (orI 0 y = y) := by show _ = _; simp [orI]
    by_cases hy : y = 0
    · subst hy
      go_enter Try.func80, Try.ntmps80
      go_wp2
      go_loop [8] (fun i => ∃ k : Nat, k ≤ 2 ∧ i = .int .i64 k) (fun i => 2 - (intOf i).toNat)
      case atStart => exact ⟨0, by omega, rfl⟩
      case round =>
        obtain ⟨k, hk, rfl⟩ := hrel
        obtain rfl | rfl | rfl : k = 0 ∨ k = 1 ∨ k = 2 := by omega
        · go_wp2
          go_round
          case rel => exact ⟨1, by omega, rfl⟩
          case measure => simp [intOf]
        · go_wp2
          go_round
          case rel => exact ⟨2, by omega, rfl⟩
          case measure => simp [intOf]
        · go_wp2
          go_ret
          exact ⟨ret_int HF.out.symm, rfl⟩
    · have hd : (y != 0) = true := by simpa using hy
      go_enter Try.func80, Try.ntmps80
      go_wp2
      go_loop [8] (fun i => ∃ k : Nat, k ≤ 1 ∧ i = .int .i64 k) (fun i => 2 - (intOf i).toNat)
      case atStart => exact ⟨0, by omega, rfl⟩
      case round =>
        obtain ⟨k, hk, rfl⟩ := hrel
        obtain rfl | rfl : k = 0 ∨ k = 1 := by omega
        · go_wp2
          go_round
          case rel => exact ⟨1, by omega, rfl⟩
          case measure => simp [intOf]
        · go_wp2
          go_ret
          exact ⟨ret_int HF.out.symm, rfl⟩
  · have hd : (x != 0) = true := by simpa using hx
    have HF : Hid (orI x y = x) := by show _ = _; simp [orI, hx]
    go_enter Try.func80, Try.ntmps80
    go_wp2
    go_loop [8] (fun i => i = .int .i64 0) (fun i => 2 - (intOf i).toNat)
    case atStart => rfl
    case round =>
      subst hrel
      go_wp2
      go_ret
      exact ⟨ret_int HF.out.symm, rfl⟩

set_option maxHeartbeats 2000000 in
theorem pcompare_any (p q : List Int) (a b : Int) (v1 v2 : Value) (w : World) (h1 : Ints w v1 p) (h2 : Ints w v2 q) :
    Calls Try.prog 33 #[.agg #[v1, .int .i64 a], .agg #[v2, .int .i64 b]] w fun e w' => e = .returned (.int .i64 (cmpP p a q b)) ∧ Below w.heap.size w w' := by
  obtain ⟨a1, n1, c1, rfl⟩ := h1.slice3
  obtain ⟨a2, n2, c2, rfl⟩ := h2.slice3
  obtain ⟨hb, hx1, hx2⟩ := two_boxes w #[.slice a1 n1 c1, .int .i64 a] #[.slice a2 n2 c2, .int .i64 b] 35 35
  have HB := Lib.hid hb; have HX1 := Lib.hid hx1; have HX2 := Lib.hid hx2
  have HI1 := Lib.hid (h1.below hb (Nat.le_refl _)); have HI2 := Lib.hid (h2.below hb (Nat.le_refl _))
  clear h1 h2 hb hx1 hx2
  go_enter Try.func33, Try.ntmps33
  go_upto_region 1 with fail
  generalize World.alloc (World.alloc w _) _ = W at *
  obtain ⟨⟨k0, k1⟩, _⟩ := two_facts HX1.out
  obtain ⟨⟨q0, q1⟩, _⟩ := two_facts HX2.out
  go_region_held3 (fun w' => w'.cell? ⟨w.heap.size, 0, none⟩ = some (.slice a1 n1 c1) ∧ w'.cell? ⟨w.heap.size, 1, none⟩ = some (.int .i64 a) ∧ w'.cell? ⟨w.heap.size + 1, 0, none⟩ = some (.slice a2 n2 c2) ∧ w'.cell? ⟨w.heap.size + 1, 1, none⟩ = some (.int .i64 b))
    (first | exact ⟨k0, k1, q0, q1⟩ | go_keep)
    (first
      | (go_at_call 50; refine (compare_any p q _ _ _ (HI1.out.same ⟨1, rfl⟩) (HI2.out.same ⟨1, rfl⟩)).mono ?_; rintro e w' ⟨rfl, rfl⟩)
      | (go_at_call 81; refine (cmp_int a b _).mono ?_; rintro e w' ⟨rfl, rfl⟩)
      | (go_at_call 80; refine (or_any (cmpI p q) (cmp3 a b) _ _ (lit_ints (World.drewN W 1) #[.int .i64 (cmpI p q), .int .i64 (cmp3 a b)] 2 W.heap.size [cmpI p q, cmp3 a b] rfl rfl rfl (by simp))).mono ?_; rintro e w' ⟨rfl, rfl⟩))
  go_wp2
  go_ret
  exact ⟨rfl, gr_dr (gr_al HB.out _)⟩

theorem psame_any (p q : List Int) (a b : Int) (v1 v2 : Value) (w : World) (h1 : Ints w v1 p) (h2 : Ints w v2 q) :
    Calls Try.prog 32 #[.agg #[v1, .int .i64 a], .agg #[v2, .int .i64 b]] w fun e w' => e = .returned (.bool (cmpP p a q b == 0)) ∧ Below w.heap.size w w' := by
  obtain ⟨a1, n1, c1, rfl⟩ := h1.slice3
  obtain ⟨a2, n2, c2, rfl⟩ := h2.slice3
  obtain ⟨hb, hx1, hx2⟩ := two_boxes w #[.slice a1 n1 c1, .int .i64 a] #[.slice a2 n2 c2, .int .i64 b] 35 35
  have HB := Lib.hid hb; have HX1 := Lib.hid hx1; have HX2 := Lib.hid hx2
  have HI1 := Lib.hid (h1.below hb (Nat.le_refl _)); have HI2 := Lib.hid (h2.below hb (Nat.le_refl _))
  clear h1 h2 hb hx1 hx2
  go_enter Try.func32, Try.ntmps32
  go_upto_region 1 with fail
  generalize World.alloc (World.alloc w _) _ = W at *
  obtain ⟨⟨k0, k1⟩, _⟩ := two_facts HX1.out
  obtain ⟨⟨q0, q1⟩, _⟩ := two_facts HX2.out
  go_wp2_with fail
  refine (pcompare_any p q a b _ _ _ HI1.out HI2.out).mono ?_
  rintro e w1 ⟨rfl, hb1⟩
  have HB1 := Lib.hid (gr_tr HB.out hb1)
  clear hb1
  go_wp2
  go_ret
  exact ⟨rfl, HB1.out⟩

/-- A point's own copy. -/
def OwnPt (w : World) (p : List Int) (a : Int) (e : Ending) (w' : World) : Prop := ∃ x n c, e = .returned (.agg #[.slice x n c, .int .i64 a]) ∧ Own w' w.heap.size (.slice x n c) p ∧ Below w.heap.size w w'

set_option maxHeartbeats 1000000 in
theorem pown_any (p : List Int) (a : Int) (v1 : Value) (w : World) (h1 : Ints w v1 p) : Calls Try.prog 79 #[.agg #[v1, .int .i64 a]] w (OwnPt w p a) := by
  obtain ⟨a1, n1, c1, rfl⟩ := h1.slice3
  obtain ⟨hb, hx1, hx2⟩ := two_boxes w #[.slice a1 n1 c1, .int .i64 a] #[.slice none 0 0, .int .i64 0] 35 35
  have HB := Lib.hid hb; have HX1 := Lib.hid hx1; have HX2 := Lib.hid hx2
  have HI1 := Lib.hid (h1.below hb (Nat.le_refl _))
  clear h1 hb hx1 hx2
  go_enter Try.func79, Try.ntmps79
  go_upto_region 1 with fail
  generalize World.alloc (World.alloc w _) _ = W at *
  obtain ⟨⟨k0, k1⟩, _⟩ := two_facts HX1.out
  go_region_held3 (fun w' => w'.cell? ⟨w.heap.size, 0, none⟩ = some (.slice a1 n1 c1) ∧ w'.cell? ⟨w.heap.size, 1, none⟩ = some (.int .i64 a))
    (first | exact ⟨k0, k1⟩ | go_keep)
    (first
      | (go_at_call 102; refine (clone_ints p _ _ (HI1.out.same ⟨1, rfl⟩)).mono ?_; rintro e w1 ⟨v', rfl, ho, hb1⟩; obtain ⟨a2, n2, c2, rfl⟩ := ho.ints.slice3; obtain ⟨⟨k0, k1⟩, _⟩ := two_facts (blk_below (blk_below HX1.out (gr_dr (gr_refl W))) hb1); obtain ⟨⟨q0, q1⟩, ⟨r0, r1⟩⟩ := two_facts (blk_below (blk_below HX2.out (gr_dr (gr_refl W))) hb1)))
  have HF := Lib.hid (two_block (blk_below (blk_below HX2.out (gr_dr (gr_refl W))) hb1) (.slice a2 n2 c2) (.int .i64 a))
  have HW := Lib.hid (two_below (u0 := .slice a2 n2 c2) (u1 := .int .i64 a) (gr_tr (gr_dr HB.out) hb1) (show w.heap.size ≤ w.heap.size + 1 by omega))
  have hlt := lt_of_block HX2.out
  have HV := Lib.hid (OwnKeep.put2 ho (u0 := .slice a2 n2 c2) (u1 := .int .i64 a) (show w.heap.size + 1 < W.drew.heap.size from hlt))
  clear ho hb1
  go_wp2_with fail
  have hf := HF.out; have hw := HW.out; have hv := HV.out
  simp only [put2] at hf hw hv
  generalize World.setCell (World.setCell w1 _ _) _ _ = wf at *
  obtain ⟨⟨j0, j1⟩, _⟩ := two_facts hf
  exact bodyPost_ret (v := .agg #[.slice a2 n2 c2, .int .i64 a]) (by simp [results, Try.results79, go_sem, j0, j1]) rfl ⟨a2, n2, c2, rfl, hv.mono (show w.heap.size ≤ W.heap.size by omega), hw⟩

theorem put2_far {w : World} {g b : Nat} {u0 u1 : Value} (h : b ≠ g) : (put2 w g u0 u1).heap[b]? = w.heap[b]? := by simp [World.setCell, Array.getElem?_modify, Ne.symm h]
/-- A pair of points in order. -/
def OrdPt (w : World) (p : List Int) (a : Int) (q : List Int) (b : Int) (turned : Bool) (e : Ending) (w' : World) : Prop :=
  ∃ x1 n1 c1 x2 n2 c2, e = .returned (.tuple #[.agg #[.slice x1 n1 c1, .int .i64 a], .agg #[.slice x2 n2 c2, .int .i64 b], .bool turned]) ∧ Ints w' (.slice x1 n1 c1) p ∧ Ints w' (.slice x2 n2 c2) q ∧ Below w.heap.size w w'

theorem three_boxes (w : World) (c1 c2 c3 : Array Value) (t1 t2 t3 : TypeId) : Below w.heap.size w (((w.alloc (.cells c1 t1)).alloc (.cells c2 t2)).alloc (.cells c3 t3)) ∧
    (((w.alloc (.cells c1 t1)).alloc (.cells c2 t2)).alloc (.cells c3 t3)).heap[w.heap.size]? = some (.cells c1 t1 (0, 0)) ∧ (((w.alloc (.cells c1 t1)).alloc (.cells c2 t2)).alloc (.cells c3 t3)).heap[w.heap.size + 1]? = some (.cells c2 t2 (0, 0)) ∧
      (((w.alloc (.cells c1 t1)).alloc (.cells c2 t2)).alloc (.cells c3 t3)).heap[w.heap.size + 1 + 1]? = some (.cells c3 t3 (0, 0)) := by
  obtain ⟨h1, h2, h3⟩ := two_boxes w c1 c2 t1 t2
  refine ⟨gr_al h1 _, blk_below h2 (gr_al (gr_refl _) _), blk_below h3 (gr_al (gr_refl _) _), ?_⟩
  have := heap_alloc_new ((w.alloc (.cells c1 t1)).alloc (.cells c2 t2)) (.cells c3 t3)
  rwa [show ((w.alloc (.cells c1 t1)).alloc (.cells c2 t2)).heap.size = w.heap.size + 1 + 1 by simp] at this

/- Walk of redlinelaw07.short: some answer; opening an argument that is a point. -/
/-- Points in a slice, of which only the form is known. -/
def PtsForm (w : World) (v : Value) (n : Nat) : Prop := ∃ es : List (List Value), Sl Any w 2 32 v es ∧ es.length = n ∧ ∀ e ∈ es, ∃ a m c o, e = [.slice a m c, .int .i64 o]

set_option maxHeartbeats 1000000 in
theorem short7_any (n : Nat) (v : Value) (w : World) (h : PtsForm w v n) : Calls Try.prog 30 #[v] w (SomeBool w) := by
  obtain ⟨es, hs, hl, hf⟩ := h
  obtain ⟨a, c, rfl⟩ := hs.slice
  have hlen := hs.len
  rw [hl] at hs hlen
  rw [hl]
  have HS := Lib.hid hs; have HL := Lib.hid hl; have HF := Lib.hid hf
  clear hs hl hf
  go_enter Try.func30, Try.ntmps30
  go_wp2
  go_loopw [7] (fun i wr => ∃ k : Nat, k ≤ n ∧ i = .int .i64 k ∧ Below w.heap.size w wr) (fun i _ => n - (intOf i).toNat)
  case atStart => exact ⟨0, Nat.zero_le _, rfl, Below.refl _ _⟩
  case round =>
    obtain ⟨k, hk, rfl, hb⟩ := hrel
    have HB := Lib.hid hb
    by_cases hlt : k < n
    · obtain ⟨b, off, rfl, hc, _, hr, _⟩ := (HS.out.later hb (Nat.le_refl _)).at_ k hlt
      obtain ⟨a1, m1, c1, o1, hform⟩ := HF.out (es.getD k []) (by have := HL.out; simp [show k < es.length by omega])
      rw [hform] at hr
      have e0 : wr.cell? ⟨b, off + k * 2, none⟩ = some (.slice a1 m1 c1) := hr 0 _ rfl
      have e1 : wr.cell? ⟨b, off + k * 2 + 1, none⟩ = some (.int .i64 o1) := hr 1 _ rfl
      clear hform hr hb
      by_cases hm : 50 < m1
      · have hd : decide (50 < m1) = true := by simpa using hm
        go_wp2_with fail
        go_ret
        exact ⟨_, rfl, gr_al HB.out _⟩
      · have hd : decide (50 < m1) = false := by simpa using hm
        go_wp2_with fail
        go_roundw
        case rel => exact ⟨k + 1, by omega, by go_num, gr_al HB.out _⟩
        case measure => simp [intOf]; omega
    · have : k = n := by omega
      subst this
      clear hb
      go_wp2_with fail
      go_ret
      exact ⟨_, rfl, HB.out⟩

/-- A literal slice of points. -/
theorem pts_lit {w : World} {g n : Nat} {cs : Array Value} (es : List (List Value)) (hg : w.heap.size = g) (hn : es.length = n) (hs : n ≤ 1000) (hc : cs = es.flatten.toArray) (hf : ∀ e ∈ es, ∃ a m c o, e = [.slice a m c, .int .i64 o]) :
    PtsForm (w.alloc (.cells cs 35)) (.slice (some ⟨g, 0, none⟩) n n) n := by
  subst hg hn hc
  have h2 : ∀ e ∈ es, e.length = 2 := fun e he => by obtain ⟨a, m, c, o, rfl⟩ := hf e he; rfl
  obtain ⟨f1, f2⟩ := flat_get (size := 2) (by decide) es h2
  refine ⟨es, ⟨_, _, rfl, Nat.le_refl _, by unfold maxLen; omega, by omega, h2, fun _ => ⟨w.heap.size, 0, rfl, fun j hj => ⟨trivial, fun k u hu => ?_⟩⟩⟩, rfl, hf⟩
  rw [cell_of_row _ w.heap.size _ _ _ (0, 0) (heap_alloc_new w _)]
  have hk : k < 2 := by
    have := (List.getElem?_eq_some_iff.1 hu).1
    rwa [h2 (es.getD j []) (by simp [hj])] at this
  rw [List.getElem?_toArray, f2, show (0 + j * 2 + k) / 2 = j by omega, show (0 + j * 2 + k) % 2 = k by omega]
  exact hu

/-- A point's value. -/
def PointV (w : World) (v : Value) (x : List Int × Int) : Prop := ∃ a n c, v = .agg #[.slice a n c, .int .i64 x.2] ∧ Ints w (.slice a n c) x.1 ∧ I64 x.1

/- Plain Lean: a tree's paths are those at which a node is found, and they rise; its first and its last point. No program in sight. -/
theorem cmpI_prefix : ∀ (q a b : List Int), cmpI (q ++ a) (q ++ b) = cmpI a b
  | [], a, b => rfl
  | x :: q, a, b => by
    rw [List.cons_append, List.cons_append, cmpI_cons, cmp3_self, if_pos rfl]
    exact cmpI_prefix q a b
theorem cmpI_ext (q : List Int) (x : Int) (r : List Int) : cmpI q (q ++ x :: r) = -1 := by
  have := cmpI_prefix q [] (x :: r)
  rw [List.append_nil] at this
  rw [this]
  rfl
theorem cmpI_head {x y : Int} (h : x < y) (a b : List Int) : cmpI (x :: a) (y :: b) = -1 := by
  rw [cmpI_cons]
  have h1 : cmp3 x y = -1 := by simp [cmp3, h]
  rw [h1, if_neg (by decide)]

mutual
theorem mem_pathsL (f : Tree → Bool) : ∀ (t : Tree) (q p : List Int), p ∈ pathsL f t q ↔ ∃ r s, p = q ++ r ∧ getT t r = some s ∧ f s = true
  | .mk l ps xs ks, q, p => by
    rw [pathsL, List.mem_append, mem_pathsK f ks q 0 p]
    constructor
    · rintro (h | ⟨j, r, s, hj, hp, hg, hf⟩)
      · split at h
        · rename_i hf
          simp only [List.mem_singleton] at h
          subst h
          exact ⟨[], _, (List.append_nil _).symm, rfl, hf⟩
        · simp at h
      · refine ⟨(j : Int) :: r, s, by rw [hp]; simp, ?_, hf⟩
        rw [getT_cons, if_pos ⟨by omega, by simpa [Tree.kids] using hj⟩]
        simpa [Tree.kids] using hg
    · rintro ⟨r, s, hp, hg, hf⟩
      cases r with
      | nil =>
        left
        rw [getT_nil] at hg
        obtain rfl := Option.some.inj hg
        rw [if_pos hf]
        simp [hp]
      | cons i r =>
        right
        rw [getT_cons] at hg
        split at hg
        · rename_i h
          refine ⟨i.toNat, r, s, by simpa [Tree.kids] using h.2, ?_, by simpa [Tree.kids] using hg, hf⟩
          have : ((0 + i.toNat : Nat) : Int) = i := by omega
          rw [hp, this]
        · cases hg
theorem mem_pathsK (f : Tree → Bool) : ∀ (ks : List Tree) (q : List Int) (i : Nat) (p : List Int), p ∈ pathsK f ks q i ↔ ∃ (j : Nat) (r : List Int) (s : Tree), j < ks.length ∧ p = q ++ ((i + j : Nat) : Int) :: r ∧ getT (ks.getD j default) r = some s ∧ f s = true
  | [], q, i, p => by simp [pathsK]
  | k :: ks, q, i, p => by
    rw [pathsK, List.mem_append, mem_pathsL f k _ p, mem_pathsK f ks q (i + 1) p]
    constructor
    · rintro (⟨r, s, hp, hg, hf⟩ | ⟨j, r, s, hj, hp, hg, hf⟩)
      · exact ⟨0, r, s, by simp, by rw [hp]; simp, by simpa using hg, hf⟩
      · refine ⟨j + 1, r, s, by simpa using hj, ?_, by simpa using hg, hf⟩
        rw [hp, show i + 1 + j = i + (j + 1) by omega]
    · rintro ⟨j, r, s, hj, hp, hg, hf⟩
      cases j with
      | zero => exact .inl ⟨r, s, by rw [hp]; simp, by simpa using hg, hf⟩
      | succ j =>
        refine .inr ⟨j, r, s, by simpa using hj, ?_, by simpa using hg, hf⟩
        rw [hp, show i + 1 + j = i + (j + 1) by omega]
end

mutual
theorem rise_pathsL (f : Tree → Bool) : ∀ (t : Tree) (q : List Int), (pathsL f t q).Pairwise fun a b => cmpI a b = -1
  | .mk l ps xs ks, q => by
    rw [pathsL, List.pairwise_append]
    refine ⟨?_, rise_pathsK f ks q 0, ?_⟩
    · split <;> simp
    · intro a ha b hb
      split at ha
      · simp only [List.mem_singleton] at ha
        subst ha
        obtain ⟨j, r, s, _, hp, _⟩ := (mem_pathsK f ks a 0 b).1 hb
        rw [hp]
        exact cmpI_ext _ _ _
      · simp at ha
theorem rise_pathsK (f : Tree → Bool) : ∀ (ks : List Tree) (q : List Int) (i : Nat), (pathsK f ks q i).Pairwise fun a b => cmpI a b = -1
  | [], q, i => by simp [pathsK]
  | k :: ks, q, i => by
    rw [pathsK, List.pairwise_append]
    refine ⟨rise_pathsL f k _, rise_pathsK f ks q (i + 1), ?_⟩
    intro a ha b hb
    obtain ⟨r, s, hp, _⟩ := (mem_pathsL f k _ a).1 ha
    obtain ⟨j, r', s', _, hp', _⟩ := (mem_pathsK f ks q (i + 1) b).1 hb
    rw [hp, hp', List.append_assoc, cmpI_prefix]
    exact cmpI_head (by omega) _ _
end

theorem mem_leaves (t : Tree) (p : List Int) : p ∈ leavesL t ↔ ∃ s, getT t p = some s ∧ s.leaf = true := by
  rw [show leavesL t = pathsL Tree.leaf t [] from rfl, mem_pathsL]
  constructor
  · rintro ⟨r, s, hp, hg, hf⟩
    rw [List.nil_append] at hp
    subst hp
    exact ⟨s, hg, hf⟩
  · rintro ⟨s, hg, hf⟩
    exact ⟨p, s, rfl, hg, hf⟩
theorem rise_leaves (t : Tree) : (leavesL t).Pairwise fun a b => cmpI a b = -1 := rise_pathsL _ _ _

theorem check_ok {t : Tree} {p : List Int} {off : Int} : checkT t p off = 0 ↔ ∃ s, getT t p = some s ∧ s.leaf = true ∧ 0 ≤ off ∧ off ≤ (s.text.length : Int) := by
  unfold checkT
  cases hg : getT t p with
  | none => simp
  | some s =>
    cases hl : s.leaf
    · simp [hl]
    · simp [hl]
theorem check_mem {t : Tree} {p : List Int} {off : Int} (h : checkT t p off = 0) : p ∈ leavesL t := by
  obtain ⟨s, hg, hl, _⟩ := check_ok.1 h
  exact (mem_leaves t p).2 ⟨s, hg, hl⟩

/-- The first leaf's path stands ahead of each, or is it. -/
theorem first_le {L : List (List Int)} (h : L.Pairwise fun a b => cmpI a b = -1) {p : List Int} (hp : p ∈ L) : L.getD 0 [] = p ∨ cmpI (L.getD 0 []) p = -1 := by
  cases L with
  | nil => simp at hp
  | cons a L =>
    rcases List.mem_cons.1 hp with rfl | hp
    · exact .inl rfl
    · exact .inr ((List.pairwise_cons.1 h).1 p hp)
theorem last_le {L : List (List Int)} (h : L.Pairwise fun a b => cmpI a b = -1) {p : List Int} (hp : p ∈ L) : p = L.getD (L.length - 1) [] ∨ cmpI p (L.getD (L.length - 1) []) = -1 := by
  obtain ⟨i, hi, rfl⟩ := List.getElem_of_mem hp
  have hl : L.length - 1 < L.length := by omega
  have e : L.getD (L.length - 1) [] = L[L.length - 1] := by simp [hl]
  rw [e]
  by_cases hil : i = L.length - 1
  · left
    simp [hil]
  · right
    exact List.pairwise_iff_getElem.1 h i (L.length - 1) hi hl (by omega)
theorem lastD_mem {L : List (List Int)} (h : 0 < L.length) : L.getD (L.length - 1) [] ∈ L := by
  have hl : L.length - 1 < L.length := by omega
  simp [hl]
theorem firstD_mem {L : List (List Int)} (h : 0 < L.length) : L.getD 0 [] ∈ L := by simp [h]

/-- The tree's first point, and its last one. -/
theorem edge_first {t : Tree} (h : 0 < (leavesL t).length) : edgeR t (leavesL t) false = ((leavesL t).getD 0 [], 0, 0) ∧ checkT t ((leavesL t).getD 0 []) 0 = 0 := by
  constructor
  · unfold edgeR
    rw [if_neg (by omega), if_pos rfl]
  · obtain ⟨s, hg, hl⟩ := (mem_leaves t _).1 (firstD_mem h)
    exact check_ok.2 ⟨s, hg, hl, by omega, by omega⟩
theorem edge_last {t : Tree} (h : 0 < (leavesL t).length) : ∃ n : Nat, edgeR t (leavesL t) true = ((leavesL t).getD ((leavesL t).length - 1) [], (n : Int), 0) ∧ checkT t ((leavesL t).getD ((leavesL t).length - 1) []) n = 0 ∧
    ∀ p off, p = (leavesL t).getD ((leavesL t).length - 1) [] → checkT t p off = 0 → off ≤ n := by
  obtain ⟨s, hg, hl⟩ := (mem_leaves t _).1 (lastD_mem h)
  refine ⟨s.text.length, ?_, check_ok.2 ⟨s, hg, hl, by omega, by omega⟩, ?_⟩
  · unfold edgeR
    rw [if_neg (by omega), if_neg (by decide), hg]
  · intro p off hp hc
    subst hp
    obtain ⟨s', hg', _, _, hle⟩ := check_ok.1 hc
    rw [hg] at hg'
    obtain rfl := Option.some.inj hg'
    exact hle
theorem edge_none {t : Tree} (h : (leavesL t).length = 0) (last : Bool) : edgeR t (leavesL t) last = ([], 0, 14) := by
  unfold edgeR
  rw [if_pos h]

theorem cmp3_le {a b : Int} (h : a ≤ b) : cmp3 a b ≤ 0 := by
  unfold cmp3
  split
  · omega
  · rw [if_neg (by omega)]
    omega
/-- What the law says: each point lies between the first one and the last one. -/
theorem between {t : Tree} {p : List Int} {off : Int} (h : checkT t p off = 0) : cmpP ((leavesL t).getD 0 []) 0 p off ≤ 0 ∧ ∀ n : Nat, (∀ p off, p = (leavesL t).getD ((leavesL t).length - 1) [] → checkT t p off = 0 → off ≤ n) → cmpP p off ((leavesL t).getD ((leavesL t).length - 1) []) n ≤ 0 := by
  have hm := check_mem h
  obtain ⟨s, _, _, h0, _⟩ := check_ok.1 h
  constructor
  · rcases first_le (rise_leaves t) hm with e | e
    · rw [cmpP_eq e]
      exact cmp3_le h0
    · rw [cmpP_ne (fun h => by rw [cmpI_zero.2 h] at e; cases e), e]
      decide
  · intro n hn
    rcases last_le (rise_leaves t) hm with e | e
    · rw [cmpP_eq e]
      exact cmp3_le (hn p off e h)
    · rw [cmpP_ne (fun h => by rw [cmpI_zero.2 h] at e; cases e), e]
      decide
end Go.Proofs.Ytdcpoeaddhbjbaa
