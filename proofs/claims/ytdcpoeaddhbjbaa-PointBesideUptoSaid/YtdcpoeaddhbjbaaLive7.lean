/- Walks of redlineref07.Same and redlinelaw07.live. -/
import Derived.Test.YtdcpoeaddhbjbaaLeafEl
namespace Go.Proofs.Ytdcpoeaddhbjbaa
set_option maxRecDepth 100000
open Go.RowKit

set_option maxHeartbeats 1000000 in
theorem rpsame_any (p q : List Int) (a b : Int) (v1 v2 : Value) (w : World) (h1 : Ints w v1 p) (h2 : Ints w v2 q) :
    Calls Try.prog 44 #[.agg #[v1, .int .i64 a], .agg #[v2, .int .i64 b]] w fun e w' => e = .returned (.bool (decide (a = b) && decide (p = q))) ∧ Below w.heap.size w w' := by
  obtain ⟨a1, n1, c1, rfl⟩ := h1.slice3
  obtain ⟨a2, n2, c2, rfl⟩ := h2.slice3
  have hb1 := gr_al (gr_al (gr_refl w) (.cells #[.slice a1 n1 c1, .int .i64 a] 35)) (.cells #[.slice a2 n2 c2, .int .i64 b] 35)
  have hx1 := blk_below (heap_alloc_new w (.cells #[.slice a1 n1 c1, .int .i64 a] 35)) (gr_al (gr_refl _) (.cells #[.slice a2 n2 c2, .int .i64 b] 35))
  have hx2 := heap_alloc_new (w.alloc (.cells #[.slice a1 n1 c1, .int .i64 a] 35)) (.cells #[.slice a2 n2 c2, .int .i64 b] 35)
  rw [show (w.alloc (.cells #[.slice a1 n1 c1, .int .i64 a] 35)).heap.size = w.heap.size + 1 by simp] at hx2
  have HS := Lib.hid (rsame_any p q _ _ _ (h1.below hb1 (Nat.le_refl _)) (h2.below hb1 (Nat.le_refl _)))
  have HB := Lib.hid hb1; have HX1 := Lib.hid hx1; have HX2 := Lib.hid hx2
  clear h1 h2 hb1 hx1 hx2
  go_enter Try.func44, Try.ntmps44
  go_upto_region 1 with fail
  generalize World.alloc (World.alloc w _) _ = W at *
  obtain ⟨⟨k0, k1⟩, _⟩ := two_facts HX1.out
  obtain ⟨⟨q0, q1⟩, _⟩ := two_facts HX2.out
  by_cases hab : a = b
  · have hd : (a == b) = true := by simpa using hab
    have HD : Hid (decide (a = b) = true) := by show _ = _; simpa using hab
    clear hab
    go_wp2_with fail
    refine HS.out.mono ?_
    rintro e w' ⟨rfl, hs⟩
    go_wp2
    go_ret
    refine ⟨ret_bool ?_, gr_sm HB.out hs⟩
    rw [HD.out, Bool.true_and]
  · have hd : (a == b) = false := by simpa using hab
    have HD : Hid (decide (a = b) = false) := by show _ = _; simpa using hab
    clear hab
    go_wp2_with fail
    go_ret
    refine ⟨ret_bool ?_, HB.out⟩
    rw [HD.out, Bool.false_and]

/-- A literal slice of two nodes. -/
theorem lit_nodes (w : World) (x0 x1 x2 x3 y0 y1 y2 y3 : Value) : Sl Any (w.alloc (.cells #[x0, x1, x2, x3, y0, y1, y2, y3] 26)) 4 80 (.slice (some ⟨w.heap.size, 0, none⟩) 2 2) [[x0, x1, x2, x3], [y0, y1, y2, y3]] := by
  refine ⟨_, 2, rfl, Nat.le_refl _, by unfold maxLen; decide, by simp, by simp, fun _ => ⟨w.heap.size, 0, rfl, fun j hj => ⟨trivial, fun k u hu => ?_⟩⟩⟩
  have hj2 : j = 0 ∨ j = 1 := by simp at hj; omega
  rw [cell_of_row _ w.heap.size _ _ _ (0, 0) (heap_alloc_new w _)]
  have hk : k < 4 := by
    have h := (List.getElem?_eq_some_iff.1 hu).1
    rcases hj2 with rfl | rfl <;> simpa using h
  rcases hj2 with rfl | rfl <;> (obtain rfl | rfl | rfl | rfl : k = 0 ∨ k = 1 ∨ k = 2 ∨ k = 3 := by omega) <;> simpa using hu
theorem lit_nodes_all {w : World} {xs ys : List Value} {s t : Tree} (h1 : NodeAt Any w xs s) (h2 : NodeAt Any w ys t) : ∀ i, i < [s, t].length → NodeAt Any w ([xs, ys].getD i []) ([s, t].getD i default) := by
  intro i hi
  obtain rfl | rfl : i = 0 ∨ i = 1 := by simp at hi; omega
  · exact h1
  · exact h2

set_option maxHeartbeats 2000000 in
theorem live7_any (w : World) : Calls Try.prog 15 #[] w fun e w' => e = .returned (.bool true) ∧ Below w.heap.size w w' := by
  have q1 : Conv.runesFrom ⟨#[97]⟩ (⟨#[97]⟩ : ByteArray).size 0 #[] = (([97] : List Int).map (Value.int .i32)).toArray := by kernel_rfl
  have q2 : Conv.runesFrom ⟨#[98, 99]⟩ (⟨#[98, 99]⟩ : ByteArray).size 0 #[] = (([98, 99] : List Int).map (Value.int .i32)).toArray := by kernel_rfl
  have HL1 := Lib.hid (leaf_any ⟨#[97]⟩ [97] q1 (by decide))
  have HL2 := Lib.hid (leaf_any ⟨#[98, 99]⟩ [98, 99] q2 (by decide))
  clear q1 q2
  go_enter Try.func15, Try.ntmps15
  go_wp2_with fail
  refine (HL1.out w).mono ?_
  rintro e w1 ⟨l1, a11, n11, c11, a12, n12, c12, a13, n13, c13, rfl, hn1, hb1⟩
  have HN1 := Lib.hid hn1; have HB1 := Lib.hid hb1
  clear hn1 hb1
  go_wp2_with fail
  refine (HL2.out _).mono ?_
  rintro e w2 ⟨l2, a21, n21, c21, a22, n22, c22, a23, n23, c23, rfl, hn2, hb2⟩
  have HN2 := Lib.hid hn2; have HB2 := Lib.hid hb2
  clear hn2 hb2
  have hal := gr_al (gr_refl w2) (.cells #[.bool l1, .slice a11 n11 c11, .slice a12 n12 c12, .slice a13 n13 c13, .bool l2, .slice a21 n21 c21, .slice a22 n22 c22, .slice a23 n23 c23] 26)
  have HE := Lib.hid (elem_any ⟨#[112]⟩ (by kernel_rfl) _ _ [.mk true [] [97] [], .mk true [] [98, 99] []] _ (lit_nodes w2 (.bool l1) (.slice a11 n11 c11) (.slice a12 n12 c12) (.slice a13 n13 c13) (.bool l2) (.slice a21 n21 c21) (.slice a22 n22 c22) (.slice a23 n23 c23)) rfl
    (lit_nodes_all (((HN1.out.boxed HB2.out).boxed hal).weaken fun _ _ => trivial) ((HN2.out.boxed hal).weaken fun _ _ => trivial)))
  have HB3 := Lib.hid (gr_al (gr_tr HB1.out HB2.out) (.cells #[.bool l1, .slice a11 n11 c11, .slice a12 n12 c12, .slice a13 n13 c13, .bool l2, .slice a21 n21 c21, .slice a22 n22 c22, .slice a23 n23 c23] 26))
  clear hal HN1 HN2 HB1 HB2
  go_wp2_with fail
  refine HE.out.mono ?_
  rintro e w3 ⟨l3, a31, n31, c31, a32, n32, c32, a33, n33, c33, rfl, hn3, hb3⟩
  have HL := Lib.hid (last_any Any _ _ _ hn3 (by decide))
  have HB4 := Lib.hid (gr_tr HB3.out hb3)
  clear hn3 hb3 HE HB3 HL1 HL2
  have hR : edgeR (.mk false [(typeS, ⟨#[112]⟩)] [] [.mk true [] [97] [], .mk true [] [98, 99] []]) (leavesL (.mk false [(typeS, ⟨#[112]⟩)] [] [.mk true [] [97] [], .mk true [] [98, 99] []])) true = ([1], 2, 0) := by rfl
  rw [hR] at HL
  clear hR
  go_wp2_with fail
  refine HL.out.mono ?_
  rintro e w4 ⟨a, n, c, rfl, ⟨hi, _⟩, hb⟩
  have hb4 := gr_tr HB4.out hb
  have HI := Lib.hid hi; have HB5 := Lib.hid hb4
  clear hi hb hb4 HL HB4
  have hal := gr_al (gr_al (gr_refl w4) (.cells #[.slice a n c, .int .i64 2] 35)) (.cells #[.int .i64 1] 3)
  have HS := Lib.hid (rpsame_any [1] [1] 2 2 _ _ _ (HI.out.below hal (Nat.le_refl _)) (lit_ints (w4.alloc (.cells #[.slice a n c, .int .i64 2] 35)) _ 1 (w4.heap.size + 1) _ (by simp) rfl rfl (by simp)))
  have HB6 := Lib.hid (gr_tr HB5.out hal)
  clear hal
  go_wp2_with fail
  refine HS.out.mono ?_
  rintro e w5 ⟨rfl, hb⟩
  have HB7 := Lib.hid hb
  clear hb
  go_wp2
  go_ret
  exact ⟨rfl, gr_tr HB6.out HB7.out⟩
/-- True, and nothing that was there has turned. -/
def Yes (w : World) (e : Ending) (w' : World) : Prop := e = .returned (.bool true) ∧ Below w.heap.size w w'
end Go.Proofs.Ytdcpoeaddhbjbaa
