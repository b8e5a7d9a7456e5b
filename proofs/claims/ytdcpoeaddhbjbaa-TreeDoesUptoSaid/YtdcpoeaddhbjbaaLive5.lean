/- Walk of redlinelaw05.live. -/
import Derived.Test.YtdcpoeaddhbjbaaCut
import Derived.Test.YtdcpoeaddhbjbaaSame04
import Derived.Test.YtdcpoeaddhbjbaaPts
namespace Go.Proofs.Ytdcpoeaddhbjbaa
set_option maxRecDepth 100000
open Go.RowKit

/-- A literal slice of one node. -/
theorem lit_node1 {W0 w : World} {x0 x1 x2 x3 : Value} {t : TypeId} {g : Nat} (hw : W0.heap[g]? = some (.cells #[x0, x1, x2, x3] t (0, 0))) (hb : Below W0.heap.size W0 w) : Sl Any w 4 80 (.slice (some ⟨g, 0, none⟩) 1 1) [[x0, x1, x2, x3]] := by
  have hw' := blk_below hw hb
  refine ⟨_, 1, rfl, Nat.le_refl _, by unfold maxLen; decide, by simp, by simp, fun _ => ⟨g, 0, rfl, fun j hj => ⟨trivial, fun k u hu => ?_⟩⟩⟩
  obtain rfl : j = 0 := by simp at hj; omega
  rw [cell_of_row _ g _ _ _ (0, 0) hw']
  simpa using hu

theorem lit_one_all {w : World} {xs : List Value} {s : Tree} (h1 : NodeAt Any w xs s) : ∀ i, i < [s].length → NodeAt Any w ([xs].getD i []) ([s].getD i default) := by
  intro i hi
  obtain rfl : i = 0 := by simp at hi; omega
  exact h1
theorem r4same_yes (s : Tree) (cs ds : List Value) (S S' : Nat → Prop) (w : World) (h1 : NodeAt S w cs s) (h2 : NodeAt S' w ds s) :
    Calls Try.prog 60 #[.agg (List.toArray cs), .agg (List.toArray ds)] w fun e w' => e = .returned (.bool true) ∧ Below w.heap.size w w' := by
  have h := r4same_any s s cs ds S S' w h1 h2
  rwa [eqT_yes rfl] at h
theorem live_cut : cutE (.mk false [(typeS, ⟨#[112]⟩)] [] [.mk true [] [97] [], .mk true [] [98] []]) [0] = 0 ∧ getT (.mk false [(typeS, ⟨#[112]⟩)] [] [.mk true [] [97] [], .mk true [] [98] []]) [0] = some (.mk true [] [97] []) ∧
    cutT (.mk false [(typeS, ⟨#[112]⟩)] [] [.mk true [] [97] [], .mk true [] [98] []]) [0] = .mk false [(typeS, ⟨#[112]⟩)] [] [.mk true [] [98] []] := ⟨rfl, rfl, rfl⟩

set_option maxHeartbeats 4000000 in
theorem live5_any (w : World) : Calls Try.prog 19 #[] w fun e w' => e = .returned (.bool true) ∧ Below w.heap.size w w' := by
  have q1 : Conv.runesFrom ⟨#[97]⟩ (⟨#[97]⟩ : ByteArray).size 0 #[] = (([97] : List Int).map (Value.int .i32)).toArray := by kernel_rfl
  have q2 : Conv.runesFrom ⟨#[98]⟩ (⟨#[98]⟩ : ByteArray).size 0 #[] = (([98] : List Int).map (Value.int .i32)).toArray := by kernel_rfl
  have HL1 := Lib.hid (leaf_any ⟨#[97]⟩ [97] q1 (by decide))
  have HL2 := Lib.hid (leaf_any ⟨#[98]⟩ [98] q2 (by decide))
  clear q1 q2
  go_enter Try.func19, Try.ntmps19
  go_wp2_with fail
  refine (HL1.out w).mono ?_
  rintro e w1 ⟨l1, a11, n11, c11, a12, n12, c12, a13, n13, c13, rfl, hn1, hb1⟩
  have HN1 := Lib.hid hn1; have HB1 := Lib.hid hb1
  clear hn1 hb1
  go_wp2_with fail
  refine (HL2.out _).mono ?_
  rintro e w2 ⟨l2, a21, n21, c21, a22, n22, c22, a23, n23, c23, rfl, hn2, hb2⟩
  have HN2 := Lib.hid hn2; have HB2 := Lib.hid hb2
  clear hn2 hb2
  have hal := gr_al (gr_refl w2) (.cells #[.bool l1, .slice a11 n11 c11, .slice a12 n12 c12, .slice a13 n13 c13, .bool l2, .slice a21 n21 c21, .slice a22 n22 c22, .slice a23 n23 c23] 26)
  have HE := Lib.hid (elem_any ⟨#[112]⟩ (by kernel_rfl) _ _ [.mk true [] [97] [], .mk true [] [98] []] _ (lit_nodes w2 (.bool l1) (.slice a11 n11 c11) (.slice a12 n12 c12) (.slice a13 n13 c13) (.bool l2) (.slice a21 n21 c21) (.slice a22 n22 c22) (.slice a23 n23 c23)) rfl
    (lit_nodes_all (((HN1.out.boxed HB2.out).boxed hal).weaken fun _ _ => trivial) ((HN2.out.boxed hal).weaken fun _ _ => trivial)))
  have HB3 := Lib.hid (gr_al (gr_tr HB1.out HB2.out) (.cells #[.bool l1, .slice a11 n11 c11, .slice a12 n12 c12, .slice a13 n13 c13, .bool l2, .slice a21 n21 c21, .slice a22 n22 c22, .slice a23 n23 c23] 26))
  clear hal HN1 HN2 HB1 HB2
  go_wp2_with fail
  refine HE.out.mono ?_
  rintro e w3 ⟨l3, a31, n31, c31, a32, n32, c32, a33, n33, c33, rfl, hn3, hb3⟩
  have hal := gr_al (gr_refl w3) (.cells #[.int .i64 0] 3)
  have HC := Lib.hid (cut_any Any _ _ [0] (.slice (some ⟨w3.heap.size, 0, none⟩) 1 1) (w3.alloc (.cells #[.int .i64 0] 3)) (hn3.boxed hal) (lit_ints w3 #[.int .i64 0] 1 w3.heap.size [0] rfl rfl rfl (by simp)) (by intro x hx; simp at hx; omega))
  have HB4 := Lib.hid (gr_tr (gr_tr HB3.out hb3) hal)
  clear hn3 hb3 HE HB3 hal
  go_wp2_with fail
  refine HC.out.mono ?_
  rintro e w4 ⟨hb4, hr⟩
  obtain ⟨z1, z2, z3⟩ := live_cut
  rcases hr with ⟨hne, -⟩ | ⟨cs, ds, m, -, hm, rfl, ht, ht2⟩
  · exact absurd z1 hne
  rw [z2] at hm
  obtain rfl := Option.some.inj hm
  rw [z3] at ht
  obtain ⟨x1, y1, k1, x2, y2, k2, x3, y3, k3, hcs⟩ := ht.nodeAt.form
  replace hcs : cs = [.bool false, .slice x1 y1 k1, .slice x2 y2 k2, .slice x3 y3 k3] := hcs
  subst hcs
  obtain ⟨u1, v1, r1, u2, v2, r2, u3, v3, r3, hds⟩ := ht2.nodeAt.form
  replace hds : ds = [.bool true, .slice u1 v1 r1, .slice u2 v2 r2, .slice u3 v3 r3] := hds
  subst hds
  obtain ⟨b1, b2, b3⟩ := two_boxesN w4 #[.bool false, .slice x1 y1 k1, .slice x2 y2 k2, .slice x3 y3 k3] #[.bool true, .slice u1 v1 r1, .slice u2 v2 r2, .slice u3 v3 r3] 26 26
  have HT := Lib.hid (ht.nodeAt.later b1 (Nat.le_refl _)); have HT2 := Lib.hid (ht2.nodeAt.later b1 (Nat.le_refl _)); have X1 := Lib.hid b2; have X2 := Lib.hid b3
  have HB5 := Lib.hid (gr_tr (gr_tr HB4.out hb4) b1)
  clear z1 z2 z3 hm ht ht2 b1 b2 b3 hb4 HC HB4
  go_upto_region 2 with fail
  generalize World.alloc (World.alloc w4 _) _ = W at *
  have BB : Hid (∀ w', Below W.heap.size W w' → w'.cell? ⟨w4.heap.size, 0, none⟩ = some (.bool false) ∧ w'.cell? ⟨w4.heap.size, 1, none⟩ = some (.slice x1 y1 k1) ∧ w'.cell? ⟨w4.heap.size, 2, none⟩ = some (.slice x2 y2 k2) ∧ w'.cell? ⟨w4.heap.size, 3, none⟩ = some (.slice x3 y3 k3) ∧
      w'.cell? ⟨w4.heap.size + 1, 0, none⟩ = some (.bool true) ∧ w'.cell? ⟨w4.heap.size + 1, 1, none⟩ = some (.slice u1 v1 r1) ∧ w'.cell? ⟨w4.heap.size + 1, 2, none⟩ = some (.slice u2 v2 r2) ∧ w'.cell? ⟨w4.heap.size + 1, 3, none⟩ = some (.slice u3 v3 r3)) := Lib.hid (fun w' hb => by
    obtain ⟨⟨k0, k1, k2, k3⟩, _⟩ := four_facts (blk_below X1.out hb)
    obtain ⟨⟨m0, m1, m2, m3⟩, _⟩ := four_facts (blk_below X2.out hb)
    exact ⟨k0, k1, k2, k3, m0, m1, m2, m3⟩)
  have l := gr_dr (gr_refl W)
  go_region_held3 (fun w' => w'.cell? ⟨w4.heap.size, 0, none⟩ = some (.bool false) ∧ w'.cell? ⟨w4.heap.size, 1, none⟩ = some (.slice x1 y1 k1) ∧ w'.cell? ⟨w4.heap.size, 2, none⟩ = some (.slice x2 y2 k2) ∧ w'.cell? ⟨w4.heap.size, 3, none⟩ = some (.slice x3 y3 k3) ∧
      w'.cell? ⟨w4.heap.size + 1, 0, none⟩ = some (.bool true) ∧ w'.cell? ⟨w4.heap.size + 1, 1, none⟩ = some (.slice u1 v1 r1) ∧ w'.cell? ⟨w4.heap.size + 1, 2, none⟩ = some (.slice u2 v2 r2) ∧ w'.cell? ⟨w4.heap.size + 1, 3, none⟩ = some (.slice u3 v3 r3))
    (first | exact BB.out _ l | exact BB.out _ (gr_al l _))
    (first
      | ((try rw [if_pos (by rfl)]); (try go_simp); go_at_call 63; (with_reducible refine (HL2.out _).mono ?_); rintro e w5 ⟨lb, ba1, bn1, bc1, ba2, bn2, bc2, ba3, bn3, bc3, rfl, hnb, hb5⟩; replace l := gr_tr l hb5; clear hb5; (try dsimp only))
      | ((try rw [if_pos (by rfl)]); (try go_simp); go_at_call 62; (with_reducible refine (elem_any ⟨#[112]⟩ (by kernel_rfl) _ _ [.mk true [] [98] []] _ (lit_node1 (heap_alloc_new w5 _) (gr_refl _)) rfl (lit_one_all ((hnb.alloc _).weaken fun _ _ => trivial))).mono ?_); rintro e w6 ⟨le, ea1, en1, ec1, ea2, en2, ec2, ea3, en3, ec3, rfl, hne, hb6⟩; replace l := gr_tr (gr_al l _) hb6; clear hb6; (try dsimp only))
      | ((try rw [if_pos (by rfl)]); (try go_simp); go_at_call 60; (with_reducible refine (r4same_yes _ _ _ _ _ _ (HT.out.boxed l) hne).mono ?_); rintro e w7 ⟨rfl, hb7⟩; replace l := gr_tr l hb7; clear hb7; (try dsimp only))
      | ((try rw [if_pos (by rfl)]); (try go_simp); go_at_call 63; (with_reducible refine (HL1.out _).mono ?_); rintro e w8 ⟨la, aa1, an1, ac1, aa2, an2, ac2, aa3, an3, ac3, rfl, hna, hb8⟩; replace l := gr_tr l hb8; clear hb8; (try dsimp only))
      | ((try rw [if_pos (by rfl)]); (try go_simp); go_at_call 60; (with_reducible refine (r4same_yes _ _ _ _ _ _ (HT2.out.boxed l) hna).mono ?_); rintro e w9 ⟨rfl, hb9⟩; replace l := gr_tr l hb9; clear hb9; (try dsimp only)))
  go_wp2_with fail
  go_ret
  exact ⟨rfl, gr_tr HB5.out l⟩
end Go.Proofs.Ytdcpoeaddhbjbaa
