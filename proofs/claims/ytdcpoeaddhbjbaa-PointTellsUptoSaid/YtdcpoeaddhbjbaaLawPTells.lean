/- The walk of the law PointTells. (genptells.py wrote it.) -/
import Derived.Test.YtdcpoeaddhbjbaaRPtA
import Derived.Test.YtdcpoeaddhbjbaaPOrder
import Derived.Test.YtdcpoeaddhbjbaaAhead
import Derived.Test.YtdcpoeaddhbjbaaLater
import Derived.Test.YtdcpoeaddhbjbaaOpenPt
namespace Go.Proofs.Ytdcpoeaddhbjbaa
set_option maxRecDepth 100000
open Go.RowKit

/-- A node's box, a point's box. -/
def BoxT (w : World) (g : Nat) (x0 x1 x2 x3 : Value) (t : Tree) : Prop := w.heap[g]? = some (.cells #[x0, x1, x2, x3] 26 (0, 0)) ∧ NodeAt Any w [x0, x1, x2, x3] t
theorem BoxT.later {w w' : World} {g : Nat} {x0 x1 x2 x3 : Value} {t : Tree} (h : BoxT w g x0 x1 x2 x3 t) (hb : Below w.heap.size w w') : BoxT w' g x0 x1 x2 x3 t := ⟨blk_below h.1 hb, h.2.boxed hb⟩
def BoxP (w : World) (g : Nat) (x0 : Value) (p : List Int) (a : Int) : Prop := w.heap[g]? = some (.cells #[x0, .int .i64 a] 35 (0, 0)) ∧ Ints w x0 p
theorem BoxP.later {w w' : World} {g : Nat} {x0 : Value} {p : List Int} {a : Int} (h : BoxP w g x0 p a) (hb : Below w.heap.size w w') : BoxP w' g x0 p a := ⟨blk_below h.1 hb, h.2.below hb (Nat.le_refl _)⟩
def BoxO (w : World) (B g : Nat) (x0 : Value) (p : List Int) (a : Int) : Prop := w.heap[g]? = some (.cells #[x0, .int .i64 a] 35 (0, 0)) ∧ Own w B x0 p
theorem BoxO.later {w w' : World} {B g : Nat} {x0 : Value} {p : List Int} {a : Int} (h : BoxO w B g x0 p a) (hb : Below w.heap.size w w') : BoxO w' B g x0 p a := ⟨blk_below h.1 hb, h.2.below hb (Nat.le_refl _)⟩
theorem BoxO.put {w : World} {B g g' : Nat} {x0 u0 u1 : Value} {p : List Int} {a : Int} (h : BoxO w B g x0 p a) (hne : g ≠ g') (hB : g' < B) : BoxO (put2 w g' u0 u1) B g x0 p a := ⟨(put2_far hne).trans h.1, OwnKeep.put2 h.2 hB⟩
theorem BoxO.p {w : World} {B g : Nat} {x0 : Value} {p : List Int} {a : Int} (h : BoxO w B g x0 p a) : BoxP w g x0 p a := ⟨h.1, h.2.ints⟩
theorem BoxO.new {w : World} {B C g : Nat} {x0 y0 y1 : Value} {p : List Int} {a : Int} (hg : w.heap[g]? = some (.cells #[y0, y1] 35 (0, 0))) (ho : Own w C x0 p) (hC : B ≤ C) (hB : g < B) : BoxO (put2 w g x0 (.int .i64 a)) B g x0 p a := ⟨two_block hg _ _, OwnKeep.put2 (ho.mono hC) hB⟩
theorem rps_yes {w : World} {g g' : Nat} {x0 y0 : Value} {p : List Int} {a : Int} (h : BoxP w g x0 p a) (h2 : BoxP w g' y0 p a) : Calls Try.prog 44 #[.agg #[x0, .int .i64 a], .agg #[y0, .int .i64 a]] w fun e w' => e = .returned (.bool true) ∧ Below w.heap.size w w' := by
  refine (rpsame_any p p a a x0 y0 w h.2 h2.2).mono ?_
  rintro e w' ⟨rfl, hb⟩
  exact ⟨ret_bool (by simp), hb⟩
theorem eq_cmp (p q : List Int) (a b : Int) : (cmpP p a q b == 0) = (decide (a = b) && decide (p = q)) := by
  rw [Bool.eq_iff_iff]
  simp [cmpP_zero]
  exact ⟨fun ⟨h1, h2⟩ => ⟨h2, h1⟩, fun ⟨h1, h2⟩ => ⟨h2, h1⟩⟩
theorem ord_one (p q : List Int) (a b : Int) : ∃ (P1 : List Int) (A1 : Int) (P2 : List Int) (A2 : Int) (tv : Bool), ∀ w : World, (if cmpP q b p a < 0 then OrdPt w q b p a true else OrdPt w p a q b false) = OrdPt w P1 A1 P2 A2 tv := by
  by_cases h : cmpP q b p a < 0
  · exact ⟨q, b, p, a, true, fun w => if_pos h⟩
  · exact ⟨p, a, q, b, false, fun w => if_neg h⟩

set_option maxHeartbeats 8000000 in
set_option maxRecDepth 1000000 in
theorem law_ptells (t : Tree) (x y : List Int × Int) (v0 v1 v2 : Value) (w : World) (h0 : NodeV w v0 t ∧ sizeT t ≤ 1048576) (h1 : PointV w v1 x) (h2 : PointV w v2 y) :
    Calls Try.prog 9 #[v0, v1, v2] w (Yes w) := by
  obtain ⟨p, a⟩ := x
  obtain ⟨q, b⟩ := y
  obtain ⟨⟨cs, rfl, hn⟩, hsz⟩ := h0
  obtain ⟨a1, n1, c1, a2, n2, c2, a3, n3, c3, rfl⟩ := hn.form
  obtain ⟨ap, np, cp, rfl, ip, -⟩ := h1
  obtain ⟨aq, nq, cq, rfl, iq, -⟩ := h2
  dsimp only at ip iq ⊢
  obtain ⟨hbW, hx1, hx2, hx3⟩ := three_boxes w #[.bool t.leaf, .slice a1 n1 c1, .slice a2 n2 c2, .slice a3 n3 c3] #[.slice ap np cp, .int .i64 a] #[.slice aq nq cq, .int .i64 b] 26 35 35
  have HS := Lib.hid (show sizeT t ≤ 1500000 by omega)
  have BN : BoxT _ _ _ _ _ _ t := ⟨hx1, hn.boxed hbW⟩
  have BA : BoxP _ _ (.slice ap np cp) p a := ⟨hx2, ip.below hbW (Nat.le_refl _)⟩
  have BB : BoxP _ _ (.slice aq nq cq) q b := ⟨hx3, iq.below hbW (Nat.le_refl _)⟩
  have LB := Lib.hid hbW
  clear hn ip iq hbW hx1 hx2 hx3 hsz
  obtain ⟨P1, A1, P2, A2, tv, ho⟩ := ord_one p q a b
  have HOC := Lib.hid (fun w h1 h2 => by have := porder_any p q a b (.slice ap np cp) (.slice aq nq cq) w h1 h2; rw [ho w] at this; exact this)
  have HOR := Lib.hid (fun w h1 h2 => by have := rporder_any p q a b (.slice ap np cp) (.slice aq nq cq) w h1 h2; rw [ho w] at this; exact this)
  clear ho
  obtain ⟨PF, oF, eF, hF⟩ : ∃ P o e, edgeR t (leavesL t) false = (P, o, e) := ⟨_, _, _, rfl⟩
  have HFC := Lib.hid (fun w' (h : NodeAt Any w' [.bool t.leaf, .slice a1 n1 c1, .slice a2 n2 c2, .slice a3 n3 c3] t) => by have h2 := first_any Any t _ w' h HS.out; rw [hF] at h2; exact h2)
  have HFR := Lib.hid (fun w' (h : NodeAt Any w' [.bool t.leaf, .slice a1 n1 c1, .slice a2 n2 c2, .slice a3 n3 c3] t) => by have h2 := rfirst_any Any t _ w' h HS.out; rw [hF] at h2; exact h2)
  clear hF
  obtain ⟨PL, oL, eL, hL⟩ : ∃ P o e, edgeR t (leavesL t) true = (P, o, e) := ⟨_, _, _, rfl⟩
  have HLC := Lib.hid (fun w' (h : NodeAt Any w' [.bool t.leaf, .slice a1 n1 c1, .slice a2 n2 c2, .slice a3 n3 c3] t) => by have h2 := last_any Any t _ w' h HS.out; rw [hL] at h2; exact h2)
  have HLR := Lib.hid (fun w' (h : NodeAt Any w' [.bool t.leaf, .slice a1 n1 c1, .slice a2 n2 c2, .slice a3 n3 c3] t) => by have h2 := rlast_any Any t _ w' h HS.out; rw [hL] at h2; exact h2)
  clear hL
  obtain ⟨PG, oG, eG, hG⟩ : ∃ P o e, edgeR t ((leavesL t).filter (fun x => !(decide (0 ≤ cmpI x p) || aboveB x p))) true = (P, o, e) := ⟨_, _, _, rfl⟩
  have HGC := Lib.hid (fun w' (h : NodeAt Any w' [.bool t.leaf, .slice a1 n1 c1, .slice a2 n2 c2, .slice a3 n3 c3] t) (hq : Ints w' (.slice ap np cp) p) => by have h2 := ahead_own Any t _ p _ w' h hq HS.out; rw [hG] at h2; exact h2)
  have HGR := Lib.hid (fun w' (h : NodeAt Any w' [.bool t.leaf, .slice a1 n1 c1, .slice a2 n2 c2, .slice a3 n3 c3] t) (hq : Ints w' (.slice ap np cp) p) => by have h2 := rahead_own Any t _ p _ w' h hq HS.out; rw [hG] at h2; exact h2)
  clear hG
  obtain ⟨PH, oH, eH, hH⟩ : ∃ P o e, edgeR t ((leavesL t).filter (fun x => !decide (cmpI x p < 0))) false = (P, o, e) := ⟨_, _, _, rfl⟩
  have HHC := Lib.hid (fun w' (h : NodeAt Any w' [.bool t.leaf, .slice a1 n1 c1, .slice a2 n2 c2, .slice a3 n3 c3] t) (hq : Ints w' (.slice ap np cp) p) => by have h2 := behind_own Any t _ p _ w' h hq HS.out; rw [hH] at h2; exact h2)
  have HHR := Lib.hid (fun w' (h : NodeAt Any w' [.bool t.leaf, .slice a1 n1 c1, .slice a2 n2 c2, .slice a3 n3 c3] t) (hq : Ints w' (.slice ap np cp) p) => by have h2 := rbehind_own Any t _ p _ w' h hq HS.out; rw [hH] at h2; exact h2)
  clear hH
  dsimp only at HFC HFR HLC HLR HGC HGR HHC HHR
  go_enter Try.func9, Try.ntmps9
  go_upto_region 1 with fail
  generalize World.alloc (World.alloc (World.alloc w _) _) _ = W at *
  go_wp2_with fail
  refine (live7_any W).mono ?_
  rintro e w1 ⟨rfl, hb⟩
  replace BN := BN.later hb
  replace BA := BA.later hb
  replace BB := BB.later hb
  replace LB := Lib.hid (gr_tr LB.out hb)
  clear hb
  obtain ⟨⟨bn0, bn1, bn2, bn3⟩, -⟩ := four_facts BN.1
  go_wp2_with fail
  refine (fewN_any t _ Any 150 _ BN.2).mono ?_
  rintro e w2 ⟨fw, rfl, hb⟩
  replace BN := BN.later hb
  replace BA := BA.later hb
  replace BB := BB.later hb
  replace LB := Lib.hid (gr_tr LB.out hb)
  clear bn0 bn1 bn2 bn3
  clear hb
  cases fw
  · go_wp2_with fail
    go_ret
    exact ⟨rfl, LB.out⟩
  obtain ⟨⟨bac0, bac1⟩, -⟩ := two_facts BA.1
  obtain ⟨⟨bbc0, bbc1⟩, -⟩ := two_facts BB.1
  go_wp2_with fail
  refine (short7_any 2 _ _ (pts_lit [[.slice ap np cp, .int .i64 a], [.slice aq nq cq, .int .i64 b]] rfl rfl (by decide) rfl (by simp))).mono ?_
  rintro e w3 ⟨sh, rfl, hb⟩
  replace hb := gr_tr (gr_al (gr_refl w2) _) hb
  replace BN := BN.later hb
  replace BA := BA.later hb
  replace BB := BB.later hb
  replace LB := Lib.hid (gr_tr LB.out hb)
  clear bac0 bac1 bbc0 bbc1
  clear hb
  cases sh
  · go_wp2_with fail
    go_ret
    exact ⟨rfl, LB.out⟩
  obtain ⟨⟨bac0, bac1⟩, -⟩ := two_facts BA.1
  obtain ⟨⟨bbc0, bbc1⟩, -⟩ := two_facts BB.1
  go_wp2_with fail
  refine (HOC.out _ BA.2 BB.2).mono ?_
  rintro e w4 ⟨sa4, sn4, sc4, ta4, tn4, tc4, rfl, hi1, hi2, hb⟩
  obtain ⟨hal, hx1, hx2⟩ := two_boxes w4 #[.slice sa4 sn4 sc4, .int .i64 A1] #[.slice ta4 tn4 tc4, .int .i64 A2] 35 35
  have BS : BoxP _ _ (.slice sa4 sn4 sc4) P1 A1 := ⟨hx1, hi1.below hal (Nat.le_refl _)⟩
  have BT : BoxP _ _ (.slice ta4 tn4 tc4) P2 A2 := ⟨hx2, hi2.below hal (Nat.le_refl _)⟩
  replace hal := gr_tr hb hal
  replace BN := BN.later hal
  replace BA := BA.later hal
  replace BB := BB.later hal
  replace LB := Lib.hid (gr_tr LB.out hal)
  clear bac0 bac1 bbc0 bbc1
  clear hi1 hi2 hb hal hx1 hx2
  go_upto_region 6 with fail
  generalize World.alloc (World.alloc w4 _) _ = V4 at *
  obtain ⟨⟨bac0, bac1⟩, -⟩ := two_facts BA.1
  obtain ⟨⟨bbc0, bbc1⟩, -⟩ := two_facts BB.1
  go_wp2_with fail
  refine (HOR.out _ BA.2 BB.2).mono ?_
  rintro e w5 ⟨sa5, sn5, sc5, ta5, tn5, tc5, rfl, hi1, hi2, hb⟩
  obtain ⟨hal, hx1, hx2⟩ := two_boxes w5 #[.slice sa5 sn5 sc5, .int .i64 A1] #[.slice ta5 tn5 tc5, .int .i64 A2] 35 35
  have BX : BoxP _ _ (.slice sa5 sn5 sc5) P1 A1 := ⟨hx1, hi1.below hal (Nat.le_refl _)⟩
  have BY : BoxP _ _ (.slice ta5 tn5 tc5) P2 A2 := ⟨hx2, hi2.below hal (Nat.le_refl _)⟩
  replace hal := gr_tr hb hal
  replace BN := BN.later hal
  replace BA := BA.later hal
  replace BB := BB.later hal
  replace BS := BS.later hal
  replace BT := BT.later hal
  replace LB := Lib.hid (gr_tr LB.out hal)
  clear bac0 bac1 bbc0 bbc1
  clear hi1 hi2 hb hal hx1 hx2
  go_upto_region 7 with fail
  generalize World.alloc (World.alloc w5 _) _ = V5 at *
  have L := Lib.hid (gr_refl V5)
  obtain ⟨⟨bn0, bn1, bn2, bn3⟩, -⟩ := four_facts (BN.later L.out).1
  go_wp2_with fail
  refine (HFC.out _ (BN.later L.out).2).mono ?_
  rintro e w6 ⟨fa6, fn6, fc6, rfl, ⟨hi, -⟩, hb⟩
  have hal := gr_al (gr_refl w6) (.cells #[.slice fa6 fn6 fc6, .int .i64 oF] 35)
  have Z6 := Lib.hid (show V5.heap.size ≤ w6.heap.size from hb.size)
  have R6 : BoxP _ _ (.slice fa6 fn6 fc6) PF oF := ⟨heap_alloc_new w6 _, hi.below hal (Nat.le_refl _)⟩
  replace hal := gr_tr hb hal
  replace L := Lib.hid (gr_tr L.out hal)
  replace LB := LB
  clear bn0 bn1 bn2 bn3
  clear hi hb hal
  go_upto_region 8 with fail
  generalize World.alloc w6 _ = V6 at *
  obtain ⟨⟨bn0, bn1, bn2, bn3⟩, -⟩ := four_facts (BN.later L.out).1
  go_wp2_with fail
  refine (HFR.out _ (BN.later L.out).2).mono ?_
  rintro e w7 ⟨fa7, fn7, fc7, rfl, ⟨hi, -⟩, hb⟩
  have hal := gr_al (gr_refl w7) (.cells #[.slice fa7 fn7 fc7, .int .i64 oF] 35)
  have R7 : BoxP _ _ (.slice fa7 fn7 fc7) PF oF := ⟨heap_alloc_new w7 _, hi.below hal (Nat.le_refl _)⟩
  have z7 : w6.heap.size < w7.heap.size := by have := lt_of_block R6.1; have := hb.size; omega
  replace hal := gr_tr hb hal
  replace L := Lib.hid (gr_tr L.out hal)
  replace LB := LB
  replace R6 := R6.later hal
  clear bn0 bn1 bn2 bn3
  clear hi hb hal
  go_upto_region 9 with fail
  generalize World.alloc w7 _ = V7 at *
  obtain ⟨⟨bn0, bn1, bn2, bn3⟩, -⟩ := four_facts (BN.later L.out).1
  go_wp2_with fail
  refine (HLC.out _ (BN.later L.out).2).mono ?_
  rintro e w8 ⟨fa8, fn8, fc8, rfl, ⟨hi, -⟩, hb⟩
  have hal := gr_al (gr_refl w8) (.cells #[.slice fa8 fn8 fc8, .int .i64 oL] 35)
  have R8 : BoxP _ _ (.slice fa8 fn8 fc8) PL oL := ⟨heap_alloc_new w8 _, hi.below hal (Nat.le_refl _)⟩
  have z8 : w7.heap.size < w8.heap.size := by have := lt_of_block R7.1; have := hb.size; omega
  replace hal := gr_tr hb hal
  replace L := Lib.hid (gr_tr L.out hal)
  replace LB := LB
  replace R6 := R6.later hal
  replace R7 := R7.later hal
  clear bn0 bn1 bn2 bn3
  clear hi hb hal
  go_upto_region 10 with fail
  generalize World.alloc w8 _ = V8 at *
  obtain ⟨⟨bn0, bn1, bn2, bn3⟩, -⟩ := four_facts (BN.later L.out).1
  go_wp2_with fail
  refine (HLR.out _ (BN.later L.out).2).mono ?_
  rintro e w9 ⟨fa9, fn9, fc9, rfl, ⟨hi, -⟩, hb⟩
  have hal := gr_al (gr_refl w9) (.cells #[.slice fa9 fn9 fc9, .int .i64 oL] 35)
  have R9 : BoxP _ _ (.slice fa9 fn9 fc9) PL oL := ⟨heap_alloc_new w9 _, hi.below hal (Nat.le_refl _)⟩
  have z9 : w8.heap.size < w9.heap.size := by have := lt_of_block R8.1; have := hb.size; omega
  replace hal := gr_tr hb hal
  replace L := Lib.hid (gr_tr L.out hal)
  replace LB := LB
  replace R6 := R6.later hal
  replace R7 := R7.later hal
  replace R8 := R8.later hal
  clear bn0 bn1 bn2 bn3
  clear hi hb hal
  go_upto_region 11 with fail
  generalize World.alloc w9 _ = V9 at *
  obtain ⟨⟨r6c0, r6c1⟩, -⟩ := two_facts R6.1
  obtain ⟨⟨r7c0, r7c1⟩, -⟩ := two_facts R7.1
  go_wp2_with fail
  refine (rps_yes R6 R7).mono ?_
  rintro e w10 ⟨rfl, hb⟩
  replace L := Lib.hid (gr_tr L.out hb)
  replace R6 := R6.later hb
  replace R7 := R7.later hb
  replace R8 := R8.later hb
  replace R9 := R9.later hb
  clear r6c0 r6c1 r7c0 r7c1
  clear hb
  obtain ⟨⟨r8c0, r8c1⟩, -⟩ := two_facts R8.1
  obtain ⟨⟨r9c0, r9c1⟩, -⟩ := two_facts R9.1
  go_wp2_with fail
  refine (rps_yes R8 R9).mono ?_
  rintro e w11 ⟨rfl, hb⟩
  replace L := Lib.hid (gr_tr L.out hb)
  replace R6 := R6.later hb
  replace R7 := R7.later hb
  replace R8 := R8.later hb
  replace R9 := R9.later hb
  clear r8c0 r8c1 r9c0 r9c1
  clear hb
  obtain ⟨⟨bn0, bn1, bn2, bn3⟩, -⟩ := four_facts (BN.later L.out).1
  obtain ⟨⟨bac0, bac1⟩, -⟩ := two_facts (BA.later L.out).1
  have hB9 := lt_of_block R9.1
  have hV5 : V5.heap.size ≤ w6.heap.size := Z6.out
  obtain ⟨B, hBB⟩ : ∃ B, w11.heap.size = B := ⟨_, rfl⟩
  rw [hBB] at hB9
  have HBB := Lib.hid (show B ≤ w11.heap.size from Nat.le_of_eq hBB.symm)
  clear hBB
  have Q6 := R6.1
  have Q7 := R7.1
  have Q8 := R8.1
  have Q9 := R9.1
  clear R6 R7 R8 R9
  go_wp2_with fail
  refine (HGC.out _ (BN.later L.out).2 (BA.later L.out).2).mono ?_
  rintro e w13 ⟨fa13, fn13, fc13, rfl, ho, hb⟩
  replace L := Lib.hid (gr_tr L.out hb)
  have hBc := Nat.le_trans HBB.out hb.size
  replace Q6 := blk_below Q6 hb
  replace Q7 := blk_below Q7 hb
  replace Q8 := blk_below Q8 hb
  replace Q9 := blk_below Q9 hb
  clear bn0 bn1 bn2 bn3 bac0 bac1
  obtain ⟨⟨q6c0, q6c1⟩, ⟨q6m0, q6m1⟩⟩ := two_facts Q6
  have O6 : BoxO _ B w6.heap.size (.slice fa13 fn13 fc13) PG oG := BoxO.new (a := oG) Q6 ho HBB.out (by omega)
  replace L := Lib.hid (two_below (g := w6.heap.size) (u0 := .slice fa13 fn13 fc13) (u1 := .int .i64 oG) L.out (by omega))
  replace Q7 := (put2_far (g := w6.heap.size) (u0 := .slice fa13 fn13 fc13) (u1 := .int .i64 oG) (by omega)).trans Q7
  replace Q8 := (put2_far (g := w6.heap.size) (u0 := .slice fa13 fn13 fc13) (u1 := .int .i64 oG) (by omega)).trans Q8
  replace Q9 := (put2_far (g := w6.heap.size) (u0 := .slice fa13 fn13 fc13) (u1 := .int .i64 oG) (by omega)).trans Q9
  replace HBB := Lib.hid (show B ≤ (put2 w13 w6.heap.size (.slice fa13 fn13 fc13) (.int .i64 oG)).heap.size by simpa [put2] using hBc)
  clear ho hb hBc
  clear Q6
  replace Q7 := Lib.hid Q7
  replace Q8 := Lib.hid Q8
  replace Q9 := Lib.hid Q9
  replace O6 := Lib.hid O6
  go_upto_region 14 with fail
  replace Q7 := Q7.out
  replace Q8 := Q8.out
  replace Q9 := Q9.out
  replace O6 := O6.out
  simp only [put2] at Q7 Q8 Q9 O6 L HBB
  clear q6c0 q6c1 q6m0 q6m1
  generalize World.setCell (World.setCell w13 _ _) _ _ = V13 at *
  obtain ⟨⟨bn0, bn1, bn2, bn3⟩, -⟩ := four_facts (BN.later L.out).1
  obtain ⟨⟨bac0, bac1⟩, -⟩ := two_facts (BA.later L.out).1
  go_wp2_with fail
  refine (HGR.out _ (BN.later L.out).2 (BA.later L.out).2).mono ?_
  rintro e w14 ⟨fa14, fn14, fc14, rfl, ho, hb⟩
  replace L := Lib.hid (gr_tr L.out hb)
  have hBc := Nat.le_trans HBB.out hb.size
  replace Q7 := blk_below Q7 hb
  replace Q8 := blk_below Q8 hb
  replace Q9 := blk_below Q9 hb
  replace O6 := O6.later hb
  clear bn0 bn1 bn2 bn3 bac0 bac1
  obtain ⟨⟨q7c0, q7c1⟩, ⟨q7m0, q7m1⟩⟩ := two_facts Q7
  have O7 : BoxO _ B w7.heap.size (.slice fa14 fn14 fc14) PG oG := BoxO.new (a := oG) Q7 ho HBB.out (by omega)
  replace L := Lib.hid (two_below (g := w7.heap.size) (u0 := .slice fa14 fn14 fc14) (u1 := .int .i64 oG) L.out (by omega))
  replace Q8 := (put2_far (g := w7.heap.size) (u0 := .slice fa14 fn14 fc14) (u1 := .int .i64 oG) (by omega)).trans Q8
  replace Q9 := (put2_far (g := w7.heap.size) (u0 := .slice fa14 fn14 fc14) (u1 := .int .i64 oG) (by omega)).trans Q9
  replace O6 := O6.put (g' := w7.heap.size) (u0 := .slice fa14 fn14 fc14) (u1 := .int .i64 oG) (by omega) (by omega)
  replace HBB := Lib.hid (show B ≤ (put2 w14 w7.heap.size (.slice fa14 fn14 fc14) (.int .i64 oG)).heap.size by simpa [put2] using hBc)
  clear ho hb hBc
  clear Q7
  replace Q8 := Lib.hid Q8
  replace Q9 := Lib.hid Q9
  replace O6 := Lib.hid O6
  replace O7 := Lib.hid O7
  go_upto_region 15 with fail
  replace Q8 := Q8.out
  replace Q9 := Q9.out
  replace O6 := O6.out
  replace O7 := O7.out
  simp only [put2] at Q8 Q9 O6 O7 L HBB
  clear q7c0 q7c1 q7m0 q7m1
  generalize World.setCell (World.setCell w14 _ _) _ _ = V14 at *
  obtain ⟨⟨bn0, bn1, bn2, bn3⟩, -⟩ := four_facts (BN.later L.out).1
  obtain ⟨⟨bac0, bac1⟩, -⟩ := two_facts (BA.later L.out).1
  go_wp2_with fail
  refine (HHC.out _ (BN.later L.out).2 (BA.later L.out).2).mono ?_
  rintro e w15 ⟨fa15, fn15, fc15, rfl, ho, hb⟩
  replace L := Lib.hid (gr_tr L.out hb)
  have hBc := Nat.le_trans HBB.out hb.size
  replace Q8 := blk_below Q8 hb
  replace Q9 := blk_below Q9 hb
  replace O6 := O6.later hb
  replace O7 := O7.later hb
  clear bn0 bn1 bn2 bn3 bac0 bac1
  obtain ⟨⟨q8c0, q8c1⟩, ⟨q8m0, q8m1⟩⟩ := two_facts Q8
  have O8 : BoxO _ B w8.heap.size (.slice fa15 fn15 fc15) PH oH := BoxO.new (a := oH) Q8 ho HBB.out (by omega)
  replace L := Lib.hid (two_below (g := w8.heap.size) (u0 := .slice fa15 fn15 fc15) (u1 := .int .i64 oH) L.out (by omega))
  replace Q9 := (put2_far (g := w8.heap.size) (u0 := .slice fa15 fn15 fc15) (u1 := .int .i64 oH) (by omega)).trans Q9
  replace O6 := O6.put (g' := w8.heap.size) (u0 := .slice fa15 fn15 fc15) (u1 := .int .i64 oH) (by omega) (by omega)
  replace O7 := O7.put (g' := w8.heap.size) (u0 := .slice fa15 fn15 fc15) (u1 := .int .i64 oH) (by omega) (by omega)
  replace HBB := Lib.hid (show B ≤ (put2 w15 w8.heap.size (.slice fa15 fn15 fc15) (.int .i64 oH)).heap.size by simpa [put2] using hBc)
  clear ho hb hBc
  clear Q8
  replace Q9 := Lib.hid Q9
  replace O6 := Lib.hid O6
  replace O7 := Lib.hid O7
  replace O8 := Lib.hid O8
  go_upto_region 16 with fail
  replace Q9 := Q9.out
  replace O6 := O6.out
  replace O7 := O7.out
  replace O8 := O8.out
  simp only [put2] at Q9 O6 O7 O8 L HBB
  clear q8c0 q8c1 q8m0 q8m1
  generalize World.setCell (World.setCell w15 _ _) _ _ = V15 at *
  obtain ⟨⟨bn0, bn1, bn2, bn3⟩, -⟩ := four_facts (BN.later L.out).1
  obtain ⟨⟨bac0, bac1⟩, -⟩ := two_facts (BA.later L.out).1
  go_wp2_with fail
  refine (HHR.out _ (BN.later L.out).2 (BA.later L.out).2).mono ?_
  rintro e w16 ⟨fa16, fn16, fc16, rfl, ho, hb⟩
  replace L := Lib.hid (gr_tr L.out hb)
  have hBc := Nat.le_trans HBB.out hb.size
  replace Q9 := blk_below Q9 hb
  replace O6 := O6.later hb
  replace O7 := O7.later hb
  replace O8 := O8.later hb
  clear bn0 bn1 bn2 bn3 bac0 bac1
  obtain ⟨⟨q9c0, q9c1⟩, ⟨q9m0, q9m1⟩⟩ := two_facts Q9
  have O9 : BoxO _ B w9.heap.size (.slice fa16 fn16 fc16) PH oH := BoxO.new (a := oH) Q9 ho HBB.out (by omega)
  replace L := Lib.hid (two_below (g := w9.heap.size) (u0 := .slice fa16 fn16 fc16) (u1 := .int .i64 oH) L.out (by omega))
  replace O6 := O6.put (g' := w9.heap.size) (u0 := .slice fa16 fn16 fc16) (u1 := .int .i64 oH) (by omega) (by omega)
  replace O7 := O7.put (g' := w9.heap.size) (u0 := .slice fa16 fn16 fc16) (u1 := .int .i64 oH) (by omega) (by omega)
  replace O8 := O8.put (g' := w9.heap.size) (u0 := .slice fa16 fn16 fc16) (u1 := .int .i64 oH) (by omega) (by omega)
  replace HBB := Lib.hid (show B ≤ (put2 w16 w9.heap.size (.slice fa16 fn16 fc16) (.int .i64 oH)).heap.size by simpa [put2] using hBc)
  clear ho hb hBc
  clear Q9
  replace O6 := Lib.hid O6
  replace O7 := Lib.hid O7
  replace O8 := Lib.hid O8
  replace O9 := Lib.hid O9
  go_upto_region 17 with fail
  replace O6 := O6.out
  replace O7 := O7.out
  replace O8 := O8.out
  replace O9 := O9.out
  simp only [put2] at O6 O7 O8 O9 L HBB
  clear q9c0 q9c1 q9m0 q9m1
  generalize World.setCell (World.setCell w16 _ _) _ _ = V16 at *
  replace BA := BA.later L.out
  replace BB := BB.later L.out
  replace BS := BS.later L.out
  replace BT := BT.later L.out
  replace BX := BX.later L.out
  replace BY := BY.later L.out
  replace O6 := O6.p
  replace O7 := O7.p
  replace O8 := O8.p
  replace O9 := O9.p
  replace LB := Lib.hid (gr_tr LB.out L.out)
  have HK : Hid (∀ w', Below V16.heap.size V16 w' → w'.cell? ⟨w6.heap.size, 0, none⟩ = some (.slice fa13 fn13 fc13) ∧ w'.cell? ⟨w6.heap.size, 1, none⟩ = some (.int .i64 oG) ∧ w'.cell? ⟨w7.heap.size, 0, none⟩ = some (.slice fa14 fn14 fc14) ∧ w'.cell? ⟨w7.heap.size, 1, none⟩ = some (.int .i64 oG) ∧ w'.cell? ⟨w8.heap.size, 0, none⟩ = some (.slice fa15 fn15 fc15) ∧ w'.cell? ⟨w8.heap.size, 1, none⟩ = some (.int .i64 oH) ∧ w'.cell? ⟨w9.heap.size, 0, none⟩ = some (.slice fa16 fn16 fc16) ∧ w'.cell? ⟨w9.heap.size, 1, none⟩ = some (.int .i64 oH) ∧ w'.cell? ⟨w4.heap.size, 0, none⟩ = some (.slice sa4 sn4 sc4) ∧ w'.cell? ⟨w4.heap.size, 1, none⟩ = some (.int .i64 A1) ∧ w'.cell? ⟨w4.heap.size + 1, 0, none⟩ = some (.slice ta4 tn4 tc4) ∧ w'.cell? ⟨w4.heap.size + 1, 1, none⟩ = some (.int .i64 A2) ∧ w'.cell? ⟨w5.heap.size, 0, none⟩ = some (.slice sa5 sn5 sc5) ∧ w'.cell? ⟨w5.heap.size, 1, none⟩ = some (.int .i64 A1) ∧ w'.cell? ⟨w5.heap.size + 1, 0, none⟩ = some (.slice ta5 tn5 tc5) ∧ w'.cell? ⟨w5.heap.size + 1, 1, none⟩ = some (.int .i64 A2) ∧ w'.cell? ⟨w.heap.size + 1, 0, none⟩ = some (.slice ap np cp) ∧ w'.cell? ⟨w.heap.size + 1, 1, none⟩ = some (.int .i64 a) ∧ w'.cell? ⟨w.heap.size + 1 + 1, 0, none⟩ = some (.slice aq nq cq) ∧ w'.cell? ⟨w.heap.size + 1 + 1, 1, none⟩ = some (.int .i64 b)) := Lib.hid (fun w' hb => by
    obtain ⟨⟨x0, y0⟩, -⟩ := two_facts (O6.later hb).1
    obtain ⟨⟨x1, y1⟩, -⟩ := two_facts (O7.later hb).1
    obtain ⟨⟨x2, y2⟩, -⟩ := two_facts (O8.later hb).1
    obtain ⟨⟨x3, y3⟩, -⟩ := two_facts (O9.later hb).1
    obtain ⟨⟨x4, y4⟩, -⟩ := two_facts (BS.later hb).1
    obtain ⟨⟨x5, y5⟩, -⟩ := two_facts (BT.later hb).1
    obtain ⟨⟨x6, y6⟩, -⟩ := two_facts (BX.later hb).1
    obtain ⟨⟨x7, y7⟩, -⟩ := two_facts (BY.later hb).1
    obtain ⟨⟨x8, y8⟩, -⟩ := two_facts (BA.later hb).1
    obtain ⟨⟨x9, y9⟩, -⟩ := two_facts (BB.later hb).1
    exact ⟨x0, y0, x1, y1, x2, y2, x3, y3, x4, y4, x5, y5, x6, y6, x7, y7, x8, y8, x9, y9⟩)
  have C1 := Lib.hid (fun w' (l : Below V16.heap.size V16 w') => rps_yes (O6.later l) (O7.later l))
  have C2 := Lib.hid (fun w' (l : Below V16.heap.size V16 w') => rps_yes (O8.later l) (O9.later l))
  have C3 := Lib.hid (fun w' (l : Below V16.heap.size V16 w') => rps_yes (BS.later l) (BX.later l))
  have C4 := Lib.hid (fun w' (l : Below V16.heap.size V16 w') => rps_yes (BT.later l) (BY.later l))
  have C5 := Lib.hid (fun w' (l : Below V16.heap.size V16 w') => pcompare_any p q a b _ _ w' (BA.later l).2 (BB.later l).2)
  have C6 := Lib.hid (fun w' (l : Below V16.heap.size V16 w') => rpcompare_any p q a b _ _ w' (BA.later l).2 (BB.later l).2)
  have C7 := Lib.hid (fun w' (l : Below V16.heap.size V16 w') => psame_any p q a b _ _ w' (BA.later l).2 (BB.later l).2)
  have C8 := Lib.hid (fun w' (l : Below V16.heap.size V16 w') => rpsame_any p q a b _ _ w' (BA.later l).2 (BB.later l).2)
  rw [eq_cmp] at C7
  obtain ⟨z, hz⟩ : ∃ z, cmpP p a q b = z := ⟨_, rfl⟩
  obtain ⟨y, hy⟩ : ∃ y, (decide (a = b) && decide (p = q)) = y := ⟨_, rfl⟩
  rw [hz] at C5 C6
  rw [hy] at C7 C8
  clear hz hy
  clear BN BA BB BS BT BX BY O6 O7 O8 O9 HFC HFR HLC HLR HGC HGR HHC HHR HOC HOR HS L HBB
  have l := gr_dr (gr_refl V16)
  go_region_held3 (fun w' => w'.cell? ⟨w6.heap.size, 0, none⟩ = some (.slice fa13 fn13 fc13) ∧ w'.cell? ⟨w6.heap.size, 1, none⟩ = some (.int .i64 oG) ∧ w'.cell? ⟨w7.heap.size, 0, none⟩ = some (.slice fa14 fn14 fc14) ∧ w'.cell? ⟨w7.heap.size, 1, none⟩ = some (.int .i64 oG) ∧ w'.cell? ⟨w8.heap.size, 0, none⟩ = some (.slice fa15 fn15 fc15) ∧ w'.cell? ⟨w8.heap.size, 1, none⟩ = some (.int .i64 oH) ∧ w'.cell? ⟨w9.heap.size, 0, none⟩ = some (.slice fa16 fn16 fc16) ∧ w'.cell? ⟨w9.heap.size, 1, none⟩ = some (.int .i64 oH) ∧ w'.cell? ⟨w4.heap.size, 0, none⟩ = some (.slice sa4 sn4 sc4) ∧ w'.cell? ⟨w4.heap.size, 1, none⟩ = some (.int .i64 A1) ∧ w'.cell? ⟨w4.heap.size + 1, 0, none⟩ = some (.slice ta4 tn4 tc4) ∧ w'.cell? ⟨w4.heap.size + 1, 1, none⟩ = some (.int .i64 A2) ∧ w'.cell? ⟨w5.heap.size, 0, none⟩ = some (.slice sa5 sn5 sc5) ∧ w'.cell? ⟨w5.heap.size, 1, none⟩ = some (.int .i64 A1) ∧ w'.cell? ⟨w5.heap.size + 1, 0, none⟩ = some (.slice ta5 tn5 tc5) ∧ w'.cell? ⟨w5.heap.size + 1, 1, none⟩ = some (.int .i64 A2) ∧ w'.cell? ⟨w.heap.size + 1, 0, none⟩ = some (.slice ap np cp) ∧ w'.cell? ⟨w.heap.size + 1, 1, none⟩ = some (.int .i64 a) ∧ w'.cell? ⟨w.heap.size + 1 + 1, 0, none⟩ = some (.slice aq nq cq) ∧ w'.cell? ⟨w.heap.size + 1 + 1, 1, none⟩ = some (.int .i64 b))
    (with_reducible exact HK.out _ l)
    (first
      | ((try rw [if_pos (by rfl)]); (try go_simp); go_at_call 44; (with_reducible refine (C1.out _ l).mono ?_); rintro e w20 ⟨rfl, hb5⟩; replace l := gr_tr l hb5; clear hb5; (try dsimp only))
      | ((try rw [if_pos (by rfl)]); (try go_simp); go_at_call 44; (with_reducible refine (C2.out _ l).mono ?_); rintro e w20 ⟨rfl, hb5⟩; replace l := gr_tr l hb5; clear hb5; (try dsimp only))
      | ((try rw [if_pos (by rfl)]); (try go_simp); go_at_call 44; (with_reducible refine (C3.out _ l).mono ?_); rintro e w20 ⟨rfl, hb5⟩; replace l := gr_tr l hb5; clear hb5; (try dsimp only))
      | ((try rw [if_pos (by rfl)]); (try go_simp); go_at_call 44; (with_reducible refine (C4.out _ l).mono ?_); rintro e w20 ⟨rfl, hb5⟩; replace l := gr_tr l hb5; clear hb5; (try dsimp only))
      | ((try rw [if_pos (by rfl)]); (try go_simp); go_at_call 33; (with_reducible refine (C5.out _ l).mono ?_); rintro e w20 ⟨rfl, hb5⟩; replace l := gr_tr l hb5; clear hb5; (try dsimp only))
      | ((try rw [if_pos (by rfl)]); (try go_simp); go_at_call 49; (with_reducible refine (C6.out _ l).mono ?_); rintro e w20 ⟨rfl, hb5⟩; replace l := gr_tr l hb5; clear hb5; (try dsimp only))
      | ((try rw [if_pos (by rfl)]); (try go_simp); go_at_call 32; (with_reducible refine (C7.out _ l).mono ?_); rintro e w20 ⟨rfl, hb5⟩; replace l := gr_tr l hb5; clear hb5; (try dsimp only))
      | ((try rw [if_pos (by rfl)]); (try go_simp); go_at_call 44; (with_reducible refine (C8.out _ l).mono ?_); rintro e w20 ⟨rfl, hb5⟩; replace l := gr_tr l hb5; clear hb5; (try dsimp only)))
  all_goals
    go_wp2_with fail
    go_ret
    exact ⟨ret_bool (by simp), gr_tr LB.out l⟩
end Go.Proofs.Ytdcpoeaddhbjbaa
