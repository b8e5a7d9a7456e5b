/- Walk of back.own. (genown.py wrote it.) -/
import Derived.Test.YtcbljiiomnhbjaaOpN
import Derived.Test.YtcbljiiomnhbjaaClones
import Derived.Test.YtcbljiiomnhbjaaCopy
import Derived.Deep.RegionLaw
namespace Go.Proofs.Ytcbljiiomnhbjaa
set_option maxRecDepth 100000
open Go.RowKit

theorem cl_ints {w : World} {v : Value} {xs : List Int} (h : Ints w v xs) : Calls Try.prog 46 #[v] w fun e w' => ∃ a c, e = .returned (.slice a xs.length c) ∧ Own w' w.heap.size (.slice a xs.length c) xs ∧ Below w.heap.size w w' :=
  (clone_ints xs v w h).mono fun e w' ⟨v', he, ho, hb⟩ => by
    obtain ⟨a, c, rfl⟩ := ho.ints.slice
    exact ⟨a, c, he, ho, hb⟩
theorem cl_props {S : Nat → Prop} {w : World} {v : Value} {ps : List (ByteArray × ByteArray)} (h : PropsAt S w v ps) : Calls Try.prog 52 #[v] w fun e w' => ∃ a c, e = .returned (.slice a ps.length c) ∧ OwnSl w' w.heap.size 90 2 32 (.slice a ps.length c) (ps.map propCells) ∧ Below w.heap.size w w' :=
  (clone_props _ S v w h (prop_cells_one ps)).mono fun e w' ⟨v', he, ho, hb⟩ => by
    obtain ⟨a, c, rfl⟩ := (ho.sl (by decide)).slice
    rw [List.length_map] at he ho
    exact ⟨a, c, he, ho, hb⟩
theorem cl_runes {S : Nat → Prop} {w : World} {v : Value} {xs : List Int} (h : TextAt S w v xs) : Calls Try.prog 51 #[v] w fun e w' => ∃ a c, e = .returned (.slice a xs.length c) ∧ OwnSl w' w.heap.size 21 1 4 (.slice a xs.length c) (xs.map runeCells) ∧ Below w.heap.size w w' :=
  (clone_runes _ S v w h (rune_cells_one xs)).mono fun e w' ⟨v', he, ho, hb⟩ => by
    obtain ⟨a, c, rfl⟩ := (ho.sl (by decide)).slice
    rw [List.length_map] at he ho
    exact ⟨a, c, he, ho, hb⟩
theorem cp_node {S : Nat → Prop} {w : World} {cs : List Value} {t : Tree} (h : NodeAt S w cs t) : Calls Try.prog 53 #[.agg cs.toArray] w fun e w' => ∃ (a1 : Option Addr) (n1 c1 : Nat) (a2 : Option Addr) (n2 c2 : Nat) (a3 : Option Addr) (n3 c3 : Nat), e = .returned (.agg #[.bool t.leaf, .slice a1 n1 c1, .slice a2 n2 c2, .slice a3 n3 c3]) ∧ Tr w' (fun b => w.heap.size ≤ b) [.bool t.leaf, .slice a1 n1 c1, .slice a2 n2 c2, .slice a3 n3 c3] t ∧ Below w.heap.size w w' :=
  (copy_any t cs S w h).mono fun e w' ⟨cs', he, ht, hb⟩ => by
    obtain ⟨a1, n1, c1, a2, n2, c2, a3, n3, c3, hc⟩ := ht.nodeAt.form
    subst hc
    exact ⟨_, _, _, _, _, _, _, _, _, he, ht, hb⟩
theorem OwnSl.setB {w : World} {B : Nat} {e : TypeId} {size bytes : Nat} {v : Value} {es : List (List Value)} (h : OwnSl w B e size bytes v es) {g i : Nat} (hg : g < B) (u : Value) : OwnSl (w.setCell ⟨g, i, none⟩ u) B e size bytes v es :=
  h.keep fun b hb => heap_setCell_other w _ b u (by have := (h.lt b hb).1; simp; omega)
theorem Tr.setB {w : World} {B : Nat} {cs : List Value} {t : Tree} (h : Tr w (fun b => B ≤ b) cs t) {g i : Nat} (hg : g < B) (u : Value) : Tr (w.setCell ⟨g, i, none⟩ u) (fun b => B ≤ b) cs t :=
  h.keep fun b hb => heap_setCell_other w _ b u (by simp; omega)
theorem Own.setB {w : World} {B : Nat} {v : Value} {xs : List Int} (h : Own w B v xs) {g i : Nat} (hg : g < B) (u : Value) : Own (w.setCell ⟨g, i, none⟩ u) B v xs := h.setBelow (a := ⟨g, i, none⟩) hg u
theorem Tr.mono2 {w : World} {B C : Nat} {cs : List Value} {t : Tree} (h : Tr w (fun b => B ≤ b) cs t) (hC : C ≤ B) : Tr w (fun b => C ≤ b) cs t := h.weaken fun _ hb => Nat.le_trans hC hb
/-- The marks of an operation's box. -/
theorem op_thawed {w' : World} {g : Nat} {cs : Array Value} {t : TypeId} (h : w'.heap[g]? = some (.cells cs t (0, 0))) (i : Nat) : w'.frozen? ⟨g, i, none⟩ = false := frozen_of_row w' g i cs t h

set_option maxHeartbeats 8000000 in
set_option maxRecDepth 100000 in
theorem bown_any (o : OpF) (v : Value) (w : World) (h : OpV w v o) : Calls Try.prog 26 #[v] w (OwnP o w) := by
  obtain ⟨a1, c1, a2, c2, p1, m1, d1, p2, m2, d2, p3, m3, d3, a5, c5, a6, c6, a7, c7, f1, g1, h1, f2, g2, h2, i1, j1, k1, i2, j2, k2, rfl, hr⟩ := h
  dsimp only [opC]
  obtain ⟨hbW, hx, hz⟩ := two_boxes w #[.int .i64 o.kind, .slice a1 o.path.length c1, .slice a2 o.dest.length c2, .int .i64 o.pos, .bool o.node.leaf, .slice p1 m1 d1, .slice p2 m2 d2, .slice p3 m3 d3, .slice a5 o.old.length c5, .slice a6 o.new.length c6, .slice a7 o.text.length c7, .bool o.from_.1, .slice f1 g1 h1, .int .i64 o.from_.2.1.2, .slice f2 g2 h2, .int .i64 o.from_.2.2.2, .bool o.into.1, .slice i1 j1 k1, .int .i64 o.into.2.1.2, .slice i2 j2 k2, .int .i64 o.into.2.2.2] #[.int .i64 0, .slice none 0 0, .slice none 0 0, .int .i64 0, .bool false, .slice none 0 0, .slice none 0 0, .slice none 0 0, .slice none 0 0, .slice none 0 0, .slice none 0 0, .bool false, .slice none 0 0, .int .i64 0, .slice none 0 0, .int .i64 0, .bool false, .slice none 0 0, .int .i64 0, .slice none 0 0, .int .i64 0] 35 35
  have HX := Lib.hid hx; have HZ := Lib.hid hz; have HB := Lib.hid hbW; have HR0 := Lib.hid hr; have HR := Lib.hid (hr.later hbW)
  clear hr hbW hx hz
  go_enter Try.func26, Try.ntmps26
  go_upto_region 1 with fail
  generalize World.alloc (World.alloc w _) _ = W at *
  have HWS := Lib.hid (show w.heap.size + 1 < W.heap.size from lt_of_block HZ.out)
  go_cut [] (fun wx => ∃ x1 e1 x2 e2 x7 e7, (wx.heap[w.heap.size]? = some (.cells #[.int .i64 o.kind, .slice x1 o.path.length e1, .slice x2 o.dest.length e2, .int .i64 o.pos, .bool o.node.leaf, .slice p1 m1 d1, .slice p2 m2 d2, .slice p3 m3 d3, .slice a5 o.old.length c5, .slice a6 o.new.length c6, .slice x7 o.text.length e7, .bool o.from_.1, .slice f1 g1 h1, .int .i64 o.from_.2.1.2, .slice f2 g2 h2, .int .i64 o.from_.2.2.2, .bool o.into.1, .slice i1 j1 k1, .int .i64 o.into.2.1.2, .slice i2 j2 k2, .int .i64 o.into.2.2.2] 35 (0, 0))) ∧ Own wx W.heap.size (.slice x1 o.path.length e1) o.path ∧ Own wx W.heap.size (.slice x2 o.dest.length e2) o.dest ∧ OwnSl wx W.heap.size 21 1 4 (.slice x7 o.text.length e7) (o.text.map runeCells) ∧ Below w.heap.size w wx ∧ (wx.heap[w.heap.size + 1]? = some (.cells #[.int .i64 0, .slice none 0 0, .slice none 0 0, .int .i64 0, .bool false, .slice none 0 0, .slice none 0 0, .slice none 0 0, .slice none 0 0, .slice none 0 0, .slice none 0 0, .bool false, .slice none 0 0, .int .i64 0, .slice none 0 0, .int .i64 0, .bool false, .slice none 0 0, .int .i64 0, .slice none 0 0, .int .i64 0] 35 (0, 0))) ∧ W.heap.size ≤ wx.heap.size)
  case first =>
    have l := gr_dr (gr_refl W)
    obtain ⟨-, kk1, kk2, -, -, -, -, -, -, -, kk10, -, -, -, -, -, -, -, -, -, -⟩ := op_facts (blk_below HX.out l)
    have C1 := Lib.hid (fun w' (l : Below W.heap.size W w') => cl_ints (HR.out.later l).path); have C2 := Lib.hid (fun w' (l : Below W.heap.size W w') => cl_ints (HR.out.later l).dest); have C3 := Lib.hid (fun w' (l : Below W.heap.size W w') => cl_runes (HR.out.later l).text)
    go_region_law (first
      | ((try go_simp); go_at_call 46; (with_reducible refine (C1.out _ l).mono ?_); rintro e w1 ⟨x1, e1, rfl, ho1, hb1⟩; have s1 := l.size; replace l := gr_tr l hb1; clear kk1 kk2 kk10; obtain ⟨-, kk1, kk2, -, -, -, -, -, -, -, kk10, -, -, -, -, -, -, -, -, -, -⟩ := op_facts (blk_below HX.out l))
      | ((try go_simp); go_at_call 46; (with_reducible refine (C2.out _ l).mono ?_); rintro e w2 ⟨x2, e2, rfl, ho2, hb2⟩; have s2 := l.size; replace l := gr_tr l hb2; clear kk1 kk2 kk10; obtain ⟨-, kk1, kk2, -, -, -, -, -, -, -, kk10, -, -, -, -, -, -, -, -, -, -⟩ := op_facts (blk_below HX.out l))
      | ((try go_simp); go_at_call 51; (with_reducible refine (C3.out _ l).mono ?_); rintro e w3 ⟨x7, e7, rfl, ho3, hb3⟩; have s3 := l.size; replace l := gr_tr l hb3; clear kk1 kk2 kk10; obtain ⟨-, kk1, kk2, -, -, -, -, -, -, -, kk10, -, -, -, -, -, -, -, -, -, -⟩ := op_facts (blk_below HX.out l); have z1 := op_thawed (blk_below HX.out l) 1; have z2 := op_thawed (blk_below HX.out l) 2; have z10 := op_thawed (blk_below HX.out l) 10))
    all_goals
      have q0 := blk_below HX.out l
      have q3 := heap_setCell_same _ w.heap.size 10 _ _ (.slice x7 o.text.length e7) (heap_setCell_same _ w.heap.size 2 _ _ (.slice x2 o.dest.length e2) (heap_setCell_same _ w.heap.size 1 _ _ (.slice x1 o.path.length e1) q0))
      have hw := HWS.out
      have r1 := (((((ho1.below hb2 (Nat.le_refl _)).below hb3 (Nat.le_refl _)).mono s1).setB (g := w.heap.size) (i := 1) (by omega) (.slice x1 o.path.length e1)).setB (g := w.heap.size) (i := 2) (by omega) (.slice x2 o.dest.length e2)).setB (g := w.heap.size) (i := 10) (by omega) (.slice x7 o.text.length e7)
      have r2 := ((((ho2.below hb3 (Nat.le_refl _)).mono s2).setB (g := w.heap.size) (i := 1) (by omega) (.slice x1 o.path.length e1)).setB (g := w.heap.size) (i := 2) (by omega) (.slice x2 o.dest.length e2)).setB (g := w.heap.size) (i := 10) (by omega) (.slice x7 o.text.length e7)
      have r3 := (((ho3.mono s3).setB (g := w.heap.size) (i := 1) (by omega) (.slice x1 o.path.length e1)).setB (g := w.heap.size) (i := 2) (by omega) (.slice x2 o.dest.length e2)).setB (g := w.heap.size) (i := 10) (by omega) (.slice x7 o.text.length e7)
      have r4 := (((gr_tr HB.out l).setCell (p := ⟨w.heap.size, 1, none⟩) (Nat.le_refl _) (.slice x1 o.path.length e1)).setCell (p := ⟨w.heap.size, 2, none⟩) (Nat.le_refl _) (.slice x2 o.dest.length e2)).setCell (p := ⟨w.heap.size, 10, none⟩) (Nat.le_refl _) (.slice x7 o.text.length e7)
      have r5 : (((w3.setCell ⟨w.heap.size, 1, none⟩ (.slice x1 o.path.length e1)).setCell ⟨w.heap.size, 2, none⟩ (.slice x2 o.dest.length e2)).setCell ⟨w.heap.size, 10, none⟩ (.slice x7 o.text.length e7)).heap[w.heap.size + 1]? = _ := (heap_setCell_other _ _ _ _ (by simp)).trans ((heap_setCell_other _ _ _ _ (by simp)).trans ((heap_setCell_other _ _ _ _ (by simp)).trans (blk_below HZ.out l)))
      have r6 : W.heap.size ≤ (((w3.setCell ⟨w.heap.size, 1, none⟩ (.slice x1 o.path.length e1)).setCell ⟨w.heap.size, 2, none⟩ (.slice x2 o.dest.length e2)).setCell ⟨w.heap.size, 10, none⟩ (.slice x7 o.text.length e7)).heap.size := by have := l.size; simpa using this
      have Q := Lib.hid (show _ ∧ _ ∧ _ ∧ _ ∧ _ ∧ _ ∧ _ from ⟨q3, r1, r2, r3, r4, r5, r6⟩)
      clear q0 q3 r1 r2 r3 r4 r5 r6 ho1 ho2 ho3 hb1 hb2 hb3 s1 s2 s3 l kk1 kk2 kk10 z1 z2 z10
      go_wp2_with fail
      go_meet
      obtain ⟨q3, r1, r2, r3, r4, r5, r6⟩ := Q.out
      exact ⟨x1, e1, x2, e2, x7, e7, q3, r1, r2, r3, r4, r5, r6⟩
  case rest =>
    obtain ⟨x1, e1, x2, e2, x7, e7, hbx, hp, hd, ht, hbw, hrs, hsz⟩ := hcut
    have HBX := Lib.hid hbx; have HP := Lib.hid hp; have HD := Lib.hid hd; have HT := Lib.hid ht; have HBW := Lib.hid hbw; have HRS := Lib.hid hrs; have HSZ := Lib.hid hsz
    have HRC := Lib.hid (HR0.out.later hbw)
    clear hbx hp hd ht hbw hrs hsz HX HZ HB HR
    go_wp2_with fail
    go_cut [] (fun wx => ∃ x5 e5 x6 e6 q1 r1 s1 q2 r2 s2 q3 r3 s3, (wx.heap[w.heap.size]? = some (.cells #[.int .i64 o.kind, .slice x1 o.path.length e1, .slice x2 o.dest.length e2, .int .i64 o.pos, .bool o.node.leaf, .slice q1 r1 s1, .slice q2 r2 s2, .slice q3 r3 s3, .slice x5 o.old.length e5, .slice x6 o.new.length e6, .slice x7 o.text.length e7, .bool o.from_.1, .slice f1 g1 h1, .int .i64 o.from_.2.1.2, .slice f2 g2 h2, .int .i64 o.from_.2.2.2, .bool o.into.1, .slice i1 j1 k1, .int .i64 o.into.2.1.2, .slice i2 j2 k2, .int .i64 o.into.2.2.2] 35 (0, 0))) ∧ Own wx W.heap.size (.slice x1 o.path.length e1) o.path ∧ Own wx W.heap.size (.slice x2 o.dest.length e2) o.dest ∧ OwnSl wx W.heap.size 21 1 4 (.slice x7 o.text.length e7) (o.text.map runeCells) ∧ OwnSl wx W.heap.size 90 2 32 (.slice x5 o.old.length e5) (o.old.map propCells) ∧ OwnSl wx W.heap.size 90 2 32 (.slice x6 o.new.length e6) (o.new.map propCells) ∧ Tr wx (fun b => W.heap.size ≤ b) [.bool o.node.leaf, .slice q1 r1 s1, .slice q2 r2 s2, .slice q3 r3 s3] o.node ∧ Below w.heap.size w wx ∧ (wx.heap[w.heap.size + 1]? = some (.cells #[.int .i64 0, .slice none 0 0, .slice none 0 0, .int .i64 0, .bool false, .slice none 0 0, .slice none 0 0, .slice none 0 0, .slice none 0 0, .slice none 0 0, .slice none 0 0, .bool false, .slice none 0 0, .int .i64 0, .slice none 0 0, .int .i64 0, .bool false, .slice none 0 0, .int .i64 0, .slice none 0 0, .int .i64 0] 35 (0, 0))) ∧ W.heap.size ≤ wx.heap.size)
    case first =>
      have l := gr_dr (gr_refl wc)
      obtain ⟨-, -, -, -, kk4, kk5, kk6, kk7, kk8, kk9, -, -, -, -, -, -, -, -, -, -, -⟩ := op_facts (blk_below HBX.out l)
      have C1 := Lib.hid (fun w' (l : Below wc.heap.size wc w') => cl_props (HRC.out.later l).old); have C2 := Lib.hid (fun w' (l : Below wc.heap.size wc w') => cl_props (HRC.out.later l).new); have C3 := Lib.hid (fun w' (l : Below wc.heap.size wc w') => cp_node (HRC.out.later l).node)
      go_region_law (first
        | ((try go_simp); go_at_call 52; (with_reducible refine (C1.out _ l).mono ?_); rintro e w1 ⟨x5, e5, rfl, ho1, hb1⟩; have s1' := l.size; replace l := gr_tr l hb1; clear kk4 kk5 kk6 kk7 kk8 kk9; obtain ⟨-, -, -, -, kk4, kk5, kk6, kk7, kk8, kk9, -, -, -, -, -, -, -, -, -, -, -⟩ := op_facts (blk_below HBX.out l))
        | ((try go_simp); go_at_call 52; (with_reducible refine (C2.out _ l).mono ?_); rintro e w2 ⟨x6, e6, rfl, ho2, hb2⟩; have s2' := l.size; replace l := gr_tr l hb2; clear kk4 kk5 kk6 kk7 kk8 kk9; obtain ⟨-, -, -, -, kk4, kk5, kk6, kk7, kk8, kk9, -, -, -, -, -, -, -, -, -, -, -⟩ := op_facts (blk_below HBX.out l))
        | ((try go_simp); go_at_call 53; (with_reducible refine (C3.out _ l).mono ?_); rintro e w3 ⟨q1, r1, s1, q2, r2, s2, q3, r3, s3, rfl, ho3, hb3⟩; have s3' := l.size; replace l := gr_tr l hb3; clear kk4 kk5 kk6 kk7 kk8 kk9; obtain ⟨-, -, -, -, kk4, kk5, kk6, kk7, kk8, kk9, -, -, -, -, -, -, -, -, -, -, -⟩ := op_facts (blk_below HBX.out l); have z4 := op_thawed (blk_below HBX.out l) 4; have z5 := op_thawed (blk_below HBX.out l) 5; have z6 := op_thawed (blk_below HBX.out l) 6; have z7 := op_thawed (blk_below HBX.out l) 7; have z8 := op_thawed (blk_below HBX.out l) 8; have z9 := op_thawed (blk_below HBX.out l) 9))
      all_goals
        have q0 := blk_below HBX.out l
        have q9 := (heap_setCell_same _ w.heap.size 7 _ _ (.slice q3 r3 s3) (heap_setCell_same _ w.heap.size 6 _ _ (.slice q2 r2 s2) (heap_setCell_same _ w.heap.size 5 _ _ (.slice q1 r1 s1) (heap_setCell_same _ w.heap.size 4 _ _ (.bool o.node.leaf) (heap_setCell_same _ w.heap.size 9 _ _ (.slice x6 o.new.length e6) (heap_setCell_same _ w.heap.size 8 _ _ (.slice x5 o.old.length e5) q0))))))
        have hw := HWS.out; have hs := HSZ.out
        have r1' := ((((((HP.out.below l (Nat.le_refl _)).setB (g := w.heap.size) (i := 8) (by omega) (.slice x5 o.old.length e5)).setB (g := w.heap.size) (i := 9) (by omega) (.slice x6 o.new.length e6)).setB (g := w.heap.size) (i := 4) (by omega) (.bool o.node.leaf)).setB (g := w.heap.size) (i := 5) (by omega) (.slice q1 r1 s1)).setB (g := w.heap.size) (i := 6) (by omega) (.slice q2 r2 s2)).setB (g := w.heap.size) (i := 7) (by omega) (.slice q3 r3 s3)
        have r2' := ((((((HD.out.below l (Nat.le_refl _)).setB (g := w.heap.size) (i := 8) (by omega) (.slice x5 o.old.length e5)).setB (g := w.heap.size) (i := 9) (by omega) (.slice x6 o.new.length e6)).setB (g := w.heap.size) (i := 4) (by omega) (.bool o.node.leaf)).setB (g := w.heap.size) (i := 5) (by omega) (.slice q1 r1 s1)).setB (g := w.heap.size) (i := 6) (by omega) (.slice q2 r2 s2)).setB (g := w.heap.size) (i := 7) (by omega) (.slice q3 r3 s3)
        have r3' := ((((((HT.out.later l (Nat.le_refl _)).setB (g := w.heap.size) (i := 8) (by omega) (.slice x5 o.old.length e5)).setB (g := w.heap.size) (i := 9) (by omega) (.slice x6 o.new.length e6)).setB (g := w.heap.size) (i := 4) (by omega) (.bool o.node.leaf)).setB (g := w.heap.size) (i := 5) (by omega) (.slice q1 r1 s1)).setB (g := w.heap.size) (i := 6) (by omega) (.slice q2 r2 s2)).setB (g := w.heap.size) (i := 7) (by omega) (.slice q3 r3 s3)
        have r4' := ((((((((ho1.later hb2 (Nat.le_refl _)).later hb3 (Nat.le_refl _)).mono (Nat.le_trans hs s1')).setB (g := w.heap.size) (i := 8) (by omega) (.slice x5 o.old.length e5)).setB (g := w.heap.size) (i := 9) (by omega) (.slice x6 o.new.length e6)).setB (g := w.heap.size) (i := 4) (by omega) (.bool o.node.leaf)).setB (g := w.heap.size) (i := 5) (by omega) (.slice q1 r1 s1)).setB (g := w.heap.size) (i := 6) (by omega) (.slice q2 r2 s2)).setB (g := w.heap.size) (i := 7) (by omega) (.slice q3 r3 s3)
        have r5' := (((((((ho2.later hb3 (Nat.le_refl _)).mono (Nat.le_trans hs s2')).setB (g := w.heap.size) (i := 8) (by omega) (.slice x5 o.old.length e5)).setB (g := w.heap.size) (i := 9) (by omega) (.slice x6 o.new.length e6)).setB (g := w.heap.size) (i := 4) (by omega) (.bool o.node.leaf)).setB (g := w.heap.size) (i := 5) (by omega) (.slice q1 r1 s1)).setB (g := w.heap.size) (i := 6) (by omega) (.slice q2 r2 s2)).setB (g := w.heap.size) (i := 7) (by omega) (.slice q3 r3 s3)
        have r6' := ((((((ho3.mono2 (Nat.le_trans hs s3')).setB (g := w.heap.size) (i := 8) (by omega) (.slice x5 o.old.length e5)).setB (g := w.heap.size) (i := 9) (by omega) (.slice x6 o.new.length e6)).setB (g := w.heap.size) (i := 4) (by omega) (.bool o.node.leaf)).setB (g := w.heap.size) (i := 5) (by omega) (.slice q1 r1 s1)).setB (g := w.heap.size) (i := 6) (by omega) (.slice q2 r2 s2)).setB (g := w.heap.size) (i := 7) (by omega) (.slice q3 r3 s3)
        have r7' := (((((((gr_tr HBW.out l).setCell (p := ⟨w.heap.size, 8, none⟩) (Nat.le_refl _) (.slice x5 o.old.length e5)).setCell (p := ⟨w.heap.size, 9, none⟩) (Nat.le_refl _) (.slice x6 o.new.length e6)).setCell (p := ⟨w.heap.size, 4, none⟩) (Nat.le_refl _) (.bool o.node.leaf)).setCell (p := ⟨w.heap.size, 5, none⟩) (Nat.le_refl _) (.slice q1 r1 s1)).setCell (p := ⟨w.heap.size, 6, none⟩) (Nat.le_refl _) (.slice q2 r2 s2)).setCell (p := ⟨w.heap.size, 7, none⟩) (Nat.le_refl _) (.slice q3 r3 s3))
        have r8' : (((((((w3).setCell ⟨w.heap.size, 8, none⟩ (.slice x5 o.old.length e5)).setCell ⟨w.heap.size, 9, none⟩ (.slice x6 o.new.length e6)).setCell ⟨w.heap.size, 4, none⟩ (.bool o.node.leaf)).setCell ⟨w.heap.size, 5, none⟩ (.slice q1 r1 s1)).setCell ⟨w.heap.size, 6, none⟩ (.slice q2 r2 s2)).setCell ⟨w.heap.size, 7, none⟩ (.slice q3 r3 s3)).heap[w.heap.size + 1]? = _ := ((heap_setCell_other _ _ _ _ (by simp)).trans ((heap_setCell_other _ _ _ _ (by simp)).trans ((heap_setCell_other _ _ _ _ (by simp)).trans ((heap_setCell_other _ _ _ _ (by simp)).trans ((heap_setCell_other _ _ _ _ (by simp)).trans ((heap_setCell_other _ _ _ _ (by simp)).trans (blk_below HRS.out l)))))))
        have r9' : W.heap.size ≤ (((((((w3).setCell ⟨w.heap.size, 8, none⟩ (.slice x5 o.old.length e5)).setCell ⟨w.heap.size, 9, none⟩ (.slice x6 o.new.length e6)).setCell ⟨w.heap.size, 4, none⟩ (.bool o.node.leaf)).setCell ⟨w.heap.size, 5, none⟩ (.slice q1 r1 s1)).setCell ⟨w.heap.size, 6, none⟩ (.slice q2 r2 s2)).setCell ⟨w.heap.size, 7, none⟩ (.slice q3 r3 s3)).heap.size := by have := l.size; have : W.heap.size ≤ w3.heap.size := (by omega); simpa using this
        have Q := Lib.hid (show _ ∧ _ ∧ _ ∧ _ ∧ _ ∧ _ ∧ _ ∧ _ ∧ _ ∧ _ from ⟨q9, r1', r2', r3', r4', r5', r6', r7', r8', r9'⟩)
        clear q0 q9 r1' r2' r3' r4' r5' r6' r7' r8' r9' ho1 ho2 ho3 hb1 hb2 hb3 s1' s2' s3' hs hw l kk4 kk5 kk6 kk7 kk8 kk9 z4 z5 z6 z7 z8 z9
        go_wp2_with fail
        go_meet
        obtain ⟨q9, r1', r2', r3', r4', r5', r6', r7', r8', r9'⟩ := Q.out
        exact ⟨x5, e5, x6, e6, q1, r1, s1, q2, r2, s2, q3, r3, s3, q9, r1', r2', r3', r4', r5', r6', r7', r8', r9'⟩
    case rest =>
      obtain ⟨x5, e5, x6, e6, q1, r1, s1, q2, r2, s2, q3, r3, s3, hbx, hp, hd, ht, ho, hn, hno, hbw, hrs, hsz⟩ := hcut
      have BX := Lib.hid hbx; have OP := Lib.hid hp; have OD := Lib.hid hd; have OT := Lib.hid ht; have OO := Lib.hid ho; have ON := Lib.hid hn; have NO := Lib.hid hno; have BW := Lib.hid hbw; have RS := Lib.hid hrs; have SZ := Lib.hid hsz
      clear hbx hp hd ht ho hn hno hbw hrs hsz HBX HP HD HT HBW HRS HSZ HRC
      go_wp2_with fail
      have hal := gr_al (gr_refl wc) (.cells #[.pointer (some ⟨w.heap.size, 12, none⟩), .pointer (some ⟨w.heap.size, 14, none⟩), .pointer (some ⟨w.heap.size, 17, none⟩), .pointer (some ⟨w.heap.size, 19, none⟩)] 92)
      have LT := Lib.hid (heap_alloc_new wc (.cells #[.pointer (some ⟨w.heap.size, 12, none⟩), .pointer (some ⟨w.heap.size, 14, none⟩), .pointer (some ⟨w.heap.size, 17, none⟩), .pointer (some ⟨w.heap.size, 19, none⟩)] 92))
      have hG4 := SZ.out
      replace BX := Lib.hid (blk_below BX.out hal); replace RS := Lib.hid (blk_below RS.out hal)
      replace OP := Lib.hid (OP.out.below hal (Nat.le_refl _))
      replace OD := Lib.hid (OD.out.below hal (Nat.le_refl _))
      replace OT := Lib.hid (OT.out.later hal (Nat.le_refl _))
      replace OO := Lib.hid (OO.out.later hal (Nat.le_refl _))
      replace ON := Lib.hid (ON.out.later hal (Nat.le_refl _))
      replace NO := Lib.hid (NO.out.later hal); replace BW := Lib.hid (gr_tr BW.out hal); replace SZ := Lib.hid (Nat.le_trans SZ.out hal.size)
      clear hal
      obtain ⟨g4, hg4⟩ : ∃ g, wc.heap.size = g := ⟨_, rfl⟩
      rw [hg4] at LT hG4 ⊢
      generalize wc.alloc _ = U at *
      clear hg4
      have hws := HWS.out
      refine wp_loop_rounds 5 ?_
      rw [rounds_succ]
      have lk : U.cell? ⟨g4, 0, none⟩ = some (.pointer (some ⟨w.heap.size, 12, none⟩)) := by rw [cell_of_row U g4 0 _ _ (0, 0) LT.out]; rfl
      have bk : U.cell? ⟨w.heap.size, 12, none⟩ = some (.slice f1 g1 h1) := by rw [cell_of_row U w.heap.size 12 _ _ (0, 0) BX.out]; rfl
      have HC := Lib.hid (cl_ints (HR0.out.later BW.out).fa)
      go_wp2_with fail
      refine HC.out.mono ?_
      rintro e u0 ⟨y0, t0, rfl, hoy, hby⟩
      clear lk bk HC
      have OY0 := Lib.hid (hoy.mono SZ.out)
      replace BX := Lib.hid (blk_below BX.out hby); replace RS := Lib.hid (blk_below RS.out hby)
      replace OP := Lib.hid (OP.out.below hby (Nat.le_refl _))
      replace OD := Lib.hid (OD.out.below hby (Nat.le_refl _))
      replace OT := Lib.hid (OT.out.later hby (Nat.le_refl _))
      replace OO := Lib.hid (OO.out.later hby (Nat.le_refl _))
      replace ON := Lib.hid (ON.out.later hby (Nat.le_refl _))
      replace NO := Lib.hid (NO.out.later hby); replace BW := Lib.hid (gr_tr BW.out hby); replace SZ := Lib.hid (Nat.le_trans SZ.out hby.size)
      replace LT := Lib.hid (blk_below LT.out hby)
      have bk : u0.cell? ⟨w.heap.size, 12, none⟩ = some (.slice f1 g1 h1) := by rw [cell_of_row u0 w.heap.size 12 _ _ (0, 0) BX.out]; rfl
      have fk : u0.frozen? ⟨w.heap.size, 12, none⟩ = false := op_thawed BX.out 12
      clear hoy hby
      have hz1 : (u0.setCell ⟨w.heap.size, 12, none⟩ (.slice y0 o.from_.2.1.1.length t0)).heap[w.heap.size]? = some (.cells #[.int .i64 o.kind, .slice x1 o.path.length e1, .slice x2 o.dest.length e2, .int .i64 o.pos, .bool o.node.leaf, .slice q1 r1 s1, .slice q2 r2 s2, .slice q3 r3 s3, .slice x5 o.old.length e5, .slice x6 o.new.length e6, .slice x7 o.text.length e7, .bool o.from_.1, .slice y0 o.from_.2.1.1.length t0, .int .i64 o.from_.2.1.2, .slice f2 g2 h2, .int .i64 o.from_.2.2.2, .bool o.into.1, .slice i1 j1 k1, .int .i64 o.into.2.1.2, .slice i2 j2 k2, .int .i64 o.into.2.2.2] 35 (0, 0)) := heap_setCell_same _ _ 12 _ _ (.slice y0 o.from_.2.1.1.length t0) BX.out
      have hz2 : (u0.setCell ⟨w.heap.size, 12, none⟩ (.slice y0 o.from_.2.1.1.length t0)).heap[w.heap.size + 1]? = _ := (heap_setCell_other _ _ _ _ (by simp)).trans RS.out
      have hz3 : (u0.setCell ⟨w.heap.size, 12, none⟩ (.slice y0 o.from_.2.1.1.length t0)).heap[g4]? = _ := (heap_setCell_other _ _ _ _ (by simp; omega)).trans LT.out
      replace BX := Lib.hid hz1; replace RS := Lib.hid hz2; replace LT := Lib.hid hz3
      replace OP := Lib.hid (OP.out.setB (g := w.heap.size) (i := 12) (by omega) (.slice y0 o.from_.2.1.1.length t0))
      replace OD := Lib.hid (OD.out.setB (g := w.heap.size) (i := 12) (by omega) (.slice y0 o.from_.2.1.1.length t0))
      replace OT := Lib.hid (OT.out.setB (g := w.heap.size) (i := 12) (by omega) (.slice y0 o.from_.2.1.1.length t0))
      replace OO := Lib.hid (OO.out.setB (g := w.heap.size) (i := 12) (by omega) (.slice y0 o.from_.2.1.1.length t0))
      replace ON := Lib.hid (ON.out.setB (g := w.heap.size) (i := 12) (by omega) (.slice y0 o.from_.2.1.1.length t0))
      replace NO := Lib.hid (NO.out.setB (g := w.heap.size) (i := 12) (by omega) (.slice y0 o.from_.2.1.1.length t0))
      replace OY0 := Lib.hid (OY0.out.setB (g := w.heap.size) (i := 12) (by omega) (.slice y0 o.from_.2.1.1.length t0))
      replace BW := Lib.hid (BW.out.setCell (p := ⟨w.heap.size, 12, none⟩) (Nat.le_refl _) (.slice y0 o.from_.2.1.1.length t0))
      replace SZ := Lib.hid (show W.heap.size ≤ (u0.setCell ⟨w.heap.size, 12, none⟩ (.slice y0 o.from_.2.1.1.length t0)).heap.size by have := SZ.out; simpa using this)
      clear hz1 hz2 hz3
      go_wp2_with fail
      clear bk fk
      generalize World.setCell u0 _ _ = U0 at *
      rw [rounds_succ]
      have lk : U0.cell? ⟨g4, 1, none⟩ = some (.pointer (some ⟨w.heap.size, 14, none⟩)) := by rw [cell_of_row U0 g4 1 _ _ (0, 0) LT.out]; rfl
      have bk : U0.cell? ⟨w.heap.size, 14, none⟩ = some (.slice f2 g2 h2) := by rw [cell_of_row U0 w.heap.size 14 _ _ (0, 0) BX.out]; rfl
      have HC := Lib.hid (cl_ints (HR0.out.later BW.out).fb)
      go_wp2_with fail
      refine HC.out.mono ?_
      rintro e u1 ⟨y1, t1, rfl, hoy, hby⟩
      clear lk bk HC
      have OY1 := Lib.hid (hoy.mono SZ.out)
      replace BX := Lib.hid (blk_below BX.out hby); replace RS := Lib.hid (blk_below RS.out hby)
      replace OP := Lib.hid (OP.out.below hby (Nat.le_refl _))
      replace OD := Lib.hid (OD.out.below hby (Nat.le_refl _))
      replace OY0 := Lib.hid (OY0.out.below hby (Nat.le_refl _))
      replace OT := Lib.hid (OT.out.later hby (Nat.le_refl _))
      replace OO := Lib.hid (OO.out.later hby (Nat.le_refl _))
      replace ON := Lib.hid (ON.out.later hby (Nat.le_refl _))
      replace NO := Lib.hid (NO.out.later hby); replace BW := Lib.hid (gr_tr BW.out hby); replace SZ := Lib.hid (Nat.le_trans SZ.out hby.size)
      replace LT := Lib.hid (blk_below LT.out hby)
      have bk : u1.cell? ⟨w.heap.size, 14, none⟩ = some (.slice f2 g2 h2) := by rw [cell_of_row u1 w.heap.size 14 _ _ (0, 0) BX.out]; rfl
      have fk : u1.frozen? ⟨w.heap.size, 14, none⟩ = false := op_thawed BX.out 14
      clear hoy hby
      have hz1 : (u1.setCell ⟨w.heap.size, 14, none⟩ (.slice y1 o.from_.2.2.1.length t1)).heap[w.heap.size]? = some (.cells #[.int .i64 o.kind, .slice x1 o.path.length e1, .slice x2 o.dest.length e2, .int .i64 o.pos, .bool o.node.leaf, .slice q1 r1 s1, .slice q2 r2 s2, .slice q3 r3 s3, .slice x5 o.old.length e5, .slice x6 o.new.length e6, .slice x7 o.text.length e7, .bool o.from_.1, .slice y0 o.from_.2.1.1.length t0, .int .i64 o.from_.2.1.2, .slice y1 o.from_.2.2.1.length t1, .int .i64 o.from_.2.2.2, .bool o.into.1, .slice i1 j1 k1, .int .i64 o.into.2.1.2, .slice i2 j2 k2, .int .i64 o.into.2.2.2] 35 (0, 0)) := heap_setCell_same _ _ 14 _ _ (.slice y1 o.from_.2.2.1.length t1) BX.out
      have hz2 : (u1.setCell ⟨w.heap.size, 14, none⟩ (.slice y1 o.from_.2.2.1.length t1)).heap[w.heap.size + 1]? = _ := (heap_setCell_other _ _ _ _ (by simp)).trans RS.out
      have hz3 : (u1.setCell ⟨w.heap.size, 14, none⟩ (.slice y1 o.from_.2.2.1.length t1)).heap[g4]? = _ := (heap_setCell_other _ _ _ _ (by simp; omega)).trans LT.out
      replace BX := Lib.hid hz1; replace RS := Lib.hid hz2; replace LT := Lib.hid hz3
      replace OP := Lib.hid (OP.out.setB (g := w.heap.size) (i := 14) (by omega) (.slice y1 o.from_.2.2.1.length t1))
      replace OD := Lib.hid (OD.out.setB (g := w.heap.size) (i := 14) (by omega) (.slice y1 o.from_.2.2.1.length t1))
      replace OT := Lib.hid (OT.out.setB (g := w.heap.size) (i := 14) (by omega) (.slice y1 o.from_.2.2.1.length t1))
      replace OO := Lib.hid (OO.out.setB (g := w.heap.size) (i := 14) (by omega) (.slice y1 o.from_.2.2.1.length t1))
      replace ON := Lib.hid (ON.out.setB (g := w.heap.size) (i := 14) (by omega) (.slice y1 o.from_.2.2.1.length t1))
      replace NO := Lib.hid (NO.out.setB (g := w.heap.size) (i := 14) (by omega) (.slice y1 o.from_.2.2.1.length t1))
      replace OY0 := Lib.hid (OY0.out.setB (g := w.heap.size) (i := 14) (by omega) (.slice y1 o.from_.2.2.1.length t1))
      replace OY1 := Lib.hid (OY1.out.setB (g := w.heap.size) (i := 14) (by omega) (.slice y1 o.from_.2.2.1.length t1))
      replace BW := Lib.hid (BW.out.setCell (p := ⟨w.heap.size, 14, none⟩) (Nat.le_refl _) (.slice y1 o.from_.2.2.1.length t1))
      replace SZ := Lib.hid (show W.heap.size ≤ (u1.setCell ⟨w.heap.size, 14, none⟩ (.slice y1 o.from_.2.2.1.length t1)).heap.size by have := SZ.out; simpa using this)
      clear hz1 hz2 hz3
      go_wp2_with fail
      clear bk fk
      generalize World.setCell u1 _ _ = U1 at *
      rw [rounds_succ]
      have lk : U1.cell? ⟨g4, 2, none⟩ = some (.pointer (some ⟨w.heap.size, 17, none⟩)) := by rw [cell_of_row U1 g4 2 _ _ (0, 0) LT.out]; rfl
      have bk : U1.cell? ⟨w.heap.size, 17, none⟩ = some (.slice i1 j1 k1) := by rw [cell_of_row U1 w.heap.size 17 _ _ (0, 0) BX.out]; rfl
      have HC := Lib.hid (cl_ints (HR0.out.later BW.out).ia)
      go_wp2_with fail
      refine HC.out.mono ?_
      rintro e u2 ⟨y2, t2, rfl, hoy, hby⟩
      clear lk bk HC
      have OY2 := Lib.hid (hoy.mono SZ.out)
      replace BX := Lib.hid (blk_below BX.out hby); replace RS := Lib.hid (blk_below RS.out hby)
      replace OP := Lib.hid (OP.out.below hby (Nat.le_refl _))
      replace OD := Lib.hid (OD.out.below hby (Nat.le_refl _))
      replace OY0 := Lib.hid (OY0.out.below hby (Nat.le_refl _))
      replace OY1 := Lib.hid (OY1.out.below hby (Nat.le_refl _))
      replace OT := Lib.hid (OT.out.later hby (Nat.le_refl _))
      replace OO := Lib.hid (OO.out.later hby (Nat.le_refl _))
      replace ON := Lib.hid (ON.out.later hby (Nat.le_refl _))
      replace NO := Lib.hid (NO.out.later hby); replace BW := Lib.hid (gr_tr BW.out hby); replace SZ := Lib.hid (Nat.le_trans SZ.out hby.size)
      replace LT := Lib.hid (blk_below LT.out hby)
      have bk : u2.cell? ⟨w.heap.size, 17, none⟩ = some (.slice i1 j1 k1) := by rw [cell_of_row u2 w.heap.size 17 _ _ (0, 0) BX.out]; rfl
      have fk : u2.frozen? ⟨w.heap.size, 17, none⟩ = false := op_thawed BX.out 17
      clear hoy hby
      have hz1 : (u2.setCell ⟨w.heap.size, 17, none⟩ (.slice y2 o.into.2.1.1.length t2)).heap[w.heap.size]? = some (.cells #[.int .i64 o.kind, .slice x1 o.path.length e1, .slice x2 o.dest.length e2, .int .i64 o.pos, .bool o.node.leaf, .slice q1 r1 s1, .slice q2 r2 s2, .slice q3 r3 s3, .slice x5 o.old.length e5, .slice x6 o.new.length e6, .slice x7 o.text.length e7, .bool o.from_.1, .slice y0 o.from_.2.1.1.length t0, .int .i64 o.from_.2.1.2, .slice y1 o.from_.2.2.1.length t1, .int .i64 o.from_.2.2.2, .bool o.into.1, .slice y2 o.into.2.1.1.length t2, .int .i64 o.into.2.1.2, .slice i2 j2 k2, .int .i64 o.into.2.2.2] 35 (0, 0)) := heap_setCell_same _ _ 17 _ _ (.slice y2 o.into.2.1.1.length t2) BX.out
      have hz2 : (u2.setCell ⟨w.heap.size, 17, none⟩ (.slice y2 o.into.2.1.1.length t2)).heap[w.heap.size + 1]? = _ := (heap_setCell_other _ _ _ _ (by simp)).trans RS.out
      have hz3 : (u2.setCell ⟨w.heap.size, 17, none⟩ (.slice y2 o.into.2.1.1.length t2)).heap[g4]? = _ := (heap_setCell_other _ _ _ _ (by simp; omega)).trans LT.out
      replace BX := Lib.hid hz1; replace RS := Lib.hid hz2; replace LT := Lib.hid hz3
      replace OP := Lib.hid (OP.out.setB (g := w.heap.size) (i := 17) (by omega) (.slice y2 o.into.2.1.1.length t2))
      replace OD := Lib.hid (OD.out.setB (g := w.heap.size) (i := 17) (by omega) (.slice y2 o.into.2.1.1.length t2))
      replace OT := Lib.hid (OT.out.setB (g := w.heap.size) (i := 17) (by omega) (.slice y2 o.into.2.1.1.length t2))
      replace OO := Lib.hid (OO.out.setB (g := w.heap.size) (i := 17) (by omega) (.slice y2 o.into.2.1.1.length t2))
      replace ON := Lib.hid (ON.out.setB (g := w.heap.size) (i := 17) (by omega) (.slice y2 o.into.2.1.1.length t2))
      replace NO := Lib.hid (NO.out.setB (g := w.heap.size) (i := 17) (by omega) (.slice y2 o.into.2.1.1.length t2))
      replace OY0 := Lib.hid (OY0.out.setB (g := w.heap.size) (i := 17) (by omega) (.slice y2 o.into.2.1.1.length t2))
      replace OY1 := Lib.hid (OY1.out.setB (g := w.heap.size) (i := 17) (by omega) (.slice y2 o.into.2.1.1.length t2))
      replace OY2 := Lib.hid (OY2.out.setB (g := w.heap.size) (i := 17) (by omega) (.slice y2 o.into.2.1.1.length t2))
      replace BW := Lib.hid (BW.out.setCell (p := ⟨w.heap.size, 17, none⟩) (Nat.le_refl _) (.slice y2 o.into.2.1.1.length t2))
      replace SZ := Lib.hid (show W.heap.size ≤ (u2.setCell ⟨w.heap.size, 17, none⟩ (.slice y2 o.into.2.1.1.length t2)).heap.size by have := SZ.out; simpa using this)
      clear hz1 hz2 hz3
      go_wp2_with fail
      clear bk fk
      generalize World.setCell u2 _ _ = U2 at *
      rw [rounds_succ]
      have lk : U2.cell? ⟨g4, 3, none⟩ = some (.pointer (some ⟨w.heap.size, 19, none⟩)) := by rw [cell_of_row U2 g4 3 _ _ (0, 0) LT.out]; rfl
      have bk : U2.cell? ⟨w.heap.size, 19, none⟩ = some (.slice i2 j2 k2) := by rw [cell_of_row U2 w.heap.size 19 _ _ (0, 0) BX.out]; rfl
      have HC := Lib.hid (cl_ints (HR0.out.later BW.out).ib)
      go_wp2_with fail
      refine HC.out.mono ?_
      rintro e u3 ⟨y3, t3, rfl, hoy, hby⟩
      clear lk bk HC
      have OY3 := Lib.hid (hoy.mono SZ.out)
      replace BX := Lib.hid (blk_below BX.out hby); replace RS := Lib.hid (blk_below RS.out hby)
      replace OP := Lib.hid (OP.out.below hby (Nat.le_refl _))
      replace OD := Lib.hid (OD.out.below hby (Nat.le_refl _))
      replace OY0 := Lib.hid (OY0.out.below hby (Nat.le_refl _))
      replace OY1 := Lib.hid (OY1.out.below hby (Nat.le_refl _))
      replace OY2 := Lib.hid (OY2.out.below hby (Nat.le_refl _))
      replace OT := Lib.hid (OT.out.later hby (Nat.le_refl _))
      replace OO := Lib.hid (OO.out.later hby (Nat.le_refl _))
      replace ON := Lib.hid (ON.out.later hby (Nat.le_refl _))
      replace NO := Lib.hid (NO.out.later hby); replace BW := Lib.hid (gr_tr BW.out hby); replace SZ := Lib.hid (Nat.le_trans SZ.out hby.size)
      replace LT := Lib.hid (blk_below LT.out hby)
      have bk : u3.cell? ⟨w.heap.size, 19, none⟩ = some (.slice i2 j2 k2) := by rw [cell_of_row u3 w.heap.size 19 _ _ (0, 0) BX.out]; rfl
      have fk : u3.frozen? ⟨w.heap.size, 19, none⟩ = false := op_thawed BX.out 19
      clear hoy hby
      have hz1 : (u3.setCell ⟨w.heap.size, 19, none⟩ (.slice y3 o.into.2.2.1.length t3)).heap[w.heap.size]? = some (.cells #[.int .i64 o.kind, .slice x1 o.path.length e1, .slice x2 o.dest.length e2, .int .i64 o.pos, .bool o.node.leaf, .slice q1 r1 s1, .slice q2 r2 s2, .slice q3 r3 s3, .slice x5 o.old.length e5, .slice x6 o.new.length e6, .slice x7 o.text.length e7, .bool o.from_.1, .slice y0 o.from_.2.1.1.length t0, .int .i64 o.from_.2.1.2, .slice y1 o.from_.2.2.1.length t1, .int .i64 o.from_.2.2.2, .bool o.into.1, .slice y2 o.into.2.1.1.length t2, .int .i64 o.into.2.1.2, .slice y3 o.into.2.2.1.length t3, .int .i64 o.into.2.2.2] 35 (0, 0)) := heap_setCell_same _ _ 19 _ _ (.slice y3 o.into.2.2.1.length t3) BX.out
      have hz2 : (u3.setCell ⟨w.heap.size, 19, none⟩ (.slice y3 o.into.2.2.1.length t3)).heap[w.heap.size + 1]? = _ := (heap_setCell_other _ _ _ _ (by simp)).trans RS.out
      have hz3 : (u3.setCell ⟨w.heap.size, 19, none⟩ (.slice y3 o.into.2.2.1.length t3)).heap[g4]? = _ := (heap_setCell_other _ _ _ _ (by simp; omega)).trans LT.out
      replace BX := Lib.hid hz1; replace RS := Lib.hid hz2; replace LT := Lib.hid hz3
      replace OP := Lib.hid (OP.out.setB (g := w.heap.size) (i := 19) (by omega) (.slice y3 o.into.2.2.1.length t3))
      replace OD := Lib.hid (OD.out.setB (g := w.heap.size) (i := 19) (by omega) (.slice y3 o.into.2.2.1.length t3))
      replace OT := Lib.hid (OT.out.setB (g := w.heap.size) (i := 19) (by omega) (.slice y3 o.into.2.2.1.length t3))
      replace OO := Lib.hid (OO.out.setB (g := w.heap.size) (i := 19) (by omega) (.slice y3 o.into.2.2.1.length t3))
      replace ON := Lib.hid (ON.out.setB (g := w.heap.size) (i := 19) (by omega) (.slice y3 o.into.2.2.1.length t3))
      replace NO := Lib.hid (NO.out.setB (g := w.heap.size) (i := 19) (by omega) (.slice y3 o.into.2.2.1.length t3))
      replace OY0 := Lib.hid (OY0.out.setB (g := w.heap.size) (i := 19) (by omega) (.slice y3 o.into.2.2.1.length t3))
      replace OY1 := Lib.hid (OY1.out.setB (g := w.heap.size) (i := 19) (by omega) (.slice y3 o.into.2.2.1.length t3))
      replace OY2 := Lib.hid (OY2.out.setB (g := w.heap.size) (i := 19) (by omega) (.slice y3 o.into.2.2.1.length t3))
      replace OY3 := Lib.hid (OY3.out.setB (g := w.heap.size) (i := 19) (by omega) (.slice y3 o.into.2.2.1.length t3))
      replace BW := Lib.hid (BW.out.setCell (p := ⟨w.heap.size, 19, none⟩) (Nat.le_refl _) (.slice y3 o.into.2.2.1.length t3))
      replace SZ := Lib.hid (show W.heap.size ≤ (u3.setCell ⟨w.heap.size, 19, none⟩ (.slice y3 o.into.2.2.1.length t3)).heap.size by have := SZ.out; simpa using this)
      clear hz1 hz2 hz3
      go_wp2_with fail
      clear bk fk
      generalize World.setCell u3 _ _ = U3 at *
      rw [rounds_succ]
      have zh1 : (#[.int .i64 o.kind, .slice x1 o.path.length e1, .slice x2 o.dest.length e2, .int .i64 o.pos, .bool o.node.leaf, .slice q1 r1 s1, .slice q2 r2 s2, .slice q3 r3 s3, .slice x5 o.old.length e5, .slice x6 o.new.length e6, .slice x7 o.text.length e7, .bool o.from_.1, .slice y0 o.from_.2.1.1.length t0, .int .i64 o.from_.2.1.2, .slice y1 o.from_.2.2.1.length t1, .int .i64 o.from_.2.2.2, .bool o.into.1, .slice y2 o.into.2.1.1.length t2, .int .i64 o.into.2.1.2, .slice y3 o.into.2.2.1.length t3, .int .i64 o.into.2.2.2] : Array Value).all (·.oneCell') = true := by rw [← Array.all_toList]; rfl
      go_wp2_with (first | (refine wpList_load_row rfl 35 _ rfl _ rfl 35 _ (0, 0) _ BX.out Try.underlying35 rfl (by kernel_rfl) ?_) | (refine wpList_store_row rfl 35 _ _ rfl _ _ rfl rfl 35 _ RS.out (by kernel_rfl) rfl zh1 ?_))
      have zz1 := setRow_heap U3 (w.heap.size + 1) _ #[.int .i64 o.kind, .slice x1 o.path.length e1, .slice x2 o.dest.length e2, .int .i64 o.pos, .bool o.node.leaf, .slice q1 r1 s1, .slice q2 r2 s2, .slice q3 r3 s3, .slice x5 o.old.length e5, .slice x6 o.new.length e6, .slice x7 o.text.length e7, .bool o.from_.1, .slice y0 o.from_.2.1.1.length t0, .int .i64 o.from_.2.1.2, .slice y1 o.from_.2.2.1.length t1, .int .i64 o.from_.2.2.2, .bool o.into.1, .slice y2 o.into.2.1.1.length t2, .int .i64 o.into.2.1.2, .slice y3 o.into.2.2.1.length t3, .int .i64 o.into.2.2.2] _ (0, 0) RS.out
      have zz2 : ∀ b, W.heap.size ≤ b → (U3.setRow (w.heap.size + 1) #[.int .i64 o.kind, .slice x1 o.path.length e1, .slice x2 o.dest.length e2, .int .i64 o.pos, .bool o.node.leaf, .slice q1 r1 s1, .slice q2 r2 s2, .slice q3 r3 s3, .slice x5 o.old.length e5, .slice x6 o.new.length e6, .slice x7 o.text.length e7, .bool o.from_.1, .slice y0 o.from_.2.1.1.length t0, .int .i64 o.from_.2.1.2, .slice y1 o.from_.2.2.1.length t1, .int .i64 o.from_.2.2.2, .bool o.into.1, .slice y2 o.into.2.1.1.length t2, .int .i64 o.into.2.1.2, .slice y3 o.into.2.2.1.length t3, .int .i64 o.into.2.2.2]).heap[b]? = U3.heap[b]? := fun b hb => setRow_other U3 _ b _ (by omega)
      have zz3 : Below w.heap.size w (U3.setRow (w.heap.size + 1) #[.int .i64 o.kind, .slice x1 o.path.length e1, .slice x2 o.dest.length e2, .int .i64 o.pos, .bool o.node.leaf, .slice q1 r1 s1, .slice q2 r2 s2, .slice q3 r3 s3, .slice x5 o.old.length e5, .slice x6 o.new.length e6, .slice x7 o.text.length e7, .bool o.from_.1, .slice y0 o.from_.2.1.1.length t0, .int .i64 o.from_.2.1.2, .slice y1 o.from_.2.2.1.length t1, .int .i64 o.from_.2.2.2, .bool o.into.1, .slice y2 o.into.2.1.1.length t2, .int .i64 o.into.2.1.2, .slice y3 o.into.2.2.1.length t3, .int .i64 o.into.2.2.2]) := BW.out.trans ⟨rfl, rfl, rfl, by simp, fun b hb => setRow_other U3 _ b _ (by omega)⟩
      have zz4 : w.heap.size ≤ W.heap.size := by omega
      (try simp only [Exit.inBlock, Exit.then])
      refine bodyPost_ret (v := .agg #[.int .i64 o.kind, .slice x1 o.path.length e1, .slice x2 o.dest.length e2, .int .i64 o.pos, .bool o.node.leaf, .slice q1 r1 s1, .slice q2 r2 s2, .slice q3 r3 s3, .slice x5 o.old.length e5, .slice x6 o.new.length e6, .slice x7 o.text.length e7, .bool o.from_.1, .slice y0 o.from_.2.1.1.length t0, .int .i64 o.from_.2.1.2, .slice y1 o.from_.2.2.1.length t1, .int .i64 o.from_.2.2.2, .bool o.into.1, .slice y2 o.into.2.1.1.length t2, .int .i64 o.into.2.1.2, .slice y3 o.into.2.2.1.length t3, .int .i64 o.into.2.2.2]) ?_ ?_ ?_
      · exact results_cell_row Try.results26 _ _ _ _ _ _ _ rfl zz1 Try.underlying35 rfl (by kernel_rfl)
      · rfl
      exact ⟨_, rfl, ⟨_, _, _, _, _, _, _, _, _, _, _, _, _, _, _, _, _, _, _, _, _, _, _, _, _, _, _, _, _, _, _, rfl, ⟨(own_keepB OP.out zz2).mono zz4, (own_keepB OD.out zz2).mono zz4, (NO.out.keep zz2).mono2 zz4, (OO.out.keep fun b hb => zz2 b (OO.out.lt b hb).1).mono zz4, (ON.out.keep fun b hb => zz2 b (ON.out.lt b hb).1).mono zz4, (OT.out.keep fun b hb => zz2 b (OT.out.lt b hb).1).mono zz4, (own_keepB OY0.out zz2).mono zz4, (own_keepB OY1.out zz2).mono zz4, (own_keepB OY2.out zz2).mono zz4, (own_keepB OY3.out zz2).mono zz4⟩⟩, zz3⟩
end Go.Proofs.Ytcbljiiomnhbjaa
