/- Walks of the closures of tree.Put, tree.Cut, tree.Add. -/
import Derived.Test.YtdcpoeaddhbjbaaTurns
import Derived.Test.YtdcpoeaddhbjbaaDel4
import Derived.Test.YtdcpoeaddhbjbaaInsM
import Derived.Deep.RegionHeld3
import Derived.Deep.RegionWith
namespace Go.Proofs.Ytdcpoeaddhbjbaa
set_option maxRecDepth 100000
open Go.RowKit

theorem ends_cells {W : World} {bi : Nat} {v : Value} {w0 : World} (h : w0.cell? ⟨bi, 0, none⟩ = some v) (hb : Below w0.heap.size w0 W) : W.cell? ⟨bi, 0, none⟩ = some v := (hb.cell (p := ⟨bi, 0, none⟩) (World.block_lt_of_cell? w0 _ h)).trans h
theorem es_one {W : World} {Fi : Nat → Nat → Prop} {es : List (List Value)} {ks : List Tree} (hl : es.length = ks.length) (hall : ∀ i, i < ks.length → Tr W (Fi i) (es.getD i []) (ks.getD i default)) : ∀ u ∈ es.flatten, u.oneCell' = true := by
  intro u hu
  obtain ⟨e, he, hue⟩ := List.mem_flatten.1 hu
  obtain ⟨j, hj, rfl⟩ := List.getElem_of_mem he
  have := (hall j (by omega)).nodeAt.one
  rw [show es.getD j [] = es[j] by simp [hj]] at this
  exact this u hue

set_option maxHeartbeats 2000000 in
theorem cut_turner (bi : Nat) (i : Int) (s : Tree) (w0 : World) (hbi : w0.cell? ⟨bi, 0, none⟩ = some (.int .i64 i)) (h0 : 0 ≤ i) (h1 : i.toNat < s.kids.length) :
    Turner 98 #[.pointer (some ⟨bi, 0, none⟩)] w0 s (cutK i s) := by
  intro W F b o hW hb hF hbox
  have hbl := hbox.lt
  have hci := ends_cells hbi hW
  have hbib : bi ≠ b := by have := World.block_lt_of_cell? w0 _ hbi; simp at this; omega
  have hbiw : bi < w0.heap.size := World.block_lt_of_cell? w0 _ hbi
  obtain ⟨cs, hr, hth, htr, hFb⟩ := hbox
  cases htr with
  | @mk _ l ps xs ks pv tv kv es Fp Fi hp ht hk hl hg hpF hiF hd hall =>
    replace h1 : i.toNat < ks.length := h1
    obtain ⟨a, c, rfl⟩ := (hk.sl (by decide)).slice
    obtain ⟨k, rfl⟩ : ∃ k : Nat, i = (k : Int) := ⟨i.toNat, by omega⟩
    have hkk : k < es.length := by rw [hl]; simpa using h1
    have hone := es_one hl hall
    obtain ⟨g, rfl, hnc, -, hgl, -, -, -, -⟩ := hk.at_ (by decide) k hkk
    obtain ⟨hgF, hgP, hgI⟩ := hg g rfl
    have hgb : g ≠ b := by rintro rfl; exact hFb hgF
    have hgw := (hF g hgF).1
    obtain ⟨r0, r1, r2, r3⟩ := range4 hr
    obtain ⟨z0, z1, z2, z3⟩ := there4 hth
    have HD := Lib.hid (fun W1 (hW1 : Below W.heap.size W W1) => del_nodes es 0 g es.length c k (k : Int) ((k : Int) + 1) W1 (hk.later hW1 (Nat.le_refl _)) hone hkk rfl rfl)
    have HEND : Hid (∀ w1 w2 : World, Below w0.heap.size W w1 → (∀ x, x ≠ g → w1.heap[x]? = W.heap[x]?) → OwnSl w1 0 26 4 80 (.slice (some ⟨g, 0, none⟩) (es.length - 1) c) (es.eraseIdx k) → w2 = w1.setCell ⟨b, o + 3, none⟩ (.slice (some ⟨g, 0, none⟩) (es.length - 1) c) →
        Turns w0.heap.size W F b o (cutK (k : Int) (.mk l ps xs ks)) (.returned (.int .i64 0)) w2) := Lib.hid (fun w1 w2 hb1 hx1 ho1 hw2 => by
      obtain ⟨c1, c2, c3⟩ := cut_box (k := k) hr hth hFb (fun x hx => (hF x hx).2) hbl hp ht hl ⟨hgF, hgP, hgI⟩ hpF hiF hd hall (by omega) hx1 ho1 hw2
      refine ⟨rfl, by rw [hw2]; exact hb1.setCell (p := ⟨b, o + 3, none⟩) hb _, c2, c3, fun _ => c1⟩)
    have hst : ∀ w1 : World, (∀ x, x ≠ g → w1.heap[x]? = W.heap[x]?) → (w1.cell? ⟨b, o + 3, none⟩ = some (.slice (some ⟨g, 0, none⟩) es.length c) ∧ w1.cell? ⟨bi, 0, none⟩ = some (.int .i64 k)) ∧ w1.frozen? ⟨b, o + 3, none⟩ = false := fun w1 h => by
      have e1 := World.cell?_of_block (w := W) (w' := w1) (a := ⟨b, o + 3, none⟩) (h b (Ne.symm hgb))
      have e2 := World.cell?_of_block (w := W) (w' := w1) (a := ⟨bi, 0, none⟩) (h bi (by omega))
      have e3 := World.frozen?_of_block (w := W) (w' := w1) (a := ⟨b, o + 3, none⟩) (h b (Ne.symm hgb))
      exact ⟨⟨by rw [e1]; exact r3, by rw [e2]; exact hci⟩, by rw [e3]; exact z3⟩
    have HST := Lib.hid hst
    have hw1k : IntKind.i64.wrap ((k : Int) + 1) = (k : Int) + 1 := IntWalk.i64_in _ (by have := hk.2.1; omega)
    have HGW := Lib.hid hgw
    clear hW hb hF hr hth hFb hp ht hk hl hg hpF hiF hd hall hone hgF hgP hgI hgw hst h0 h1 hkk hnc r0 r1 r2 z0 z1 z2 hbi
    show Calls Try.prog _ #[_, _] W _
    go_enter Try.func98, Try.ntmps98
    go_wp2_with fail
    go_region_with ((go_at_call 99; refine (HD.out _ (gr_dr (gr_refl W))).mono ?_; rintro e w1 ⟨rfl, ho1, hs1, hx1, hbel1⟩; have hq2 := HST.out w1 hx1; have hfz := hq2.2; have hcl3 := hq2.1.1; have HO1 := Lib.hid ho1; have HX1 := Lib.hid hx1; have HBEL := Lib.hid hbel1; clear hq2 ho1 hx1 hbel1 hs1))
    all_goals
      have HE := Lib.hid (HEND.out w1 _ ((gr_dr (gr_refl W)).mono (by have := HGW.out; omega) |>.trans (HBEL.out.mono HGW.out)) HX1.out HO1.out rfl)
      clear HO1 HX1 HBEL HEND HST HD
      go_wp2
      go_ret
      exact HE.out

theorem range_set4 {w : World} {b o : Nat} {u0 u1 u2 u3 : Value} (hth : w.there b o 4) : (set4 w b o u0 u1 u2 u3).rangeAt b o [u0, u1, u2, u3] ∧ (set4 w b o u0 u1 u2 u3).there b o 4 := by
  obtain ⟨x0, h0⟩ := Option.isSome_iff_exists.1 (hth 0 (by omega)).1
  obtain ⟨x1, h1⟩ := Option.isSome_iff_exists.1 (hth 1 (by omega)).1
  obtain ⟨x2, h2⟩ := Option.isSome_iff_exists.1 (hth 2 (by omega)).1
  obtain ⟨x3, h3⟩ := Option.isSome_iff_exists.1 (hth 3 (by omega)).1
  rw [Nat.add_zero] at h0
  have c0 : (set4 w b o u0 u1 u2 u3).cell? ⟨b, o, none⟩ = some u0 := by
    rw [set4, World.cell?_setCell_other _ _ _ _ (by simp), World.cell?_setCell_other _ _ _ _ (by simp), World.cell?_setCell_other _ _ _ _ (by simp)]
    exact World.cell?_setCell_same _ _ _ h0
  have c1 : (set4 w b o u0 u1 u2 u3).cell? ⟨b, o + 1, none⟩ = some u1 := by
    rw [set4, World.cell?_setCell_other _ _ _ _ (by simp), World.cell?_setCell_other _ _ _ _ (by simp)]
    exact World.cell?_setCell_same _ _ _ ((World.cell?_setCell_other _ _ _ _ (by simp)).trans h1)
  have c2 : (set4 w b o u0 u1 u2 u3).cell? ⟨b, o + 2, none⟩ = some u2 := by
    rw [set4, World.cell?_setCell_other _ _ _ _ (by simp)]
    exact World.cell?_setCell_same _ _ _ ((World.cell?_setCell_other _ _ _ _ (by simp)).trans ((World.cell?_setCell_other _ _ _ _ (by simp)).trans h2))
  have c3 : (set4 w b o u0 u1 u2 u3).cell? ⟨b, o + 3, none⟩ = some u3 :=
    World.cell?_setCell_same _ _ _ ((World.cell?_setCell_other _ _ _ _ (by simp)).trans ((World.cell?_setCell_other _ _ _ _ (by simp)).trans ((World.cell?_setCell_other _ _ _ _ (by simp)).trans h3)))
  have hc : ∀ j v, [u0, u1, u2, u3][j]? = some v → (set4 w b o u0 u1 u2 u3).cell? ⟨b, o + j, none⟩ = some v := fun j v hj => by
    have hj4 : j < 4 := by simpa using (List.getElem?_eq_some_iff.1 hj).1
    obtain rfl | rfl | rfl | rfl : j = 0 ∨ j = 1 ∨ j = 2 ∨ j = 3 := by omega
    · rw [Nat.add_zero, c0]; simpa using hj
    · rw [c1]; simpa using hj
    · rw [c2]; simpa using hj
    · rw [c3]; simpa using hj
  refine ⟨hc, fun j hj => ⟨?_, ?_⟩⟩
  · have h4 : j < [u0, u1, u2, u3].length := by simpa using hj
    rw [hc j _ (List.getElem?_eq_getElem h4)]
    rfl
  · simp only [set4, World.frozen?_setCell]
    exact (hth j hj).2

set_option maxHeartbeats 1000000 in
theorem put_turner (bm : Nat) (m : Tree) (mcs : List Value) (S : Nat → Prop) (s : Tree) (w0 : World) (hbm : w0.heap[bm]? = some (.cells mcs.toArray 26 (0, 0))) (hm : NodeAt S w0 mcs m) :
    Turner 73 #[.pointer (some ⟨bm, 0, none⟩)] w0 s (0, m) := by
  intro W F b o hW hb hF hbox
  have hbl := hbox.lt
  obtain ⟨cs, hr, hth, htr, hFb⟩ := hbox
  obtain ⟨a1, n1, c1, a2, n2, c2, a3, n3, c3, rfl⟩ := hm.form
  obtain ⟨⟨k0, k1, k2, k3⟩, _⟩ := four_facts (blk_below hbm hW)
  obtain ⟨z0, z1, z2, z3⟩ := there4 hth
  have HC := Lib.hid (copy_any m _ _ W (hm.later hW (Nat.le_refl _)))
  have HTH := Lib.hid hth; have HFB := Lib.hid hFb; have HBL := Lib.hid hbl; have HB := Lib.hid hb; have HF := Lib.hid hF; have HWS := Lib.hid hW.size
  clear hr htr hW hm hbm hF hFb hth
  show Calls Try.prog _ #[_, _] W _
  go_enter Try.func73, Try.ntmps73
  go_wp2_with fail
  refine HC.out.mono ?_
  intro e w2 hc
  obtain ⟨l, b1, o1, d1, b2, o2, d2, b3, o3, d3, rfl, ht, hbel⟩ := copied_form hc
  have hkb := hbel.block b HBL.out
  have hth2 := there_keep HTH.out hkb
  obtain ⟨q0, q1, q2, q3⟩ := there4 hth2
  obtain ⟨x0, y0⟩ := Option.isSome_iff_exists.1 (hth2 0 (by omega)).1
  obtain ⟨x1, y1⟩ := Option.isSome_iff_exists.1 (hth2 1 (by omega)).1
  obtain ⟨x2, y2⟩ := Option.isSome_iff_exists.1 (hth2 2 (by omega)).1
  obtain ⟨x3, y3⟩ := Option.isSome_iff_exists.1 (hth2 3 (by omega)).1
  rw [Nat.add_zero] at y0
  have HEND : Hid (Turns w0.heap.size W F b o (0, m) (.returned (.int .i64 0)) (set4 w2 b o (.bool l) (.slice b1 o1 d1) (.slice b2 o2 d2) (.slice b3 o3 d3))) := Lib.hid (by
    obtain ⟨r1, r2⟩ := range_set4 (u0 := .bool l) (u1 := .slice b1 o1 d1) (u2 := .slice b2 o2 d2) (u3 := .slice b3 o3 d3) hth2
    have hx : ∀ x, x ≠ b → (set4 w2 b o (.bool l) (.slice b1 o1 d1) (.slice b2 o2 d2) (.slice b3 o3 d3)).heap[x]? = w2.heap[x]? := fun x hx => set4_heap x hx
    refine ⟨rfl, set4_below (hbel.mono HWS.out) HB.out, fun x hx' hxb _ => (hx x hxb).trans (hbel.block x hx'), ?_, fun _ => ⟨_, r1, r2, (ht.keep fun x hx' => hx x (by have := HBL.out; omega)).weaken fun x h => .inr h, ?_⟩⟩
    · exact ((((Wrote.same o hkb).trans (Wrote.set o _ (by omega))).trans (Wrote.set (o + 1) _ (by omega))).trans (Wrote.set (o + 2) _ (by omega))).trans (Wrote.set (o + 3) _ (by omega))
    · rintro (h | h)
      · exact HFB.out h
      · have := HBL.out; omega)
  clear hc ht hbel hkb hth2 HC HTH HFB HBL HB HF HWS k0 k1 k2 k3 z0 z1 z2 z3
  go_wp2_with fail
  go_ret
  exact HEND.out
end Go.Proofs.Ytdcpoeaddhbjbaa
