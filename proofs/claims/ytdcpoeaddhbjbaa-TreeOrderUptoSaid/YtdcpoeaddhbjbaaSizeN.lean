/- Walks of node.Size and node.Text. -/
import Derived.Test.YtdcpoeaddhbjbaaWalk
namespace Go.Proofs.Ytdcpoeaddhbjbaa
set_option maxRecDepth 100000
open Go.RowKit

theorem row_form {w : World} {R n size : Nat} {e : TypeId} {v : Value} {us : List Value} (h : w.ownsRow R e size v n us) : ∃ a m c, v = .slice a m c := by
  rcases h.2 with ⟨rfl, _⟩ | ⟨g, cap, cur, rfl, _⟩
  · exact ⟨_, _, _, rfl⟩
  · exact ⟨_, _, _, rfl⟩
def sumF (a : Nat) (t : Tree) : Nat := a + (1 + t.text.length)
mutual
theorem foldT_sum : ∀ (t : Tree) (a : Nat), foldT sumF a t = a + szT t
  | .mk l ps xs ks, a => by rw [foldT, foldK_sum ks, szT]; simp only [sumF, Tree.text]; omega
theorem foldK_sum : ∀ (ks : List Tree) (a : Nat), foldK sumF a ks = a + szK ks
  | [], a => by simp [foldK, szK]
  | k :: ks, a => by rw [foldK, foldT_sum k, foldK_sum ks, szK]; omega
end
/-- The account: a variable that holds a number. -/
def JSum (bs : Nat) (a : Nat) (w : World) : Prop := w.heap[bs]? = some (.cells #[.int .i64 (a : Int)] 3 (0, 0))

theorem setCell_block' {w : World} {b o : Nat} {v : Value} {cur : Array Value} {ty : TypeId} {fr : Nat × Nat} (h : w.heap[b]? = some (.cells cur ty fr)) : (w.setCell ⟨b, o, none⟩ v).heap[b]? = some (.cells (cur.setIfInBounds o v) ty fr) := by
  have hl := lt_of_block h
  have h' : w.heap[b] = .cells cur ty fr := by simpa [Array.getElem?_eq_getElem hl] using h
  show (w.heap.modify b _)[b]? = _
  rw [Array.getElem?_eq_getElem (by simpa using hl), Array.getElem_modify_self, h']
  rfl
theorem set_one {w : World} {bs : Nat} {v u : Value} {ty : TypeId} (h : w.heap[bs]? = some (.cells #[v] ty (0, 0))) : (w.setCell ⟨bs, 0, none⟩ u).heap[bs]? = some (.cells #[u] ty (0, 0)) := by
  have := setCell_block' (o := 0) (v := u) h
  simpa using this

set_option maxHeartbeats 1000000 in
theorem sum_tells (C bs : Nat) (hbs : C ≤ bs) : Tells Nat sumF (fun a => a) (JSum bs) C 4000000 93 #[.pointer (some ⟨bs, 0, none⟩)] := by
  refine ⟨fun a w w' h hb => blk_below h hb, fun a t => Nat.le_refl _, fun a t cs w hJ hn hC hN => ?_⟩
  obtain ⟨pv, tv, kv, es, rfl, hp, ht, hk, _, _⟩ := hn.open_
  obtain ⟨a1, n1, c1, rfl⟩ := hp.slice3
  obtain ⟨a2, c2, rfl⟩ := ht.slice
  obtain ⟨a3, n3, c3, rfl⟩ := hk.slice3
  simp only [List.length_map]
  have hbW := gr_al (gr_refl w) (.cells #[.bool t.leaf, .slice a1 n1 c1, .slice a2 t.text.length c2, .slice a3 n3 c3] 26)
  have HX := Lib.hid (heap_alloc_new w (.cells #[.bool t.leaf, .slice a1 n1 c1, .slice a2 t.text.length c2, .slice a3 n3 c3] 26))
  have HJ := Lib.hid (blk_below hJ hbW); have HB := Lib.hid hbW; have HC := Lib.hid hC; have HBS := Lib.hid hbs
  obtain ⟨len, hlen⟩ : ∃ len, t.text.length = len := ⟨_, rfl⟩
  have HF : Hid (sumF a t = a + (1 + len)) := Lib.hid (by rw [sumF, hlen])
  rw [hlen] at HX HB HJ hN ⊢
  clear hp ht hk hbW hJ hn hC hbs hlen
  show Calls Try.prog _ #[_, _] w _
  go_enter Try.func93, Try.ntmps93
  go_upto_region 1 with fail
  generalize World.alloc w _ = W at *
  obtain ⟨⟨k0, k1, k2, k3⟩, _⟩ := four_facts HX.out
  have e0 := cell_box HJ.out
  have f0 : W.frozen? ⟨bs, 0, none⟩ = false := by have := HJ.out; simp [World.frozen?, this]
  have hb1 : (a : Int) + (1 + (len : Int)) ≤ 4000000 := by omega
  go_wp2_with fail
  go_ret
  refine ⟨rfl, ?_, ?_⟩
  · rw [HF.out]
    have := set_one (u := .int .i64 ((a : Int) + (1 + (len : Int)))) HJ.out
    show (W.setCell _ _).heap[bs]? = _
    rw [this]
    simp
  · refine ⟨(HB.out.mono HC.out).setCell (p := ⟨bs, 0, none⟩) HBS.out _, fun x cs ty hx hty => ?_⟩
    have h1 := blk_below hx HB.out
    rw [Below.heap_setCell]
    · exact h1
    · rintro rfl
      have h2 := HJ.out
      rw [h2] at h1
      simp only [Option.some.injEq, Obj.cells.injEq] at h1
      obtain ⟨-, rfl, -⟩ := h1
      revert hty
      decide

set_option maxHeartbeats 1000000 in
theorem size_any (S : Nat → Prop) (t : Tree) (cs : List Value) (w : World) (hn : NodeAt S w cs t) (hs : szT t ≤ 4000000) :
    Calls Try.prog 52 #[.agg (List.toArray cs)] w fun e w' => e = .returned (.int .i64 (szT t : Int)) ∧ Below w.heap.size w w' := by
  obtain ⟨a1, n1, c1, a2, n2, c2, a3, n3, c3, rfl⟩ := hn.form
  obtain ⟨hbW, hx1, hx2⟩ := two_boxesN w #[.bool t.leaf, .slice a1 n1 c1, .slice a2 n2 c2, .slice a3 n3 c3] #[.int .i64 0] 26 3
  have HX1 := Lib.hid hx1; have HX2 := Lib.hid hx2; have HB := Lib.hid hbW
  have HN : Hid (NodeAt (fun b => b < w.heap.size) _ [.bool t.leaf, .slice a1 n1 c1, .slice a2 n2 c2, .slice a3 n3 c3] t) := Lib.hid ((hn.there.weaken fun b h => h.2).later hbW (Nat.le_refl _))
  have HEN := Lib.hid (show ∀ args w, (callFunc 93 args).run Try.prog w = .ok (.enter 93 args) w from enters_of Try.func93 (by kernel_rfl) rfl)
  have HS := Lib.hid hs
  clear hbW hx1 hx2 hn hs
  go_enter Try.func52, Try.ntmps52
  go_upto_region 2 with fail
  generalize World.alloc (World.alloc w _) _ = W at *
  obtain ⟨⟨k0, k1, k2, k3⟩, _⟩ := four_facts HX1.out
  have HC := Lib.hid (walk_any (sum_tells w.heap.size (w.heap.size + 1) (by omega)) HEN.out t 0 _ W HX2.out HN.out HB.out.size (by have := HS.out; omega))
  go_wp2_with fail
  refine HC.out.mono ?_
  rintro e w1 ⟨rfl, hj, hk⟩
  rw [foldT_sum, Nat.zero_add] at hj
  have e0 := cell_box hj
  clear k0 k1 k2 k3 hj
  go_wp2_with fail
  go_ret
  exact ⟨rfl, HB.out.trans hk.below⟩

def catF (a : List Int) (t : Tree) : List Int := a ++ t.text
mutual
/-- All text. -/
def textT : Tree → List Int
  | .mk _ _ xs ks => xs ++ textK ks
def textK : List Tree → List Int
  | [] => []
  | k :: ks => textT k ++ textK ks
end
mutual
theorem foldT_cat : ∀ (t : Tree) (a : List Int), foldT catF a t = a ++ textT t
  | .mk l ps xs ks, a => by rw [foldT, foldK_cat ks, textT]; simp only [catF, Tree.text, List.append_assoc]
theorem foldK_cat : ∀ (ks : List Tree) (a : List Int), foldK catF a ks = a ++ textK ks
  | [], a => by simp [foldK, textK]
  | k :: ks, a => by rw [foldK, foldT_cat k, foldK_cat ks, textK, List.append_assoc]
end
mutual
theorem size_text : ∀ t : Tree, sizeT t + (textT t).length = szT t
  | .mk l ps xs ks => by have := size_textK ks; rw [sizeT, textT, szT, List.length_append]; omega
theorem size_textK : ∀ ks : List Tree, sizeK ks + (textK ks).length = szK ks
  | [] => by simp [sizeK, textK, szK]
  | k :: ks => by have := size_text k; have := size_textK ks; rw [sizeK, textK, szK, List.length_append]; omega
end
/-- The account: a variable that holds a row of runes of the call's own. -/
def JCat (C bs : Nat) (a : List Int) (w : World) : Prop := ∃ v, w.heap[bs]? = some (.cells #[v] 23 (0, 0)) ∧ OwnSl w C 21 1 4 v (a.map runeCells)

set_option maxHeartbeats 4000000 in
theorem cat_tells (C bs : Nat) (hbs : C ≤ bs) : Tells (List Int) catF List.length (JCat C bs) C 4000000 92 #[.pointer (some ⟨bs, 0, none⟩)] := by
  refine ⟨fun a w w' h hb => ?_, fun a t => by rw [catF, List.length_append]; omega, fun a t cs w hJ hn hC hN => ?_⟩
  · obtain ⟨v, h1, h2⟩ := h
    exact ⟨v, blk_below h1 hb, h2.later hb (Nat.le_refl _)⟩
  obtain ⟨pv, tv, kv, es, rfl, hp, ht, hk, _, _⟩ := hn.open_
  obtain ⟨a1, n1, c1, rfl⟩ := hp.slice3
  obtain ⟨a3, n3, c3, rfl⟩ := hk.slice3
  obtain ⟨a2, c2, rfl⟩ := ht.slice
  simp only [List.length_map] at ht ⊢
  obtain ⟨ov, ho1, ho2⟩ := hJ
  obtain ⟨oa, oc, rfl⟩ := (ho2.sl (by decide)).slice
  simp only [List.length_map] at ho1 ho2
  have hbW := gr_al (gr_refl w) (.cells #[.bool t.leaf, .slice a1 n1 c1, .slice a2 t.text.length c2, .slice a3 n3 c3] 26)
  have HX := Lib.hid (heap_alloc_new w (.cells #[.bool t.leaf, .slice a1 n1 c1, .slice a2 t.text.length c2, .slice a3 n3 c3] 26))
  have HO1 := Lib.hid (blk_below ho1 hbW); have HO2 := Lib.hid (ho2.later hbW (Nat.le_refl _)); have HB := Lib.hid hbW; have HC := Lib.hid hC; have HBS := Lib.hid hbs; have HT := Lib.hid (ht.later hbW (Nat.le_refl _)); have HNN := Lib.hid hN
  clear hp ht hk hbW ho1 ho2 hn hC hbs hN
  show Calls Try.prog _ #[_, _] w _
  go_enter Try.func92, Try.ntmps92
  go_upto_region 1 with fail
  generalize World.alloc w _ = W at *
  obtain ⟨⟨k0, k1, k2, k3⟩, _⟩ := four_facts HX.out
  have e0 := cell_box HO1.out
  obtain ⟨-, s1, s2, s3⟩ := HT.out.src (by decide)
  obtain ⟨i0, hi, hz0, hz1, hz2⟩ := info_parts info_runes
  have S1 := Lib.hid s1; have S2 := Lib.hid s2; have S3 := Lib.hid s3; have HI := Lib.hid hi; have HZ0 := Lib.hid hz0; have HZ1 := Lib.hid hz1; have HZ2 := Lib.hid hz2
  have hrow := HO2.out.1
  rw [List.length_map] at hrow
  have HR := Lib.hid hrow
  clear s1 s2 s3 hi hz0 hz1 hz2 hrow
  go_wp2_with (at_builtin; refine wpList_append_any _ rfl _ _ 23 rfl C 21 i0 (.int .i32 0) 1 4 Try.underlying23 HI.out HZ0.out HZ1.out HZ2.out rfl (by decide) _ a.length (a.map runeCells).flatten rfl HR.out a2 t.text.length c2 (t.text.map runeCells).flatten rfl S1.out S2.out S3.out (rune_cells_one t.text) (by have := HNN.out; unfold maxLen; omega) (by have := HNN.out; omega) (Nat.le_trans HC.out HB.out.size) ?_; intro v1 w1 hown hgrow; obtain ⟨va, vm, vc, rfl⟩ := row_form hown; have hbs1 := (hgrow.block bs (lt_of_block HO1.out) (fun h => row_not HR.out HO1.out (by decide) h.symm)).trans HO1.out; have hcb := cell_box hbs1; have hfb : w1.frozen? ⟨bs, 0, none⟩ = false := by simp [World.frozen?, hbs1])
  have HW := Lib.hid hown; have HG := Lib.hid hgrow; have HS := Lib.hid hbs1
  clear k0 k1 k2 k3 e0 hcb hfb hown hgrow hbs1
  go_wp2_with fail
  go_ret
  refine ⟨rfl, ⟨_, set_one HS.out, ?_⟩, ?_⟩
  · have hOS : OwnSl w1 C 21 1 4 (.slice va vm vc) ((catF a t).map runeCells) := by
      refine ⟨?_, by rw [List.length_map, catF, List.length_append]; have := HNN.out; omega, fun x hx => by obtain ⟨y, _, rfl⟩ := List.mem_map.1 hx; rfl⟩
      rw [List.length_map, catF, List.length_append, List.map_append, List.flatten_append]
      exact HW.out
    exact hOS.keep fun g hg => Below.heap_setCell _ _ _ _ (fun e => row_not hOS.1 HS.out (by decide) (by rw [hg]; exact congrArg some e))
  · refine ⟨((HB.out.mono HC.out).grown HG.out (Nat.le_trans HC.out HB.out.size) (fun g hg => (HR.out.lt g hg).1)).setCell (p := ⟨bs, 0, none⟩) HBS.out _, fun x cs ty hx hty => ?_⟩
    have h1 := blk_below hx HB.out
    have h2 : w1.heap[x]? = some (.cells cs ty (0, 0)) := by
      rw [HG.out.block x (lt_of_block h1) (fun h => row_not HR.out h1 (by rintro rfl; revert hty; decide) h.symm)]
      exact h1
    rw [Below.heap_setCell]
    · exact h2
    · rintro rfl
      have h3 := HS.out
      rw [h2] at h3
      simp only [Option.some.injEq, Obj.cells.injEq] at h3
      obtain ⟨-, rfl, -⟩ := h3
      revert hty
      decide

set_option maxHeartbeats 1000000 in
theorem text_any (S : Nat → Prop) (t : Tree) (cs : List Value) (w : World) (hn : NodeAt S w cs t) (hs : szT t ≤ 4000000) :
    Calls Try.prog 51 #[.agg (List.toArray cs)] w fun e w' => ∃ a c, e = .returned (.slice a (textT t).length c) ∧ Below w.heap.size w w' := by
  obtain ⟨a1, n1, c1, a2, n2, c2, a3, n3, c3, rfl⟩ := hn.form
  obtain ⟨hbW, hx1, hx2⟩ := two_boxesN w #[.bool t.leaf, .slice a1 n1 c1, .slice a2 n2 c2, .slice a3 n3 c3] #[.slice none 0 0] 26 23
  have HX1 := Lib.hid hx1; have HX2 := Lib.hid hx2; have HB := Lib.hid hbW
  have HN : Hid (NodeAt (fun b => b < w.heap.size) _ [.bool t.leaf, .slice a1 n1 c1, .slice a2 n2 c2, .slice a3 n3 c3] t) := Lib.hid ((hn.there.weaken fun b h => h.2).later hbW (Nat.le_refl _))
  have HEN := Lib.hid (show ∀ args w, (callFunc 92 args).run Try.prog w = .ok (.enter 92 args) w from enters_of Try.func92 (by kernel_rfl) rfl)
  have HS := Lib.hid hs
  clear hbW hx1 hx2 hn hs
  go_enter Try.func51, Try.ntmps51
  go_upto_region 2 with fail
  generalize World.alloc (World.alloc w _) _ = W at *
  obtain ⟨⟨k0, k1, k2, k3⟩, _⟩ := four_facts HX1.out
  have HC := Lib.hid (walk_any (cat_tells w.heap.size (w.heap.size + 1) (by omega)) HEN.out t [] _ W ⟨_, HX2.out, OwnSl.nil _ _ _ _ _⟩ HN.out HB.out.size (by have := HS.out; simp; omega))
  go_wp2_with fail
  refine HC.out.mono ?_
  rintro e w1 ⟨rfl, ⟨v, hj, hown⟩, hk⟩
  rw [foldT_cat, List.nil_append] at hown
  obtain ⟨va, vc, rfl⟩ := (hown.sl (by decide)).slice
  rw [List.length_map] at hj
  have e0 := cell_box hj
  clear k0 k1 k2 k3 hj hown
  go_wp2_with fail
  go_ret
  exact ⟨va, vc, rfl, HB.out.trans hk.below⟩
end Go.Proofs.Ytdcpoeaddhbjbaa
