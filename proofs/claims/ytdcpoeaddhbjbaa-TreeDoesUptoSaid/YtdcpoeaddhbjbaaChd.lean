/- Walk of tree.changed: a copy of a tree, of which one node is turned in place by whatever function does that. -/
import Derived.Test.YtdcpoeaddhbjbaaUpd
import Derived.Test.YtdcpoeaddhbjbaaGets
import Derived.Shelf.Abstract
namespace Go.Proofs.Ytdcpoeaddhbjbaa
set_option maxRecDepth 100000
open Go.RowKit

/-- What a function leaves that turns a node in place: its error, and the node; C: below it nothing has turned. -/
def Turns (C : Nat) (W : World) (F : Nat → Prop) (b o : Nat) (r : Int × Tree) (e : Ending) (W' : World) : Prop :=
  e = .returned (.int .i64 r.1) ∧ Below C W W' ∧ Framed W W' b F ∧ Wrote W W' b o ∧ (r.1 = 0 → Box W' (orNew W F) b o r.2)
/-- A function that turns a node in place, in whatever world behind w0. -/
def Turner (G : FuncId) (cb : Array Value) (w0 : World) (s : Tree) (r : Int × Tree) : Prop :=
  ∀ (W : World) (F : Nat → Prop) (b o : Nat), Below w0.heap.size w0 W → w0.heap.size ≤ b → (∀ x, F x → w0.heap.size ≤ x ∧ x < W.heap.size) → Box W F b o s →
    Calls Try.prog G (#[.pointer (some ⟨b, o, none⟩)] ++ cb) W (Turns w0.heap.size W F b o r)

/-- The changed tree, and the error. -/
def chE (t : Tree) (p : List Int) (h : Tree → Int × Tree) : Int := match getT t p with | none => 5 | some s => (h s).1
def chT (t : Tree) (p : List Int) (h : Tree → Int × Tree) : Option Tree := match getT t p with | none => none | some s => if (h s).1 = 0 then some (putT t p (h s).2) else none

theorem Box.of {w : World} {F : Nat → Prop} {g : Nat} {x0 x1 x2 x3 : Value} {t : Tree} {ty : TypeId} (h : w.heap[g]? = some (.cells #[x0, x1, x2, x3] ty (0, 0))) (ht : Tr w F [x0, x1, x2, x3] t) (hg : ¬ F g) : Box w F g 0 t := by
  refine ⟨_, fun j v hj => ?_, fun j hj => ⟨?_, by simp [World.frozen?, h]⟩, ht, hg⟩
  · rw [cell_of_row w g (0 + j) _ _ (0, 0) h]
    simpa using hj
  · rw [cell_of_row w g (0 + j) _ _ (0, 0) h]
    obtain rfl | rfl | rfl | rfl : j = 0 ∨ j = 1 ∨ j = 2 ∨ j = 3 := by omega
    all_goals rfl
/-- The boxes of 'changed'. -/
theorem ch_boxes (w : World) (x0 x1 x2 x3 : Value) : Below w.heap.size w ((w.alloc (.cells #[x0, x1, x2, x3] 26)).alloc (.cells #[.bool false, .slice none 0 0, .slice none 0 0, .slice none 0 0] 26)) ∧
    ((w.alloc (.cells #[x0, x1, x2, x3] 26)).alloc (.cells #[.bool false, .slice none 0 0, .slice none 0 0, .slice none 0 0] 26)).heap[w.heap.size]? = some (.cells #[x0, x1, x2, x3] 26 (0, 0)) ∧
    ((w.alloc (.cells #[x0, x1, x2, x3] 26)).alloc (.cells #[.bool false, .slice none 0 0, .slice none 0 0, .slice none 0 0] 26)).heap[w.heap.size + 1]? = some (.cells #[.bool false, .slice none 0 0, .slice none 0 0, .slice none 0 0] 26 (0, 0)) := by
  refine ⟨gr_al (gr_al (gr_refl w) _) _, blk_below (heap_alloc_new w _) (gr_al (gr_refl _) _), ?_⟩
  have := heap_alloc_new (w.alloc (.cells #[x0, x1, x2, x3] 26)) (.cells #[.bool false, .slice none 0 0, .slice none 0 0, .slice none 0 0] 26)
  rwa [show (w.alloc (.cells #[x0, x1, x2, x3] 26)).heap.size = w.heap.size + 1 by simp] at this

set_option maxHeartbeats 2000000 in
theorem changed_any (S : Nat → Prop) (t : Tree) (cs : List Value) (p : List Int) (v : Value) (w : World) (G : FuncId) (cb : Array Value) (h : Tree → Int × Tree) (hn : NodeAt S w cs t) (hp : Ints w v p) (hi : I64 p)
    (eg : ∀ args w, (callFunc G args).run Try.prog w = .ok (.enter G args) w) (hh : ∀ s, getT t p = some s → Turner G cb w s (h s)) :
    Calls Try.prog 72 #[.agg (Array.mk cs), v, .func (.func G) #[] cb] w (Found w (chT t p h) (chE t p h)) := by
  obtain ⟨a1, n1, c1, a2, n2, c2, a3, n3, c3, rfl⟩ := hn.form
  obtain ⟨av, nv, cv, rfl⟩ := hp.slice3
  obtain ⟨hbW, hx1, hx2⟩ := ch_boxes w (.bool t.leaf) (.slice a1 n1 c1) (.slice a2 n2 c2) (.slice a3 n3 c3)
  have HN := Lib.hid (hn.later hbW (Nat.le_refl _)); have HP := Lib.hid (hp.below hbW (Nat.le_refl _)); have HI := Lib.hid hi; have HB := Lib.hid hbW; have HX1 := Lib.hid hx1; have HX2 := Lib.hid hx2; have HH := Lib.hid hh
  clear hn hp hi hbW hx1 hx2 hh
  go_enter Try.func72, Try.ntmps72
  go_upto_region 1 with fail
  generalize World.alloc (World.alloc w _) _ = W at *
  obtain ⟨⟨k0, k1, k2, k3⟩, _⟩ := four_facts HX1.out
  have HC := Lib.hid (copy_any t _ _ W HN.out)
  go_wp2_with fail
  refine HC.out.mono ?_
  intro e w1 hc
  obtain ⟨l, b1, o1, d1, b2, o2, d2, b3, o3, d3, rfl, ht, hb⟩ := copied_form hc
  clear hc HC k0 k1 k2 k3
  have hW1 := gr_al (gr_refl w1) (.cells #[.bool l, .slice b1 o1 d1, .slice b2 o2 d2, .slice b3 o3 d3] 26)
  have hgb := heap_alloc_new w1 (.cells #[.bool l, .slice b1 o1 d1, .slice b2 o2 d2, .slice b3 o3 d3] 26)
  have hsz1 : (w1.alloc (.cells #[.bool l, .slice b1 o1 d1, .slice b2 o2 d2, .slice b3 o3 d3] 26)).heap.size = w1.heap.size + 1 := by simp
  have hbox := Box.of (F := fun b => W.heap.size ≤ b ∧ b < w1.heap.size) hgb (ht.there.later hW1) (by omega)
  have HT := Lib.hid hbox; have HL1 := Lib.hid (gr_tr hb hW1); have HSZ := Lib.hid hsz1
  have HWS1 : Hid (W.heap.size ≤ w1.heap.size) := Lib.hid hb.size
  have HPP := Lib.hid (HP.out.below (gr_tr hb hW1) (Nat.le_refl _))
  clear hb ht hW1 hgb hsz1 hbox
  go_wp2_with fail
  generalize World.alloc w1 _ = W1 at *
  have HA := Lib.hid (at_any _ t w1.heap.size 0 p (.slice av nv cv) W1 HT.out.here HPP.out HI.out)
  go_wp2_with fail
  refine HA.out.mono ?_
  rintro e w2 ⟨rfl, hg⟩
  clear HA
  have HX2' := Lib.hid (blk_below HX2.out HL1.out)
  have HBW1 := Lib.hid (gr_tr HB.out HL1.out)
  have hlt := lt_of_block HX2.out
  have HG := Lib.hid hg
  clear hg
  rcases HG.out with ⟨hg, rfl⟩ | ⟨b', o', s, hg, rfl, hf, hhere⟩
  · have HG2 := Lib.hid hg
    clear hg HG
    obtain ⟨_, ⟨m0, m1, m2, m3⟩⟩ := four_facts HX2'.out
    obtain ⟨⟨k0, k1, k2, k3⟩, _⟩ := four_facts HX2'.out
    have hfb := four_block (u0 := .bool false) (u1 := .slice none 0 0) (u2 := .slice none 0 0) (u3 := .slice none 0 0) HX2'.out
    have hfw : Below w.heap.size w (set4 W1 (w.heap.size + 1) 0 (.bool false) (.slice none 0 0) (.slice none 0 0) (.slice none 0 0)) := set4_below HBW1.out (by omega)
    have HFB := Lib.hid hfb; have HFW := Lib.hid hfw
    clear hfb hfw
    go_wp2_with fail
    have hfb := HFB.out; have hfw := HFW.out
    clear HFB HFW
    simp only [set4, Nat.zero_add] at hfb hfw
    obtain ⟨⟨j0, j1, j2, j3⟩, _⟩ := four_facts hfb
    generalize ((((W1.setCell ⟨w.heap.size + 1, 0, none⟩ (.bool false)).setCell ⟨w.heap.size + 1, 1, none⟩ (.slice none 0 0)).setCell ⟨w.heap.size + 1, 2, none⟩ (.slice none 0 0)).setCell ⟨w.heap.size + 1, 3, none⟩ (.slice none 0 0)) = wf at *
    exact bodyPost_ret (v := .tuple #[zeroN, .int .i64 5]) (by simp [results, Try.results72, go_sem, j0, j1, j2, j3]) rfl ⟨hfw, .inl ⟨by simp only [chT, HG2.out], by simp only [chE, HG2.out]⟩⟩
  · obtain ⟨Fs, f1, f2, f3, f4⟩ := focus_put hf HT.out (fun x hx => by have := HSZ.out; omega)
    have hWs := HB.out.size
    have hb'W : W.heap.size ≤ b' := by
      rcases f3 with rfl | h
      · exact HWS1.out
      · exact h.1
    have hCall := HH.out s hg W1 Fs b' o' HBW1.out (by omega) (fun x hx => ⟨by have := (f2 x hx).1; omega, by have := (f2 x hx).2; have := HSZ.out; omega⟩) f1
    have HG2 := Lib.hid hg; have HCALL := Lib.hid hCall; have HF4 := Lib.hid f4; have HF2 := Lib.hid f2; have HBW := Lib.hid hb'W
    clear hg HG hf hhere f1 f2 f3 f4 hCall hb'W hWs
    obtain ⟨er, s', hr⟩ : ∃ er s', h s = (er, s') := ⟨_, _, rfl⟩
    rw [hr] at HCALL
    have HR := Lib.hid hr
    clear hr
    by_cases h0 : er = 0
    · subst h0
      go_wp2_with (go_at_fn G; refine HCALL.out.mono ?_; rintro e w3 ⟨rfl, hb3, hfr, hwr, hbx⟩; obtain ⟨⟨cs', hr', -, ht', -⟩, -, -⟩ := HF4.out w3 s' hb3.size (hbx rfl) hwr hfr; obtain ⟨q1, r1, s1, t1, q2, r2, s2, q3, r3, hcs'⟩ := ht'.nodeAt.form; replace hcs' := hcs'; subst hcs'; obtain ⟨k0, k1, k2, k3⟩ := range4 hr'; have hXX := (hfr (w.heap.size + 1) (by have := lt_of_block HX2.out; have := HL1.out.size; omega) (by have := lt_of_block HX2.out; have := HBW.out; omega) (fun hx => by have := (HF2.out _ hx).1; have := lt_of_block HX2.out; omega)).trans HX2'.out; obtain ⟨_, ⟨m0, m1, m2, m3⟩⟩ := four_facts hXX; have HT' := Lib.hid ht'; have HB3 := Lib.hid hb3; have HXX := Lib.hid hXX; clear hr' ht' hb3 hfr hwr hbx hXX HCALL)
      have hfb := four_block (u0 := .bool (putT t p s').leaf) (u1 := .slice q1 r1 s1) (u2 := .slice t1 q2 r2) (u3 := .slice s2 q3 r3) HXX.out
      have hfs := four_stored (w' := w3) (g := w.heap.size + 1) (u0 := .bool (putT t p s').leaf) (u1 := .slice q1 r1 s1) (u2 := .slice t1 q2 r2) (u3 := .slice s2 q3 r3)
      have hfw : Below w.heap.size w (set4 w3 (w.heap.size + 1) 0 (.bool (putT t p s').leaf) (.slice q1 r1 s1) (.slice t1 q2 r2) (.slice s2 q3 r3)) := set4_below (HBW1.out.trans HB3.out) (by omega)
      have htr : Tr (set4 w3 (w.heap.size + 1) 0 (.bool (putT t p s').leaf) (.slice q1 r1 s1) (.slice t1 q2 r2) (.slice s2 q3 r3)) (fun b => w.heap.size ≤ b) [.bool (putT t p s').leaf, .slice q1 r1 s1, .slice t1 q2 r2, .slice s2 q3 r3] (putT t p s') :=
        (HT'.out.keep fun b hb' => hfs b (by have := lt_of_block HX2.out; have := HL1.out.size; rcases hb' with h | h <;> omega)).weaken fun b hb' => by have := HB.out.size; have := HL1.out.size; rcases hb' with h | h <;> omega
      simp only [set4, Nat.zero_add] at hfw htr hfb
      obtain ⟨⟨j0, j1, j2, j3⟩, _⟩ := four_facts hfb
      generalize ((((w3.setCell ⟨w.heap.size + 1, 0, none⟩ (.bool (putT t p s').leaf)).setCell ⟨w.heap.size + 1, 1, none⟩ (.slice q1 r1 s1)).setCell ⟨w.heap.size + 1, 2, none⟩ (.slice t1 q2 r2)).setCell ⟨w.heap.size + 1, 3, none⟩ (.slice s2 q3 r3)) = wf at *
      exact bodyPost_ret (v := .tuple #[.agg #[.bool (putT t p s').leaf, .slice q1 r1 s1, .slice t1 q2 r2, .slice s2 q3 r3], .int .i64 0]) (by simp [results, Try.results72, go_sem, j0, j1, j2, j3]) rfl ⟨hfw, .inr ⟨_, _, by simp only [chT, HG2.out, HR.out, if_true], rfl, htr⟩⟩
    · have hne : (er != 0) = true := by simpa using h0
      have HER := Lib.hid h0
      clear h0
      go_wp2_with (go_at_fn G; refine HCALL.out.mono ?_; rintro e w3 ⟨rfl, hb3, hfr, -, -⟩; have hXX := (hfr (w.heap.size + 1) (by have := lt_of_block HX2.out; have := HL1.out.size; omega) (by have := lt_of_block HX2.out; have := HBW.out; omega) (fun hx => by have := (HF2.out _ hx).1; have := lt_of_block HX2.out; omega)).trans HX2'.out; obtain ⟨⟨k0, k1, k2, k3⟩, ⟨m0, m1, m2, m3⟩⟩ := four_facts hXX; have HB3 := Lib.hid hb3; have HXX := Lib.hid hXX; clear hb3 hfr hXX HCALL)
      have hfb := four_block (u0 := .bool false) (u1 := .slice none 0 0) (u2 := .slice none 0 0) (u3 := .slice none 0 0) HXX.out
      have hfw : Below w.heap.size w (set4 w3 (w.heap.size + 1) 0 (.bool false) (.slice none 0 0) (.slice none 0 0) (.slice none 0 0)) := set4_below (HBW1.out.trans HB3.out) (by omega)
      simp only [set4, Nat.zero_add] at hfb hfw
      obtain ⟨⟨j0, j1, j2, j3⟩, _⟩ := four_facts hfb
      generalize ((((w3.setCell ⟨w.heap.size + 1, 0, none⟩ (.bool false)).setCell ⟨w.heap.size + 1, 1, none⟩ (.slice none 0 0)).setCell ⟨w.heap.size + 1, 2, none⟩ (.slice none 0 0)).setCell ⟨w.heap.size + 1, 3, none⟩ (.slice none 0 0)) = wf at *
      exact bodyPost_ret (v := .tuple #[zeroN, .int .i64 er]) (by simp [results, Try.results72, go_sem, j0, j1, j2, j3]) rfl ⟨hfw, .inl ⟨by simp only [chT, HG2.out, HR.out, HER.out, if_false], by simp only [chE, HG2.out, HR.out]⟩⟩
end Go.Proofs.Ytdcpoeaddhbjbaa
