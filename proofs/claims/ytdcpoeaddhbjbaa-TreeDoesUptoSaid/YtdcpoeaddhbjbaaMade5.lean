/- What tree.Get and tree.Put hand back, in one word; redlinelaw05.few. -/
import Derived.Test.YtdcpoeaddhbjbaaTreeL
import Derived.Test.YtdcpoeaddhbjbaaCut
import Derived.Test.YtdcpoeaddhbjbaaSameN
namespace Go.Proofs.Ytdcpoeaddhbjbaa
set_option maxRecDepth 100000
open Go.RowKit

/-- A node, and an error. -/
def Made2 (t : Tree) (er : Int) (w : World) (e : Ending) (w' : World) : Prop := ∃ (l : Bool) (a1 : Option Addr) (n1 c1 : Nat) (a2 : Option Addr) (n2 c2 : Nat) (a3 : Option Addr) (n3 c3 : Nat), e = .returned (.tuple #[.agg #[.bool l, .slice a1 n1 c1, .slice a2 n2 c2, .slice a3 n3 c3], .int .i64 er]) ∧
    NodeAt Any w' [.bool l, .slice a1 n1 c1, .slice a2 n2 c2, .slice a3 n3 c3] t ∧ Below w.heap.size w w'
theorem zero_at (S : Nat → Prop) (w : World) : NodeAt S w [.bool false, .slice none 0 0, .slice none 0 0, .slice none 0 0] zeroT :=
  .mk (Sl.nil _ _ _ _) (Sl.nil _ _ _ _) (Sl.nil _ _ _ _) rfl (fun i hi => by simp at hi)
theorem Found.made {w : World} {r : Option Tree} {er er' : Int} {e : Ending} {w' : World} (h : Found w r er e w') (he : er' = if r = none then er else 0) : Made2 (r.getD zeroT) er' w e w' := by
  obtain ⟨hb, ⟨rfl, rfl⟩ | ⟨cs, s, rfl, rfl, ht⟩⟩ := h
  · rw [if_pos rfl] at he
    subst he
    exact ⟨_, _, _, _, _, _, _, _, _, _, rfl, zero_at _ _, hb⟩
  · obtain ⟨a1, n1, c1, a2, n2, c2, a3, n3, c3, hc⟩ := ht.nodeAt.form
    subst hc
    rw [if_neg (by simp)] at he
    subst he
    exact ⟨_, _, _, _, _, _, _, _, _, _, rfl, ht.nodeAt.weaken fun _ _ => trivial, hb⟩
/-- The error of tree.Get. -/
def getE (t : Tree) (p : List Int) : Int := if getT t p = none then 5 else 0
theorem get_made (S : Nat → Prop) (t : Tree) (cs : List Value) (p : List Int) (v : Value) (w : World) (h : NodeAt S w cs t) (hp : Ints w v p) (hi : I64 p) :
    Calls Try.prog 17 #[.agg (Array.mk cs), v] w (Made2 ((getT t p).getD zeroT) (getE t p) w) :=
  (get_any S t cs p v w h hp hi).mono fun _ _ hf => hf.made rfl
theorem put_made (S S' : Nat → Prop) (t m : Tree) (cs ds : List Value) (p : List Int) (v : Value) (w : World) (hn : NodeAt S w cs t) (hp : Ints w v p) (hi : I64 p) (hm : NodeAt S' w ds m) :
    Calls Try.prog 26 #[.agg (List.toArray cs), v, .agg (List.toArray ds)] w (Made2 (if getT t p = none then zeroT else putT t p m) (getE t p) w) := by
  refine (put_any S S' t m cs ds p v w hn hp hi hm).mono fun _ _ hf => ?_
  cases hg : getT t p with
  | none =>
    have := hf.made (er' := getE t p) (by simp [chT, chE, getE, hg])
    simpa [chT, hg] using this
  | some s =>
    have := hf.made (er' := getE t p) (by simp [chT, getE, hg])
    simpa [chT, hg] using this
/-- A box of a node, and the tree that its cells read as. -/
def BoxN (w : World) (g : Nat) (x0 x1 x2 x3 : Value) (t : Tree) : Prop := w.heap[g]? = some (.cells #[x0, x1, x2, x3] 26 (0, 0)) ∧ NodeAt Any w [x0, x1, x2, x3] t
theorem BoxN.later {w w' : World} {g : Nat} {x0 x1 x2 x3 : Value} {t : Tree} (h : BoxN w g x0 x1 x2 x3 t) (hb : Below w.heap.size w w') : BoxN w' g x0 x1 x2 x3 t := ⟨blk_below h.1 hb, h.2.boxed hb⟩
theorem BoxN.new {w : World} {x0 x1 x2 x3 : Value} {t : Tree} (h : NodeAt Any w [x0, x1, x2, x3] t) : BoxN (w.alloc (.cells #[x0, x1, x2, x3] 26)) w.heap.size x0 x1 x2 x3 t := ⟨heap_alloc_new w _, h.boxed (gr_al (gr_refl w) _)⟩
/-- A path, all of whose numbers are ints. -/
def PathP (w : World) (v : Value) (p : List Int) : Prop := Ints w v p ∧ I64 p
theorem PathP.later {w w' : World} {v : Value} {p : List Int} (h : PathP w v p) (hb : Below w.heap.size w w') : PathP w' v p := ⟨h.1.below hb (Nat.le_refl _), h.2⟩
/-- node.Same of two that are one. -/
theorem nsame_yes (s t : Tree) (hst : s = t) (cs ds : List Value) (S S' : Nat → Prop) (w : World) (h1 : NodeAt S w cs s) (h2 : NodeAt S' w ds t) :
    Calls Try.prog 27 #[.agg (List.toArray cs), .agg (List.toArray ds)] w fun e w' => e = .returned (.bool true) ∧ Below w.heap.size w w' := by
  subst hst
  have h := nsame_any s s cs ds S S' w h1 h2
  rwa [eqT_yes rfl] at h

theorem get_yes {w : World} {g : Nat} {x0 x1 x2 x3 v : Value} {t s : Tree} {p : List Int} (h : BoxN w g x0 x1 x2 x3 t) (hp : PathP w v p) (hg : getT t p = some s) : Calls Try.prog 17 #[.agg #[x0, x1, x2, x3], v] w (Made2 s 0 w) := by
  have := get_made Any t _ p v w h.2 hp.1 hp.2
  rwa [getE, hg] at this
theorem get_no {w : World} {g : Nat} {x0 x1 x2 x3 v : Value} {t : Tree} {p : List Int} (h : BoxN w g x0 x1 x2 x3 t) (hp : PathP w v p) (hg : getT t p = none) : Calls Try.prog 17 #[.agg #[x0, x1, x2, x3], v] w (Made2 zeroT 5 w) := by
  have := get_made Any t _ p v w h.2 hp.1 hp.2
  rwa [getE, hg] at this
theorem put_yes {w : World} {g g' : Nat} {x0 x1 x2 x3 y0 y1 y2 y3 v : Value} {t m s : Tree} {p : List Int} (h : BoxN w g x0 x1 x2 x3 t) (hp : PathP w v p) (h2 : BoxN w g' y0 y1 y2 y3 m) (hg : getT t p = some s) : Calls Try.prog 26 #[.agg #[x0, x1, x2, x3], v, .agg #[y0, y1, y2, y3]] w (Made2 (putT t p m) 0 w) := by
  have := put_made Any Any t m _ _ p v w h.2 hp.1 hp.2 h2.2
  rw [getE, hg] at this
  exact this
theorem put_no {w : World} {g g' : Nat} {x0 x1 x2 x3 y0 y1 y2 y3 v : Value} {t m : Tree} {p : List Int} (h : BoxN w g x0 x1 x2 x3 t) (hp : PathP w v p) (h2 : BoxN w g' y0 y1 y2 y3 m) (hg : getT t p = none) : Calls Try.prog 26 #[.agg #[x0, x1, x2, x3], v, .agg #[y0, y1, y2, y3]] w (Made2 zeroT 5 w) := by
  have := put_made Any Any t m _ _ p v w h.2 hp.1 hp.2 h2.2
  rw [getE, hg] at this
  exact this
theorem same_yes {w : World} {g g' : Nat} {x0 x1 x2 x3 y0 y1 y2 y3 : Value} {s t : Tree} (h : BoxN w g x0 x1 x2 x3 s) (h2 : BoxN w g' y0 y1 y2 y3 t) (hst : s = t) : Calls Try.prog 27 #[.agg #[x0, x1, x2, x3], .agg #[y0, y1, y2, y3]] w fun e w' => e = .returned (.bool true) ∧ Below w.heap.size w w' :=
  nsame_yes s t hst _ _ Any Any w h.2 h2.2
theorem same_zero {w : World} {g : Nat} {x0 x1 x2 x3 : Value} (h : BoxN w g x0 x1 x2 x3 zeroT) : Calls Try.prog 27 #[.agg #[x0, x1, x2, x3], .agg #[.bool false, .slice none 0 0, .slice none 0 0, .slice none 0 0]] w fun e w' => e = .returned (.bool true) ∧ Below w.heap.size w w' :=
  nsame_yes zeroT zeroT rfl _ _ Any Any w h.2 (zero_at Any w)
theorem few_box {w : World} {g g' : Nat} {x0 x1 x2 x3 y0 y1 y2 y3 v : Value} {s t : Tree} {p : List Int} (h : BoxN w g x0 x1 x2 x3 s) (h2 : BoxN w g' y0 y1 y2 y3 t) (hp : PathP w v p) (hF : ∀ (t m : Tree) (cs ds : List Value) (v : Value) (p : List Int) (w : World), NodeAt Any w cs t → NodeAt Any w ds m → Ints w v p →
    Calls Try.prog 25 #[.agg (List.toArray cs), .agg (List.toArray ds), v] w (SomeBool w)) : Calls Try.prog 25 #[.agg #[x0, x1, x2, x3], .agg #[y0, y1, y2, y3], v] w (SomeBool w) := hF s t _ _ v p w h.2 h2.2 hp.1
theorem path_same {w : World} {v v' : Value} {p q : List Int} (h : PathP w v p) (h2 : PathP w v' q) {b : Bool} (hb : decide (p = q) = b) : Calls Try.prog 28 #[v, v'] w fun e w' => e = .returned (.bool b) ∧ Below w.heap.size w w' :=
  (same_any p q v v' w h.1 h2.1).mono fun _ _ hr => ⟨by rw [hr.1, hb], sm_below hr.2⟩
theorem path_above {w : World} {v v' : Value} {p q : List Int} (h : PathP w v p) (h2 : PathP w v' q) {b : Bool} (hb : aboveB p q = b) : Calls Try.prog 29 #[v, v'] w fun e w' => e = .returned (.bool b) ∧ Below w.heap.size w w' :=
  (above_any p q v v' w h.1 h2.1).mono fun _ _ hr => ⟨by rw [hr.1, hb], sm_below hr.2⟩

set_option maxHeartbeats 1000000 in
theorem few5_any (t m : Tree) (cs ds : List Value) (v : Value) (p : List Int) (w : World) (h1 : NodeAt Any w cs t) (h2 : NodeAt Any w ds m) (hp : Ints w v p) :
    Calls Try.prog 25 #[.agg (List.toArray cs), .agg (List.toArray ds), v] w (SomeBool w) := by
  obtain ⟨a1, n1, c1, a2, n2, c2, a3, n3, c3, rfl⟩ := h1.form
  obtain ⟨d1, e1, f1, d2, e2, f2, d3, e3, f3, rfl⟩ := h2.form
  obtain ⟨av, cv, rfl⟩ := hp.slice
  obtain ⟨hbW, hx1, hx2⟩ := two_boxesN w #[.bool t.leaf, .slice a1 n1 c1, .slice a2 n2 c2, .slice a3 n3 c3] #[.bool m.leaf, .slice d1 e1 f1, .slice d2 e2 f2, .slice d3 e3 f3] 26 26
  have HN := Lib.hid (h1.boxed hbW); have HM := Lib.hid (h2.boxed hbW); have HB := Lib.hid hbW; have HX1 := Lib.hid hx1; have HX2 := Lib.hid hx2
  clear h1 h2 hp hbW hx1 hx2
  go_enter Try.func25, Try.ntmps25
  go_upto_region 1 with fail
  generalize World.alloc (World.alloc w _) _ = W at *
  obtain ⟨⟨k0, k1, k2, k3⟩, _⟩ := four_facts HX1.out
  go_wp2_with fail
  refine (fewN_any t _ Any 100 _ HN.out).mono ?_
  rintro e w1 ⟨q1, rfl, l1⟩
  have L1 := Lib.hid l1
  clear k0 k1 k2 k3 l1
  cases q1
  · go_wp2_with fail
    go_ret
    exact ⟨_, rfl, gr_tr HB.out L1.out⟩
  · obtain ⟨⟨k0, k1, k2, k3⟩, _⟩ := four_facts (blk_below HX2.out L1.out)
    go_wp2_with fail
    refine (fewN_any m _ Any 60 _ (HM.out.boxed L1.out)).mono ?_
    rintro e w2 ⟨q2, rfl, l2⟩
    have L2 := Lib.hid (gr_tr L1.out l2)
    clear k0 k1 k2 k3 l2 L1
    cases q2
    · go_wp2_with fail
      go_ret
      exact ⟨_, rfl, gr_tr HB.out L2.out⟩
    · go_wp2_with fail
      go_ret
      exact ⟨_, rfl, gr_tr HB.out L2.out⟩
end Go.Proofs.Ytdcpoeaddhbjbaa
