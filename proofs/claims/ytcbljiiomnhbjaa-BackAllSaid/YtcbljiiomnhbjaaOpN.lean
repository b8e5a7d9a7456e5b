/- An operation's value all of whose slices lie in blocks from B on. -/
import Derived.Test.YtcbljiiomnhbjaaBForm
import Derived.Test.YtcbljiiomnhbjaaTree1
namespace Go.Proofs.Ytcbljiiomnhbjaa
set_option maxRecDepth 100000
open Go.RowKit

theorem own_keepB {w w' : World} {B : Nat} {v : Value} {xs : List Int} (h : Own w B v xs) (hk : ∀ b, B ≤ b → w'.heap[b]? = w.heap[b]?) : Own w' B v xs := by
  refine ⟨⟨h.1.1, ?_⟩, h.2⟩
  rcases h.1.2 with h2 | ⟨g, cap, cur, hv, hg, hh, r⟩
  · exact .inl h2
  · exact .inr ⟨g, cap, cur, hv, hg, by rw [hk g hg]; exact hh, r⟩
structure OpOw (w : World) (B : Nat) (o : OpF) (v1 v2 : Value) (nc : List Value) (v5 v6 v7 f1 f2 i1 i2 : Value) : Prop where
  path : Own w B v1 o.path
  dest : Own w B v2 o.dest
  node : Tr w (fun b => B ≤ b) nc o.node
  old : OwnSl w B 90 2 32 v5 (o.old.map propCells)
  new : OwnSl w B 90 2 32 v6 (o.new.map propCells)
  text : OwnSl w B 21 1 4 v7 (o.text.map runeCells)
  fa : Own w B f1 o.from_.2.1.1
  fb : Own w B f2 o.from_.2.2.1
  ia : Own w B i1 o.into.2.1.1
  ib : Own w B i2 o.into.2.2.1
theorem OpOw.keep {w w' : World} {B : Nat} {o : OpF} {v1 v2 : Value} {nc : List Value} {v5 v6 v7 f1 f2 i1 i2 : Value} (h : OpOw w B o v1 v2 nc v5 v6 v7 f1 f2 i1 i2) (hk : ∀ b, B ≤ b → b < w.heap.size → w'.heap[b]? = w.heap[b]?) : OpOw w' B o v1 v2 nc v5 v6 v7 f1 f2 i1 i2 := by
  have ko : ∀ {v : Value} {xs : List Int}, Own w B v xs → Own w' B v xs := fun h => by
    refine ⟨⟨h.1.1, ?_⟩, h.2⟩
    rcases h.1.2 with h2 | ⟨g, cap, cur, hv, hg, hh, r⟩
    · exact .inl h2
    · exact .inr ⟨g, cap, cur, hv, hg, by rw [hk g hg (lt_of_block hh)]; exact hh, r⟩
  have ks : ∀ {e : TypeId} {s bs : Nat} {v : Value} {es : List (List Value)}, OwnSl w B e s bs v es → OwnSl w' B e s bs v es := fun h => h.keep fun g hg => hk g (h.lt g hg).1 (h.lt g hg).2
  exact ⟨ko h.path, ko h.dest, ((h.node.there).keep fun b hb => hk b hb.1 hb.2).weaken fun b hb => hb.1, ks h.old, ks h.new, ks h.text, ko h.fa, ko h.fb, ko h.ia, ko h.ib⟩
theorem OpOw.rd {w : World} {B : Nat} {o : OpF} {v1 v2 : Value} {nc : List Value} {v5 v6 v7 f1 f2 i1 i2 : Value} (h : OpOw w B o v1 v2 nc v5 v6 v7 f1 f2 i1 i2) : OpRd w o v1 v2 nc v5 v6 v7 f1 f2 i1 i2 :=
  ⟨h.path.ints, h.dest.ints, h.node.nodeAt.weaken fun _ _ => trivial, (h.old.sl (by decide)).weaken fun _ _ => trivial, (h.new.sl (by decide)).weaken fun _ _ => trivial, (h.text.sl (by decide)).weaken fun _ _ => trivial, h.fa.ints, h.fb.ints, h.ia.ints, h.ib.ints⟩
def OpN (w : World) (B : Nat) (v : Value) (o : OpF) : Prop :=
  ∃ a1 c1 a2 c2 p1 m1 d1 p2 m2 d2 p3 m3 d3 a5 c5 a6 c6 a7 c7 f1 g1 h1 f2 g2 h2 i1 j1 k1 i2 j2 k2,
    v = .agg (List.toArray (opC o.kind a1 o.path.length c1 a2 o.dest.length c2 o.pos o.node.leaf p1 m1 d1 p2 m2 d2 p3 m3 d3 a5 o.old.length c5 a6 o.new.length c6 a7 o.text.length c7 o.from_.1 f1 g1 h1 o.from_.2.1.2 f2 g2 h2 o.from_.2.2.2 o.into.1 i1 j1 k1 o.into.2.1.2 i2 j2 k2 o.into.2.2.2)) ∧
    OpOw w B o (.slice a1 o.path.length c1) (.slice a2 o.dest.length c2) [.bool o.node.leaf, .slice p1 m1 d1, .slice p2 m2 d2, .slice p3 m3 d3] (.slice a5 o.old.length c5) (.slice a6 o.new.length c6) (.slice a7 o.text.length c7) (.slice f1 g1 h1) (.slice f2 g2 h2) (.slice i1 j1 k1) (.slice i2 j2 k2)
theorem OpN.opV {w : World} {B : Nat} {v : Value} {o : OpF} (h : OpN w B v o) : OpV w v o := by
  obtain ⟨a1, c1, a2, c2, p1, m1, d1, p2, m2, d2, p3, m3, d3, a5, c5, a6, c6, a7, c7, f1, g1, h1, f2, g2, h2, i1, j1, k1, i2, j2, k2, rfl, hr⟩ := h
  exact ⟨a1, c1, a2, c2, p1, m1, d1, p2, m2, d2, p3, m3, d3, a5, c5, a6, c6, a7, c7, f1, g1, h1, f2, g2, h2, i1, j1, k1, i2, j2, k2, rfl, hr.rd⟩
/-- What back.own hands back. -/
def OwnP (o : OpF) (w : World) (e : Ending) (w' : World) : Prop := ∃ cs : Array Value, e = .returned (.agg cs) ∧ OpN w' w.heap.size (.agg cs) o ∧ Below w.heap.size w w'
end Go.Proofs.Ytcbljiiomnhbjaa
