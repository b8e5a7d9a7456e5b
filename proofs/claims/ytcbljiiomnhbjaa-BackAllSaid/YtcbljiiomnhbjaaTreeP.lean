/- Plain Lean: trees: the node at a path, a tree changed at a path. No program in sight. -/
import Derived.Test.YtcbljiiomnhbjaaTree1
namespace Go.Proofs.Ytcbljiiomnhbjaa
set_option maxRecDepth 100000
open Go.RowKit

/-- The node at a path. -/
def getT : Tree → List Int → Option Tree
  | t, [] => some t
  | t, i :: p => if 0 ≤ i ∧ i.toNat < t.kids.length then getT (t.kids.getD i.toNat default) p else none

theorem getT_nil (t : Tree) : getT t [] = some t := rfl
theorem getT_cons (t : Tree) (i : Int) (p : List Int) : getT t (i :: p) = if 0 ≤ i ∧ i.toNat < t.kids.length then getT (t.kids.getD i.toNat default) p else none := rfl
theorem getT_append : ∀ (t : Tree) (p q : List Int), getT t (p ++ q) = (getT t p).bind fun s => getT s q
  | t, [], q => rfl
  | t, i :: p, q => by
    rw [List.cons_append, getT_cons, getT_cons]
    split
    · exact getT_append _ p q
    · rfl

/-- Where the cells of the node at a path lie: from those at b, o on. -/
inductive Focus (w : World) : Nat → Nat → Tree → List Int → Nat → Nat → Tree → Prop
  | nil (b o : Nat) (t : Tree) : Focus w b o t [] b o t
  | cons {b o g off n c b' o' : Nat} {l pv tv : Value} {t s : Tree} {i : Int} {p : List Int} (hr : w.rangeAt b o [l, pv, tv, .slice (some ⟨g, off, none⟩) n c]) (h0 : 0 ≤ i) (hi : i.toNat < n) (hn : n = t.kids.length)
      (h : Focus w g (off + i.toNat * 4) (t.kids.getD i.toNat default) p b' o' s) : Focus w b o t (i :: p) b' o' s

theorem Focus.trans {w : World} {b o b1 o1 b2 o2 : Nat} {t s u : Tree} {p q : List Int} (h : Focus w b o t p b1 o1 s) (k : Focus w b1 o1 s q b2 o2 u) : Focus w b o t (p ++ q) b2 o2 u := by
  induction h with
  | nil => exact k
  | cons hr h0 hi hn _ ih => exact .cons hr h0 hi hn (ih k)
theorem Focus.get {w : World} {b o b1 o1 : Nat} {t s : Tree} {p : List Int} (h : Focus w b o t p b1 o1 s) : getT t p = some s := by
  induction h with
  | nil => rfl
  | cons hr h0 hi hn _ ih => rw [getT_cons, if_pos ⟨h0, by omega⟩]; exact ih

/-- A node's cells lie here. -/
def Here (S : Nat → Prop) (w : World) (b o : Nat) (t : Tree) : Prop := ∃ cs, w.rangeAt b o cs ∧ NodeAt S w cs t

theorem Here.form {S : Nat → Prop} {w : World} {b o : Nat} {t : Tree} (h : Here S w b o t) : ∃ a1 n1 c1 a2 c2 a3 c3, w.rangeAt b o [.bool t.leaf, .slice a1 n1 c1, .slice a2 t.text.length c2, .slice a3 t.kids.length c3] ∧
    NodeAt S w [.bool t.leaf, .slice a1 n1 c1, .slice a2 t.text.length c2, .slice a3 t.kids.length c3] t ∧ (0 < t.kids.length → ∃ g off, a3 = some ⟨g, off, none⟩ ∧ ∀ i, i < t.kids.length → Here S w g (off + i * 4) (t.kids.getD i default)) ∧ t.kids.length ≤ c3 := by
  obtain ⟨cs, hr, hn⟩ := h
  cases hn with
  | @mk l ps xs ks pv tv kv es hp ht hk hl hall =>
    have hnode := NodeAt.mk (l := l) hp ht hk hl hall
    obtain ⟨a1, c1, rfl⟩ := hp.slice
    obtain ⟨a2, c2, rfl⟩ := ht.slice
    obtain ⟨a3, c3, rfl⟩ := hk.slice
    rw [hl] at hr hk hnode
    simp only [List.length_map] at hr hnode
    refine ⟨a1, ps.length, c1, a2, c2, a3, c3, hr, hnode, fun hp0 => ?_, ?_⟩
    · obtain ⟨g, off, rfl, hcc, _⟩ := hk.at_ 0 hp0
      refine ⟨g, off, rfl, fun i hi => ⟨es.getD i [], ?_, hall i hi⟩⟩
      obtain ⟨g', off', he, _, _, hr', _⟩ := hk.at_ i hi
      simp only [Option.some.injEq, Addr.mk.injEq] at he
      obtain ⟨rfl, rfl, _⟩ := he
      exact hr'
    · obtain ⟨a, c, he, h2, _⟩ := hk
      simp only [Value.slice.injEq] at he
      obtain ⟨_, h3, rfl⟩ := he
      show ks.length ≤ c3
      omega
theorem Here.later {S : Nat → Prop} {B : Nat} {w w' : World} {b o : Nat} {t : Tree} (h : Here S w b o t) (hb : Below B w w') (hB : w.heap.size ≤ B) : Here S w' b o t := by
  obtain ⟨cs, hr, hn⟩ := h
  exact ⟨cs, range_below hr hb hB, hn.later hb hB⟩
theorem Focus.later {B : Nat} {w w' : World} {b o b1 o1 : Nat} {t s : Tree} {p : List Int} (h : Focus w b o t p b1 o1 s) (hb : Below B w w') (hB : w.heap.size ≤ B) : Focus w' b o t p b1 o1 s := by
  induction h with
  | nil => exact .nil _ _ _
  | cons hr h0 hi hn _ ih => exact .cons (range_below hr hb hB) h0 hi hn ih
/-- A box of a node. -/
theorem Here.box {S : Nat → Prop} {w : World} {cs : List Value} {t : Tree} (h : NodeAt S w cs t) (ty : TypeId) : Here S (w.alloc (.cells cs.toArray ty)) w.heap.size 0 t := by
  refine ⟨cs, fun j v hj => ?_, h.alloc _⟩
  rw [cell_of_row _ w.heap.size (0 + j) _ _ (0, 0) (heap_alloc_new w _)]
  simpa using hj
end Go.Proofs.Ytcbljiiomnhbjaa
