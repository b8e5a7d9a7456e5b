/- Walk of redlineref05.Get: a copy of the node at a path. -/
import Derived.Test.YtcbljiiomnhbjaaRCopy
import Derived.Test.YtcbljiiomnhbjaaGets
namespace Go.Proofs.Ytcbljiiomnhbjaa
set_option maxRecDepth 100000
open Go.RowKit

/-- At each round's head: the box holds the cells of the node so far. -/
def RGInv (S : Nat → Prop) (w : World) (t : Tree) (p : List Int) (k : Nat) (wr : World) : Prop :=
  ∃ (s : Tree) (l : Bool) (a1 : Option Addr) (n1 c1 : Nat) (a2 : Option Addr) (n2 c2 : Nat) (a3 : Option Addr) (c3 : Nat), NodeAt S w [.bool l, .slice a1 n1 c1, .slice a2 n2 c2, .slice a3 s.kids.length c3] s ∧ getT t p = getT s (p.drop k) ∧
    wr.heap[w.heap.size]? = some (.cells #[.bool l, .slice a1 n1 c1, .slice a2 n2 c2, .slice a3 s.kids.length c3] 27 (0, 0)) ∧ wr.heap[w.heap.size + 1]? = some (.cells #[.bool false, .slice none 0 0, .slice none 0 0, .slice none 0 0] 27 (0, 0)) ∧ Below w.heap.size w wr

theorem node_form3 {S : Nat → Prop} {w : World} {cs : List Value} {t : Tree} (h : NodeAt S w cs t) : ∃ (a1 : Option Addr) (n1 c1 : Nat) (a2 : Option Addr) (n2 c2 : Nat) (a3 : Option Addr) (c3 : Nat), cs = [.bool t.leaf, .slice a1 n1 c1, .slice a2 n2 c2, .slice a3 t.kids.length c3] := by
  obtain ⟨pv, tv, kv, es, rfl, h1, h2, h3, hl, _⟩ := h.open_
  obtain ⟨a1, c1, rfl⟩ := h1.slice
  obtain ⟨a2, c2, rfl⟩ := h2.slice
  obtain ⟨a3, c3, rfl⟩ := h3.slice
  exact ⟨a1, _, c1, a2, _, c2, a3, c3, by rw [hl]⟩
/-- A node's child, read where it lies. -/
theorem kid_of {S : Nat → Prop} {w : World} {l : Bool} {a1 : Option Addr} {n1 c1 : Nat} {a2 : Option Addr} {n2 c2 : Nat} {a3 : Option Addr} {n3 c3 : Nat} {t : Tree} (h : NodeAt S w [.bool l, .slice a1 n1 c1, .slice a2 n2 c2, .slice a3 n3 c3] t) (k : Nat) (hk : k < t.kids.length) :
    ∃ (b off : Nat) (b1 : Option Addr) (m1 d1 : Nat) (b2 : Option Addr) (m2 d2 : Nat) (b3 : Option Addr) (d3 : Nat), a3 = some ⟨b, off, none⟩ ∧ n3 ≤ c3 ∧ NodeAt S w [.bool (t.kids.getD k default).leaf, .slice b1 m1 d1, .slice b2 m2 d2, .slice b3 (t.kids.getD k default).kids.length d3] (t.kids.getD k default) ∧
      w.cell? ⟨b, off + k * 4, none⟩ = some (.bool (t.kids.getD k default).leaf) ∧ w.cell? ⟨b, off + k * 4 + 1, none⟩ = some (.slice b1 m1 d1) ∧ w.cell? ⟨b, off + k * 4 + 2, none⟩ = some (.slice b2 m2 d2) ∧ w.cell? ⟨b, off + k * 4 + 3, none⟩ = some (.slice b3 (t.kids.getD k default).kids.length d3) := by
  obtain ⟨pv, tv, kv, es, he, _, _, h3, hl, hall⟩ := h.open_
  simp only [List.cons.injEq] at he
  obtain ⟨_, _, _, rfl, _⟩ := he
  obtain ⟨b, off, l', p1, q1, r1, p2, q2, r2, p3, q3, r3, rfl, hc, hn, _, e0, e1, e2, e3⟩ := kid_at h3 hl hall k (by obtain ⟨a, c, hs⟩ := h3.slice; simp only [Value.slice.injEq] at hs; omega)
  obtain ⟨b1, m1, d1, b2, m2, d2, b3, d3, hf⟩ := node_form3 hn
  simp only [List.cons.injEq, Value.bool.injEq, Value.slice.injEq, and_true] at hf
  obtain ⟨rfl, ⟨rfl, rfl, rfl⟩, ⟨rfl, rfl, rfl⟩, rfl, rfl, rfl⟩ := hf
  exact ⟨b, off, _, _, _, _, _, _, _, _, rfl, hc, hn, e0, e1, e2, e3⟩
theorem kids_80 {S : Nat → Prop} {w : World} {cs : List Value} {t : Tree} (h : NodeAt S w cs t) : t.kids.length * 80 ≤ 140737488351232 := by
  obtain ⟨pv, tv, kv, es, rfl, _, _, h3, hl, _⟩ := h.open_
  have := h3.len
  rwa [hl] at this

end Go.Proofs.Ytcbljiiomnhbjaa
