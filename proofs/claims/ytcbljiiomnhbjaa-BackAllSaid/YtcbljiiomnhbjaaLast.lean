/- Walks of point.First, point.Last. -/
import Derived.Test.YtcbljiiomnhbjaaEdge
import Derived.Deep.RegionHeld3
namespace Go.Proofs.Ytcbljiiomnhbjaa
set_option maxRecDepth 100000
open Go.RowKit

/-- The paths of a tree's leaves. -/
abbrev leavesL (t : Tree) : List (List Int) := pathsL Tree.leaf t []

theorem leavesL_i64 (t : Tree) (hs : sizeT t ≤ 1500000) : ∀ p ∈ leavesL t, I64 p := pathsL_i64 Tree.leaf t [] (by omega) (fun x hx => by simp at hx)
theorem leavesL_len (t : Tree) (hs : sizeT t ≤ 1500000) : (leavesL t).length * 24 ≤ 140737488351232 := by
  have := pathsL_len Tree.leaf t []
  show (pathsL Tree.leaf t []).length * 24 ≤ _
  omega

/-- Four cells of a node's box. -/
def NF (g : Nat) (x0 x1 x2 x3 : Value) (w : World) : Prop := w.cell? ⟨g, 0, none⟩ = some x0 ∧ w.cell? ⟨g, 1, none⟩ = some x1 ∧ w.cell? ⟨g, 2, none⟩ = some x2 ∧ w.cell? ⟨g, 3, none⟩ = some x3
theorem NF.of {w : World} {g : Nat} {x0 x1 x2 x3 : Value} {t : TypeId} (h : w.heap[g]? = some (.cells #[x0, x1, x2, x3] t (0, 0))) : NF g x0 x1 x2 x3 w := (four_facts h).1
theorem NF.later {w w' : World} {g : Nat} {x0 x1 x2 x3 : Value} (h : NF g x0 x1 x2 x3 w) (hb : Below w.heap.size w w') : NF g x0 x1 x2 x3 w' := by
  obtain ⟨h0, h1, h2, h3⟩ := h
  have cb := (box3 hb (g := g) (World.block_lt_of_cell? w _ h0)).1
  exact ⟨by rw [cb, h0], by rw [cb, h1], by rw [cb, h2], by rw [cb, h3]⟩
theorem NF.put2 {w : World} {g b : Nat} {x0 x1 x2 x3 u0 u1 : Value} (h : NF g x0 x1 x2 x3 w) (hne : b ≠ g) : NF g x0 x1 x2 x3 (put2 w b u0 u1) := by
  obtain ⟨h0, h1, h2, h3⟩ := h
  have hc : ∀ i, (_root_.Go.Proofs.Ytcbljiiomnhbjaa.put2 w b u0 u1).cell? ⟨g, i, none⟩ = w.cell? ⟨g, i, none⟩ := fun i => World.cell?_of_block (a := ⟨g, i, none⟩) (by simp [World.setCell, Array.getElem?_modify, hne])
  exact ⟨by rw [hc, h0], by rw [hc, h1], by rw [hc, h2], by rw [hc, h3]⟩

theorem OwnKeep.put2 {w : World} {B g : Nat} {v : Value} {xs : List Int} {u0 u1 : Value} (h : Own w B v xs) (hg : g < B) : Own (put2 w g u0 u1) B v xs :=
  (h.setBelow (a := ⟨g, 0, none⟩) hg u0).setBelow (a := ⟨g, 1, none⟩) hg u1

end Go.Proofs.Ytcbljiiomnhbjaa
