/- Walks of package trail: Levels. -/
import Derived.Test.YtdcpoeaddhbjbaaTrail4
import Derived.Test.YtdcpoeaddhbjbaaRow
namespace Go.Proofs.Ytdcpoeaddhbjbaa
set_option maxRecDepth 100000
open Go.RowKit

theorem info_ints : (Try.prog.info? 27).map (fun i => (i.zero, i.size, i.bytes)) = some (some (.slice none 0 0), 1, 24) := by kernel_rfl

theorem Own.below {w w' : World} {B C : Nat} {v : Value} {xs : List Int} (h : Own w B v xs) (hb : Below C w w') (hC : w.heap.size ≤ C) : Own w' B v xs := ⟨row_below h.1 hb hC, h.2⟩
theorem Own.mono {w : World} {B C : Nat} {v : Value} {xs : List Int} (h : Own w B v xs) (hC : C ≤ B) : Own w C v xs := ⟨row_mono h.1 hC, h.2⟩
theorem Own.setBelow {w : World} {B : Nat} {v : Value} {xs : List Int} (h : Own w B v xs) {a : Addr} (ha : a.block < B) (u : Value) : Own (w.setCell a u) B v xs := ⟨ownsRow_setCell_below h.1 ha u, h.2⟩

/-- A slice of slices of ints, all of the call's own. -/
def OwnL (w : World) (B : Nat) (v : Value) (xss : List (List Int)) : Prop :=
  ∃ vs : List Value, w.ownsRow B 27 1 v xss.length vs ∧ ∀ j, j < xss.length → Own w B (vs.getD j (.slice none 0 0)) (xss.getD j [])

/-- A path's levels. -/
def levelsL (xs : List Int) : List (List Int) := (List.range (xs.length + 1)).map fun i => xs.take i

/-- What holds behind k rounds. -/
def LevRel (w wr : World) (xs : List Int) (k : Nat) : Prop :=
  ∃ vs : List Value, wr.ownsRow w.heap.size 27 1 (.slice (some ⟨w.heap.size, 0, none⟩) (xs.length + 1) (xs.length + 1)) (xs.length + 1) vs ∧
    (∀ j, j < k → Own wr (w.heap.size + 1) (vs.getD j (.slice none 0 0)) (xs.take j)) ∧ w.heap.size < wr.heap.size ∧ Below w.heap.size w wr

theorem LevRel.step {w wr w2 : World} {xs : List Int} {k : Nat} {v : Value} (h : LevRel w wr xs k) (hk : k < xs.length + 1) (ho : Own w2 wr.heap.size v (xs.take k)) (hb : Below wr.heap.size wr w2) :
    LevRel w (w2.setCell ⟨w.heap.size, k, none⟩ v) xs (k + 1) := by
  obtain ⟨vs, h1, h2, h3, h4⟩ := h
  obtain ⟨g, cap, hv, hcap, hg1, hg2, hcell, hfr, hset⟩ := row_at (row_below h1 hb (Nat.le_refl _)) k hk
  simp only [Value.slice.injEq, Option.some.injEq, Addr.mk.injEq] at hv
  obtain ⟨⟨rfl, _⟩, _, rfl⟩ := hv
  have hs := hb.size
  have hvl : vs.length = xs.length + 1 := by simpa using h1.1
  refine ⟨vs.set k v, (hset v).1, fun j hj => ?_, by simpa [World.setCell] using Nat.lt_of_lt_of_le h3 hs, (h4.trans (hb.mono (Nat.le_of_lt h3))).trans (hset v).2⟩
  by_cases hjk : j = k
  · subst hjk
    rw [show (vs.set j v).getD j (.slice none 0 0) = v from by simp [List.getD, show j < vs.length by omega]]
    exact (ho.mono h3).setBelow (a := ⟨w.heap.size, j, none⟩) (Nat.lt_succ_self _) v
  · rw [show (vs.set k v).getD j (.slice none 0 0) = vs.getD j (.slice none 0 0) from by simp [List.getD, show ¬ k = j by omega]]
    exact ((h2 j (by omega)).below hb (Nat.le_refl _)).setBelow (a := ⟨w.heap.size, k, none⟩) (Nat.lt_succ_self _) v

theorem LevRel.done {w wr : World} {xs : List Int} (h : LevRel w wr xs (xs.length + 1)) :
    OwnL wr w.heap.size (.slice (some ⟨w.heap.size, 0, none⟩) (xs.length + 1) (xs.length + 1)) (levelsL xs) ∧ Below w.heap.size w wr := by
  obtain ⟨vs, h1, h2, h3, h4⟩ := h
  refine ⟨⟨vs, by simpa [levelsL] using h1, fun j hj => ?_⟩, h4⟩
  have hj' : j < xs.length + 1 := by simpa [levelsL] using hj
  rw [show (levelsL xs).getD j [] = xs.take j from by simp [levelsL, List.getD, hj']]
  exact (h2 j hj').mono (Nat.le_succ _)

end Go.Proofs.Ytdcpoeaddhbjbaa
