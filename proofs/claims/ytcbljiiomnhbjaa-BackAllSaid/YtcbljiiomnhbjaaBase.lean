/- Words on memory that the walks of this seat share: a slice value that reads as a list of integers; its laws. No program in sight. -/
import Derived.WalkKit
import Derived.WalkSpells
import Derived.Deep.QuietTactic
import Derived.BigQuiet
import Derived.Lib.Hide
namespace Go.Proofs.Ytcbljiiomnhbjaa
set_option maxRecDepth 100000
open Go.RowKit

/-- Integers that an int64 holds. -/
def I64 (xs : List Int) : Prop := ∀ x ∈ xs, -9223372036854775808 ≤ x ∧ x ≤ 9223372036854775807

/-- A slice of ints, in memory w. -/
def Ints (w : World) (v : Value) (xs : List Int) : Prop :=
  ∃ (a : Option Addr) (cap : Nat), v = .slice a xs.length cap ∧ xs.length ≤ cap ∧ cap ≤ maxLen ∧ xs.length * 8 ≤ 140737488351232 ∧
    (0 < cap → ∃ b off, a = some ⟨b, off, none⟩ ∧ ∀ j, j < xs.length → w.cell? ⟨b, off + j, none⟩ = some (.int .i64 (xs.getD j 0)))

/-- The world but for draws. -/
def Same (w w' : World) : Prop := ∃ n, w' = w.drewN n

theorem Same.refl (w : World) : Same w w := ⟨0, rfl⟩
theorem Same.trans {a b c : World} (h : Same a b) (k : Same b c) : Same a c := by
  obtain ⟨n, rfl⟩ := h
  obtain ⟨m, rfl⟩ := k
  exact ⟨n + m, by rw [World.drewN_drewN]⟩
theorem Same.drew {a b : World} (h : Same a b) : Same a b.drew := h.trans ⟨1, rfl⟩
theorem Same.drewN {a b : World} (h : Same a b) (n : Nat) : Same a (b.drewN n) := h.trans ⟨n, rfl⟩

theorem drewN_heap (w : World) (n : Nat) : (w.drewN n).heap = w.heap := by simp [World.drewN]
theorem drewN_cell (w : World) (n : Nat) (a : Addr) : (w.drewN n).cell? a = w.cell? a := by simp [World.cell?]

theorem below_drewN {B : Nat} {a w : World} (h : Below B a w) (n : Nat) : Below B a (w.drewN n) := by
  refine h.trans ⟨?_, ?_, ?_, ?_, fun k _ => ?_⟩ <;> simp [World.drewN]

theorem Same.below {w w' : World} (h : Same w w') (B : Nat) : Below B w w' := by
  obtain ⟨n, rfl⟩ := h
  exact below_drewN (Below.refl _ _) n

theorem Ints.len {w : World} {v : Value} {xs : List Int} (h : Ints w v xs) : xs.length * 8 ≤ 140737488351232 := by
  obtain ⟨a, cap, _, _, _, h1, _⟩ := h
  exact h1

/-- What is read in w is read where w's blocks are still as they were. -/
theorem Ints.below {B : Nat} {w w' : World} {v : Value} {xs : List Int} (h : Ints w v xs) (hb : Below B w w') (hB : w.heap.size ≤ B) : Ints w' v xs := by
  obtain ⟨a, cap, h1, h2, hm, h3, h5⟩ := h
  refine ⟨a, cap, h1, h2, hm, h3, fun hp => ?_⟩
  obtain ⟨b, off, rfl, hc⟩ := h5 hp
  refine ⟨b, off, rfl, fun j hj => ?_⟩
  have := hc j hj
  rw [← this]
  exact hb.cell (p := ⟨b, off + j, none⟩) (Nat.lt_of_lt_of_le (World.block_lt_of_cell? w _ this) hB)

theorem Ints.same {w w' : World} {v : Value} {xs : List Int} (h : Ints w v xs) (hs : Same w w') : Ints w' v xs :=
  h.below (hs.below _) (Nat.le_refl _)

theorem Same.cell {w w' : World} (h : Same w w') (a : Addr) : w'.cell? a = w.cell? a := by
  obtain ⟨n, rfl⟩ := h
  exact drewN_cell _ _ _

theorem Same.size {w w' : World} (h : Same w w') : w'.heap.size = w.heap.size := by
  obtain ⟨n, rfl⟩ := h
  rw [drewN_heap]

/-- An element is there: the address is one. -/
theorem Ints.open_ {w : World} {v : Value} {xs : List Int} (h : Ints w v xs) :
    ∃ a cap, v = .slice a xs.length cap ∧ xs.length ≤ cap ∧ xs.length * 8 ≤ 140737488351232 ∧
      (0 < xs.length → ∃ b off, a = some ⟨b, off, none⟩ ∧ ∀ j, j < xs.length → w.cell? ⟨b, off + j, none⟩ = some (.int .i64 (xs.getD j 0))) := by
  obtain ⟨a, cap, h1, h2, _, h3, h5⟩ := h
  exact ⟨a, cap, h1, h2, h3, fun hp => h5 (by omega)⟩

theorem Ints.slice {w : World} {v : Value} {xs : List Int} (h : Ints w v xs) : ∃ a cap, v = .slice a xs.length cap := by
  obtain ⟨a, cap, rfl, _⟩ := h
  exact ⟨a, cap, rfl⟩
theorem Ints.slice3 {w : World} {v : Value} {xs : List Int} (h : Ints w v xs) : ∃ a n cap, v = .slice a n cap := by
  obtain ⟨a, cap, rfl, _⟩ := h
  exact ⟨a, _, cap, rfl⟩
theorem Ints.slice_len {w : World} {v : Value} {xs : List Int} {n : Nat} (h : Ints w v xs) (hn : xs.length = n) : ∃ a cap, v = .slice a n cap := by
  obtain ⟨a, cap, h, _⟩ := h
  exact ⟨a, cap, by rw [h, hn]⟩

theorem sm_below {w w' : World} (h : Same w w') : Below w.heap.size w w' := h.below _

/-- Chains of 'below the heap's size at the start nothing has turned'. -/
theorem gr_refl (w : World) : Below w.heap.size w w := Below.refl _ _
theorem gr_tr {a b c : World} (h : Below a.heap.size a b) (k : Below b.heap.size b c) : Below a.heap.size a c := h.trans (k.mono h.size)
theorem gr_al {a b : World} (h : Below a.heap.size a b) (o : Obj) : Below a.heap.size a (b.alloc o) := h.alloc h.size o
theorem gr_sm {a b c : World} (h : Below a.heap.size a b) (k : Same b c) : Below a.heap.size a c := h.trans (k.below _)
theorem gr_dr {a b : World} (h : Below a.heap.size a b) : Below a.heap.size a b.drew := h.drew
theorem gr_dn {a b : World} (h : Below a.heap.size a b) (n : Nat) : Below a.heap.size a (b.drewN n) := below_drewN h n

end Go.Proofs.Ytcbljiiomnhbjaa
