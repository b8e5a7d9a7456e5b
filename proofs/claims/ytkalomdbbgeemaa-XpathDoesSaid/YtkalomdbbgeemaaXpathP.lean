/- Plain Lean: where a path goes by an operation. -/
import Derived.Test.YtkalomdbbgeemaaXpath1
namespace Go.Proofs.Ytkalomdbbgeemaa
open Go.RowKit

/-- Where a path's node goes; none: it is taken out, or may not be asked. -/
def moveP (p : List Int) (kind : Int) (q to : List Int) (pos : Int) : Option (List Int) :=
  if smallB p = true ∧ smallB q = true ∧ smallB to = true ∧ smallB [pos] = true then
    if q.length = 0 then some p
    else if kind = 1 then some (insL p q)
    else if kind = 2 then (if standsN q p = 3 ∨ standsN q p = 2 then none else if standsN q p = 1 then some (shiftL p (q.length - 1) (-1)) else some p)
    else if kind = 3 then (if q.getD (q.length - 1) 0 = 0 then none else if standsN q p = 2 then some (shiftL (shiftL p q.length pos) (q.length - 1) (-1)) else if standsN q p = 3 ∨ standsN q p = 1 then some (shiftL p (q.length - 1) (-1)) else some p)
    else if kind = 4 then (if standsN q p = 2 ∧ pos ≤ p.getD q.length 0 then some (shiftL (shiftL p q.length (-pos)) (q.length - 1) 1) else if standsN q p = 1 then some (shiftL p (q.length - 1) 1) else some p)
    else if kind = 5 then (if standsN q p = 3 ∨ standsN q p = 2 then some (to ++ p.drop q.length) else if standsN q p = 1 then some (insL (shiftL p (q.length - 1) (-1)) to) else some (insL p to))
    else some p
  else none

/-- What Move gives. -/
def Mv (m : Option (List Int)) (w : World) (e : Ending) (w' : World) : Prop :=
  ∃ v', e = .returned (.tuple #[v', .bool m.isSome]) ∧ Own w' w.heap.size v' (m.getD []) ∧ Below w.heap.size w w'

theorem Mv.none_ {m : Option (List Int)} {w w' : World} (hm : m = none) (hb : Below w.heap.size w w') : Mv m w (.returned (.tuple #[.slice none 0 0, .bool false])) w' := by
  subst hm
  exact ⟨_, rfl, Own.nil _ _, hb⟩
theorem Mv.some_ {m : Option (List Int)} {l : List Int} {w w' : World} {v : Value} (hm : m = some l) (h : Own w' w.heap.size v l) (hb : Below w.heap.size w w') : Mv m w (.returned (.tuple #[v, .bool true])) w' := by
  subst hm
  exact ⟨v, rfl, h, hb⟩

/-- An operation's value: its kind, paths and place; the other cells are what they are. -/
def OpAt (w : World) (v : Value) (kind : Int) (path to : List Int) (pos : Int) : Prop :=
  ∃ pv tv r4 r5 r6 r7 r8 r9 r10 r11 r12 r13 r14 r15 r16 r17 r18 r19 r20 : Value,
    v = .agg #[.int .i64 kind, pv, tv, .int .i64 pos, r4, r5, r6, r7, r8, r9, r10, r11, r12, r13, r14, r15, r16, r17, r18, r19, r20] ∧ Ints w pv path ∧ Ints w tv to

theorem box_cell (w : World) (cs : Array Value) (t : TypeId) (o : Obj) (i : Nat) (x : Value) (h : cs[i]? = some x) : ((w.alloc (.cells cs t)).alloc o).cell? ⟨w.heap.size, i, none⟩ = some x := by
  rw [cell_of_row _ w.heap.size i cs t (0, 0) (by rw [Below.heap_alloc _ _ _ (by simp)]; exact heap_alloc_new w _), h]

theorem small_get {xs : List Int} (h : smallB xs = true) (i : Nat) : 0 ≤ xs.getD i 0 ∧ xs.getD i 0 ≤ 1048576 := by
  rcases Nat.lt_or_ge i xs.length with hi | hi
  · have := smallB_iff.1 h _ (List.getElem_mem hi)
    simpa [List.getD, hi] using this
  · simp [List.getD, hi]
theorem shift_len (xs : List Int) (i : Nat) (n : Int) : (shiftL xs i n).length = xs.length := by simp [shiftL]
theorem shift_get_ne {xs : List Int} {i j : Nat} {n : Int} (h : i ≠ j) : (shiftL xs i n).getD j 0 = xs.getD j 0 := by simp [shiftL, List.getD, h]
theorem shift_get_eq {xs : List Int} {i : Nat} {n : Int} (h : i < xs.length) : (shiftL xs i n).getD i 0 = xs.getD i 0 + n := by simp [shiftL, h]

/-- Is it above, then it is shorter. -/
theorem stands_above_lt {q p : List Int} (h : standsN q p = 2) : q.length < p.length := by
  unfold standsN at h
  split at h
  · omega
  · split at h
    · omega
    · split at h
      · rename_i ha; rw [aboveB_iff] at ha; exact ha.1
      · split at h <;> omega
theorem stands_range (q p : List Int) : standsN q p = 0 ∨ standsN q p = 1 ∨ standsN q p = 2 ∨ standsN q p = 3 := by
  unfold standsN
  split
  · simp
  · split
    · simp
    · split
      · simp
      · split <;> simp

end Go.Proofs.Ytkalomdbbgeemaa
