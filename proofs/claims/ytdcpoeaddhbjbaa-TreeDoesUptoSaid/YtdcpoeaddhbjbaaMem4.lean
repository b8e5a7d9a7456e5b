/- Laws on memory: copy and clear at elements of many cells; what a store of many cells makes of a block. -/
import Derived.Test.YtdcpoeaddhbjbaaUpd
import Derived.Laws.IdiomCopy
import Derived.ArgAppend
namespace Go.Proofs.Ytdcpoeaddhbjbaa
set_option maxRecDepth 100000
open Go.RowKit

/-- 'copy' of elements of many cells, in terms of cells alone. -/
theorem run_copy_cellsN {P : Program} (w : World) (dT sT ty elem : TypeId) (size b o dLen dCap : Nat) (a : Addr) (sLen sCap : Nat) (cs : List Value)
    (hu : P.underlying dT = some (.slice elem)) (hs : (P.info? elem).map (·.size) = some size) (hn : cs.length = Nat.min sLen dLen * size)
    (hsrc : ∀ j v, cs[j]? = some v → w.cell? (a.add j) = some v) (hc : ∀ j, j < cs.length → (w.cell? ⟨b, o + j, none⟩).isSome = true) (hf : ∀ j, j < cs.length → w.frozen? ⟨b, o + j, none⟩ = false) (h1 : ∀ v ∈ cs, v.oneCell' = true) :
    (Builtin.copy_ #[dT, sT] ty #[.slice (some ⟨b, o, none⟩) dLen dCap, .slice (some a) sLen sCap]).run P w = .ok (goInt (Nat.min sLen dLen)) (w.setCells b o cs) := by
  have hfc := run_firstCells_some (P := P) w size (Nat.min sLen dLen) a sLen sCap cs hn hsrc
  have hst := run_storeCells_cells (P := P) b o cs 0 w (by simpa using hc) (by simpa using hf) h1
  cases hq : P.info? elem with
  | none => simp [hq] at hs
  | some i =>
    have hi : i.size = size := by simpa [hq] using hs
    subst hi
    simp only [Nat.min_def] at hfc ⊢
    simp [Builtin.copy_, run_underlying hu, Builtin.lenOf, sizeOf, typeInfo, hq, Nat.min_def, hfc, hst]

/-- 'clear' of one element of many cells. -/
theorem run_clear_one {P : Program} (w : World) (t e ty : TypeId) (z : Value) (zs : List Value) (ht : P.underlying t = some (.slice e)) (hv : ∀ w, (zeroValue e).run P w = .ok z w) (hz : (Builtin.zeroCells z.cells 1).toList = zs) (h1 : ∀ v ∈ zs, v.oneCell' = true) (b o c : Nat)
    (hc : ∀ j, j < zs.length → (w.cell? ⟨b, o + j, none⟩).isSome = true) (hf : ∀ j, j < zs.length → w.frozen? ⟨b, o + j, none⟩ = false) :
    (Builtin.clear_ #[t] ty #[.slice (some ⟨b, o, none⟩) 1 c]).run P w = .ok (.tuple #[]) (w.setCells b o zs) := by
  have hst := run_storeCells_cells (P := P) b o zs 0 w (by simpa using hc) (by simpa using hf) h1
  simp only [Nat.add_zero] at hst
  simp [Builtin.clear_, run_underlying ht, hv, hz, hst]

theorem setCells_other (b : Nat) : ∀ (vs : List Value) (o : Nat) (w : World) (x : Nat), x ≠ b → (w.setCells b o vs).heap[x]? = w.heap[x]?
  | [], _, _, _, _ => rfl
  | v :: r, o, w, x, h => by rw [World.setCells, setCells_other b r _ _ x h]; exact Below.heap_setCell _ _ _ _ h
theorem setCells_size (b : Nat) : ∀ (vs : List Value) (o : Nat) (w : World), (w.setCells b o vs).heap.size = w.heap.size
  | [], _, _ => rfl
  | v :: r, o, w => by rw [World.setCells, setCells_size b r]; simp [World.setCell]
theorem setCells_below {B : Nat} {a : World} (b : Nat) (hb : B ≤ b) : ∀ (vs : List Value) (o : Nat) (w : World), Below B a w → Below B a (w.setCells b o vs)
  | [], _, _, h => h
  | v :: r, o, w, h => by rw [World.setCells]; exact setCells_below b hb r _ _ (h.setCell (p := ⟨b, o, none⟩) hb v)
theorem setCell_block {w : World} {b o : Nat} {v : Value} {cur : Array Value} {ty : TypeId} {fr : Nat × Nat} (h : w.heap[b]? = some (.cells cur ty fr)) : (w.setCell ⟨b, o, none⟩ v).heap[b]? = some (.cells (cur.setIfInBounds o v) ty fr) := by
  have hl := lt_of_block h
  have h' : w.heap[b] = .cells cur ty fr := by simpa [Array.getElem?_eq_getElem hl] using h
  show (w.heap.modify b _)[b]? = _
  rw [Array.getElem?_eq_getElem (by simpa using hl), Array.getElem_modify_self, h']
  rfl
theorem setCells_block (b : Nat) : ∀ (vs : List Value) (o : Nat) (w : World) (cur : Array Value) (ty : TypeId) (fr : Nat × Nat), w.heap[b]? = some (.cells cur ty fr) → o + vs.length ≤ cur.size →
    ∃ cur' : Array Value, (w.setCells b o vs).heap[b]? = some (.cells cur' ty fr) ∧ cur'.size = cur.size ∧ ∀ j, cur'.toList[j]? = if o ≤ j ∧ j < o + vs.length then vs[j - o]? else cur.toList[j]?
  | [], o, w, cur, ty, fr, h, _ => ⟨cur, h, rfl, fun j => by rw [if_neg (by simp)]⟩
  | v :: r, o, w, cur, ty, fr, h, hl => by
    rw [List.length_cons] at hl
    obtain ⟨cur', h1, h2, h3⟩ := setCells_block b r (o + 1) (w.setCell ⟨b, o, none⟩ v) (cur.setIfInBounds o v) ty fr (setCell_block h) (by simp; omega)
    refine ⟨cur', h1, by simpa using h2, fun j => ?_⟩
    rw [h3 j, Array.toList_setIfInBounds]
    by_cases hj : j = o
    · subst hj
      rw [if_neg (by omega), if_pos (by simp), List.getElem?_set_self (by simp; omega)]
      simp
    · by_cases hin : o + 1 ≤ j ∧ j < o + 1 + r.length
      · rw [if_pos hin, if_pos (by simp; omega)]
        rw [show j - o = (j - (o + 1)) + 1 by omega]
        simp
      · rw [if_neg hin, if_neg (by simp; omega), List.getElem?_set_ne (Ne.symm hj)]
end Go.Proofs.Ytdcpoeaddhbjbaa
