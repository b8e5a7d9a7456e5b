/- Slices of the call's own, whatever one-cell elements: what lies at an index, what a store there does; what is kept. -/
import Derived.Test.YtkalomdbbgeemaaBase
namespace Go.Proofs.Ytkalomdbbgeemaa
open Go.RowKit

theorem row_at {w : World} {B : Nat} {e : TypeId} {v : Value} {n : Nat} {xs : List Value} (h : w.ownsRow B e 1 v n xs) (i : Nat) (hi : i < n) :
    ∃ g cap, v = .slice (some ⟨g, 0, none⟩) n cap ∧ n ≤ cap ∧ B ≤ g ∧ g < w.heap.size ∧ w.cell? ⟨g, i, none⟩ = xs[i]? ∧ w.frozen? ⟨g, i, none⟩ = false ∧
      ∀ x : Value, (w.setCell ⟨g, i, none⟩ x).ownsRow B e 1 v n (xs.set i x) ∧ Below B w (w.setCell ⟨g, i, none⟩ x) := by
  obtain ⟨hl, h⟩ := id h
  rcases h with ⟨rfl, h0⟩ | ⟨g, cap, cur, rfl, hB, hg, hn, hm, hs, ht⟩
  · omega
  · have hic : i < cur.size := by omega
    have hcur : cur.toList[i]? = xs[i]? := by rw [← ht, List.getElem?_take, if_pos (by omega)]
    have hgl := lt_of_block hg
    refine ⟨g, cap, rfl, hn, hB, hgl, ?_, ?_, fun x => ⟨⟨by simpa using hl, .inr ⟨g, cap, cur.setIfInBounds i x, rfl, hB, ?_, hn, hm, by simpa using hs, ?_⟩⟩, ?_⟩⟩
    · rw [cell_of_row w g i cur _ (0, 0) hg, ← hcur]
      simp
    · simp [World.frozen?, hg]
    · show (w.heap.modify g _)[g]? = _
      have h' : w.heap[g] = .cells cur e (0, 0) := by simpa [Array.getElem?_eq_getElem hgl] using hg
      rw [Array.getElem?_eq_getElem (by simpa using hgl), Array.getElem_modify_self, h']
      rfl
    · rw [Array.toList_setIfInBounds, List.take_set, ht]
    · exact (Below.refl B w).setCell (p := ⟨g, i, none⟩) hB _

/-- Kept below. -/
theorem row_below {w w' : World} {B C : Nat} {e : TypeId} {size : Nat} {v : Value} {n : Nat} {xs : List Value} (h : w.ownsRow B e size v n xs) (hb : Below C w w') (hC : w.heap.size ≤ C) : w'.ownsRow B e size v n xs := by
  refine ⟨h.1, ?_⟩
  rcases h.2 with h2 | ⟨g, cap, cur, hv, hg, hh, r⟩
  · exact .inl h2
  · exact .inr ⟨g, cap, cur, hv, hg, by rw [hb.block g (Nat.lt_of_lt_of_le (lt_of_block hh) hC)]; exact hh, r⟩

theorem row_mono {w : World} {B C : Nat} {e : TypeId} {size : Nat} {v : Value} {n : Nat} {xs : List Value} (h : w.ownsRow B e size v n xs) (hC : C ≤ B) : w.ownsRow C e size v n xs := by
  refine ⟨h.1, ?_⟩
  rcases h.2 with h2 | ⟨g, cap, cur, hv, hg, r⟩
  · exact .inl h2
  · exact .inr ⟨g, cap, cur, hv, Nat.le_trans hC hg, r⟩

end Go.Proofs.Ytkalomdbbgeemaa
