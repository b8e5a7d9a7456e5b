/- Walks of package redlinelaw02's own helpers: live, short. -/
import Derived.Test.YtdcpoeaddhbjbaaTrail5
namespace Go.Proofs.Ytdcpoeaddhbjbaa
set_option maxRecDepth 100000
open Go.RowKit

theorem Ints.alloc {w : World} {v : Value} {xs : List Int} (h : Ints w v xs) (o : Obj) : Ints (w.alloc o) v xs :=
  h.below ((Below.refl w.heap.size w).alloc (Nat.le_refl _) o) (Nat.le_refl _)

/-- A literal slice of ints. -/
theorem lit_ints (w : World) (c : Array Value) (n g : Nat) (xs : List Int) (hg : w.heap.size = g) (hc : c = (xs.map (Value.int .i64)).toArray) (hn : n = xs.length) (hs : xs.length * 8 ≤ 140737488351232) :
    Ints (w.alloc (.cells c 3)) (.slice (some ⟨g, 0, none⟩) n n) xs := by
  subst hc hn hg
  refine ⟨_, _, rfl, Nat.le_refl _, by unfold maxLen; omega, hs, fun _ => ?_⟩
  refine ⟨w.heap.size, 0, rfl, fun j hj => ?_⟩
  rw [cell_of_row _ w.heap.size (0 + j) _ _ (0, 0) (heap_alloc_new w _)]
  simp [hj]

/-- Slices of ints, in a slice. -/
def IntsL (w : World) (v : Value) (xss : List (List Int)) : Prop :=
  ∃ (a : Option Addr) (cap : Nat) (vs : List Value), v = .slice a xss.length cap ∧ xss.length ≤ cap ∧ cap ≤ maxLen ∧ vs.length = xss.length ∧ xss.length * 24 ≤ 140737488351232 ∧
    (0 < xss.length → ∃ b off, a = some ⟨b, off, none⟩ ∧ ∀ j, j < xss.length → w.cell? ⟨b, off + j, none⟩ = some (vs.getD j (.slice none 0 0))) ∧
    ∀ j, j < xss.length → Ints w (vs.getD j (.slice none 0 0)) (xss.getD j [])

/-- Are all short? -/
def shortB (m : Nat) (xss : List (List Int)) : Bool := xss.all fun xs => decide (xs.length ≤ m)

theorem IntsL.below {B : Nat} {w w' : World} {v : Value} {xss : List (List Int)} (h : IntsL w v xss) (hb : Below B w w') (hB : w.heap.size ≤ B) : IntsL w' v xss := by
  obtain ⟨a, cap, vs, h1, h2, h3, h4, h5, h6, h7⟩ := h
  refine ⟨a, cap, vs, h1, h2, h3, h4, h5, fun hp => ?_, fun j hj => (h7 j hj).below hb hB⟩
  obtain ⟨b, off, rfl, hc⟩ := h6 hp
  refine ⟨b, off, rfl, fun j hj => ?_⟩
  have := hc j hj
  rw [← this]
  exact hb.cell (p := ⟨b, off + j, none⟩) (Nat.lt_of_lt_of_le (World.block_lt_of_cell? w _ this) hB)

theorem OwnL.ints {w : World} {B : Nat} {v : Value} {xss : List (List Int)} (h : OwnL w B v xss) (hs : xss.length * 24 ≤ 140737488351232) : IntsL w v xss := by
  obtain ⟨vs, h1, h2⟩ := h
  have hl : vs.length = xss.length := by simpa using h1.1
  obtain ⟨_, h⟩ := id h1
  rcases h with ⟨rfl, h0⟩ | ⟨g, cap, cur, rfl, _, hg, hn, hm, _, ht⟩
  · exact ⟨none, 0, vs, by rw [h0], by omega, by simp [maxLen], hl, hs, (fun hp => by omega), fun j hj => (h2 j hj).ints⟩
  · refine ⟨_, cap, vs, rfl, hn, hm, hl, hs, fun hp => ⟨g, 0, rfl, fun j hj => ?_⟩, fun j hj => (h2 j hj).ints⟩
    rw [cell_of_row w g (0 + j) cur _ (0, 0) hg]
    have : (cur.toList.take (xss.length * 1))[j]? = vs[j]? := by rw [ht]
    rw [List.getElem?_take, if_pos (by omega)] at this
    rw [show cur[0 + j]? = cur.toList[j]? from by simp, this]
    simp [show j < vs.length by omega]

/-- One of them: the cell where it lies, and what it reads as. -/
theorem IntsL.at_ {w : World} {v : Value} {xss : List (List Int)} (h : IntsL w v xss) (k : Nat) (hk : k < xss.length) :
    ∃ b off cap vk, v = .slice (some ⟨b, off, none⟩) xss.length cap ∧ xss.length ≤ cap ∧ xss.length * 24 ≤ 140737488351232 ∧ w.cell? ⟨b, off + k, none⟩ = some vk ∧ Ints w vk (xss.getD k []) := by
  obtain ⟨a, cap, vs, rfl, h2, h3, h4, h5, h6, h7⟩ := h
  obtain ⟨b, off, rfl, hc⟩ := h6 (by omega)
  exact ⟨b, off, cap, _, rfl, h2, h5, hc k hk, h7 k hk⟩

end Go.Proofs.Ytdcpoeaddhbjbaa
