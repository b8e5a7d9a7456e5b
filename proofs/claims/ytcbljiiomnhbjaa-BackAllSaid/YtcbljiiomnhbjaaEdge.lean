/- Walks of point.edge, First, Last. -/
import Derived.Test.YtcbljiiomnhbjaaListLv
import Derived.Test.YtcbljiiomnhbjaaGets
namespace Go.Proofs.Ytcbljiiomnhbjaa
set_option maxRecDepth 100000
open Go.RowKit

theorem two_facts {w' : World} {g : Nat} {x0 x1 : Value} {t : TypeId} (h : w'.heap[g]? = some (.cells #[x0, x1] t (0, 0))) :
    (w'.cell? ⟨g, 0, none⟩ = some x0 ∧ w'.cell? ⟨g, 1, none⟩ = some x1) ∧ (w'.frozen? ⟨g, 0, none⟩ = false ∧ w'.frozen? ⟨g, 1, none⟩ = false) := by
  have hc := fun i => cell_of_row w' g i _ _ (0, 0) h
  refine ⟨⟨by rw [hc]; rfl, by rw [hc]; rfl⟩, ?_⟩
  simp [World.frozen?, h]
abbrev put2 (w : World) (g : Nat) (u0 u1 : Value) : World := (w.setCell ⟨g, 0, none⟩ u0).setCell ⟨g, 1, none⟩ u1
theorem two_block {w' : World} {g : Nat} {x0 x1 : Value} {t : TypeId} {fr : Nat × Nat} (h : w'.heap[g]? = some (.cells #[x0, x1] t fr)) (u0 u1 : Value) : (put2 w' g u0 u1).heap[g]? = some (.cells #[u0, u1] t fr) := by
  simp [World.setCell, Array.getElem?_modify, h]
theorem two_below {B : Nat} {w w' : World} {g : Nat} {u0 u1 : Value} (h : Below B w w') (hg : B ≤ g) : Below B w (put2 w' g u0 u1) := (h.setCell (p := ⟨g, 0, none⟩) hg _).setCell (p := ⟨g, 1, none⟩) hg _

/-- A point, and why there is none. -/
def PtPost (w : World) (Q : Value → List Int → Prop) (p : List Int) (off er : Int) (e : Ending) (w' : World) : Prop := ∃ a n c, e = .returned (.tuple #[.agg #[.slice a n c, .int .i64 off], .int .i64 er]) ∧ (Ints w' (.slice a n c) p ∧ Q (.slice a n c) p) ∧ Below w.heap.size w w'

/-- The point at the edge of a list of leaves. -/
def edgeR (t : Tree) (L : List (List Int)) (last : Bool) : List Int × Int × Int :=
  if L.length = 0 then ([], 0, 14) else if last = false then (L.getD 0 [], 0, 0) else
    match getT t (L.getD (L.length - 1) []) with
    | some s => (L.getD (L.length - 1) [], s.text.length, 0)
    | none => (L.getD (L.length - 1) [], 0, 5)

theorem Ints.put2 {w w' : World} {v : Value} {xs : List Int} {g : Nat} {u0 u1 : Value} (h : Ints w v xs) (hb : Below w.heap.size w w') (hg : w.heap.size ≤ g) : Ints (put2 w' g u0 u1) v xs := h.below (two_below hb hg) (Nat.le_refl _)
theorem ints_nil (w : World) : Ints w (.slice none 0 0) [] := ⟨none, 0, rfl, Nat.le_refl _, by unfold maxLen; omega, by simp, fun h => by omega⟩

/-- What is known of each element of a list. -/
def Each (w : World) (v : Value) (L : List (List Int)) (Q : Value → List Int → Prop) : Prop := Q (.slice none 0 0) [] ∧ ∀ b off n cap, v = .slice (some ⟨b, off, none⟩) n cap → ∀ k, k < n → ∀ u, w.cell? ⟨b, off + k, none⟩ = some u → Q u (L.getD k [])
theorem OwnL.each {w : World} {B : Nat} {v : Value} {L : List (List Int)} (h : OwnL w B v L) : Each w v L (fun u p => Own w B u p) := by
  refine ⟨Own.nil _ _, fun b off n cap hv k hk u hu => ?_⟩
  obtain ⟨vs, h1, h2⟩ := h
  have hl : vs.length = L.length := by simpa using h1.1
  obtain ⟨_, h⟩ := id h1
  rcases h with ⟨rfl, h0⟩ | ⟨g, c, cur, rfl, _, hg, hn, hm, _, ht⟩
  · cases hv
  · simp only [Value.slice.injEq, Option.some.injEq, Addr.mk.injEq] at hv
    obtain ⟨⟨rfl, rfl, _⟩, hln, rfl⟩ := hv
    have h3 := h2 k (by omega)
    have h4 : (cur.toList.take (L.length * 1))[k]? = vs[k]? := by rw [ht]
    rw [cell_of_row w g (0 + k) cur _ (0, 0) hg, Nat.zero_add] at hu
    rw [List.getElem?_take, if_pos (by omega)] at h4
    have h5 : vs[k]? = some u := by rw [← h4]; simpa using hu
    have h6 : vs.getD k (.slice none 0 0) = u := by simp [h5]
    rwa [h6] at h3
theorem edge_start (w : World) (cs : Array Value) : Below w.heap.size w ((w.alloc (.cells cs 27)).alloc (.cells #[.slice none 0 0, .int .i64 0] 29)) ∧
    ((w.alloc (.cells cs 27)).alloc (.cells #[.slice none 0 0, .int .i64 0] 29)).heap[w.heap.size + 1]? = some (.cells #[.slice none 0 0, .int .i64 0] 29 (0, 0)) := by
  refine ⟨gr_al (gr_al (gr_refl w) _) _, ?_⟩
  have := heap_alloc_new (w.alloc (.cells cs 27)) (.cells #[.slice none 0 0, .int .i64 0] 29)
  have h : (w.alloc (.cells cs 27)).heap.size = w.heap.size + 1 := by simp
  rwa [h] at this

end Go.Proofs.Ytcbljiiomnhbjaa
