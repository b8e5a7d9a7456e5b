/- Contracts of tree's and point's functions in any later world. -/
import Derived.Test.YtcbljiiomnhbjaaPts
import Derived.Test.YtcbljiiomnhbjaaOpenPt
namespace Go.Proofs.Ytcbljiiomnhbjaa
set_option maxRecDepth 100000
open Go.RowKit

/-- The cells of two points' boxes. -/
theorem boxes2L {W : World} {g1 g2 : Nat} {x0 x1 y0 y1 : Value} {t : TypeId} (h1 : W.heap[g1]? = some (.cells #[x0, x1] t (0, 0))) (h2 : W.heap[g2]? = some (.cells #[y0, y1] t (0, 0))) :
    ∀ w', Below W.heap.size W w' → w'.cell? ⟨g1, 0, none⟩ = some x0 ∧ w'.cell? ⟨g1, 1, none⟩ = some x1 ∧ w'.cell? ⟨g2, 0, none⟩ = some y0 ∧ w'.cell? ⟨g2, 1, none⟩ = some y1 := fun w' hb => by
  obtain ⟨⟨a, b⟩, _⟩ := two_facts (blk_below h1 hb)
  obtain ⟨⟨c, d⟩, _⟩ := two_facts (blk_below h2 hb)
  exact ⟨a, b, c, d⟩
theorem nodeL {W : World} {g : Nat} {x0 x1 x2 x3 : Value} {t : TypeId} (h : W.heap[g]? = some (.cells #[x0, x1, x2, x3] t (0, 0))) :
    ∀ w', Below W.heap.size W w' → w'.cell? ⟨g, 0, none⟩ = some x0 ∧ w'.cell? ⟨g, 1, none⟩ = some x1 ∧ w'.cell? ⟨g, 2, none⟩ = some x2 ∧ w'.cell? ⟨g, 3, none⟩ = some x3 := fun _ hb => (four_facts (blk_below h hb)).1
/-- A comparison in any later world. -/
theorem cmpL {W : World} {p q : List Int} {a b x : Int} {v1 v2 : Value} (h1 : Ints W v1 p) (h2 : Ints W v2 q) (hx : cmpP p a q b = x) :
    ∀ w', Below W.heap.size W w' → Calls Try.prog 74 #[.agg #[v1, .int .i64 a], .agg #[v2, .int .i64 b]] w' fun e w'' => e = .returned (.int .i64 x) ∧ Below W.heap.size W w'' := fun w' hb => by
  refine (pcompare_any p q a b v1 v2 w' (h1.below hb (Nat.le_refl _)) (h2.below hb (Nat.le_refl _))).mono ?_
  rintro e w'' ⟨rfl, hb2⟩
  exact ⟨by rw [hx], gr_tr hb hb2⟩
theorem sameL {W : World} {p q : List Int} {a b : Int} {x : Bool} {v1 v2 : Value} (h1 : Ints W v1 p) (h2 : Ints W v2 q) (hx : (cmpP p a q b == 0) = x) :
    ∀ w', Below W.heap.size W w' → Calls Try.prog 70 #[.agg #[v1, .int .i64 a], .agg #[v2, .int .i64 b]] w' fun e w'' => e = .returned (.bool x) ∧ Below W.heap.size W w'' := fun w' hb => by
  refine (psame_any p q a b v1 v2 w' (h1.below hb (Nat.le_refl _)) (h2.below hb (Nat.le_refl _))).mono ?_
  rintro e w'' ⟨rfl, hb2⟩
  exact ⟨by rw [hx], gr_tr hb hb2⟩
end Go.Proofs.Ytcbljiiomnhbjaa
