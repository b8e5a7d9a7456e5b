/- The walk of the law TrailOrder. -/
import Derived.Test.YtkalomdbbgeemaaLawLevels
import Derived.Test.YtkalomdbbgeemaaCompare
namespace Go.Proofs.Ytkalomdbbgeemaa
open Go.RowKit

/-- A literal slice of three slices of ints. -/
theorem lit_three (w : World) (g : Nat) (v1 v2 v3 : Value) (xs ys zs : List Int) (hg : w.heap.size = g) (h1 : Ints w v1 xs) (h2 : Ints w v2 ys) (h3 : Ints w v3 zs) :
    IntsL (w.alloc (.cells #[v1, v2, v3] 22)) (.slice (some ⟨g, 0, none⟩) 3 3) [xs, ys, zs] := by
  subst hg
  refine ⟨_, 3, [v1, v2, v3], rfl, Nat.le_refl _, by unfold maxLen; omega, rfl, by simp, fun _ => ⟨w.heap.size, 0, rfl, fun j hj => ?_⟩, fun j hj => ?_⟩
  · rw [cell_of_row _ w.heap.size (0 + j) _ _ (0, 0) (heap_alloc_new w _)]
    match j, hj with
    | 0, _ => rfl
    | 1, _ => rfl
    | 2, _ => rfl
  · match j, hj with
    | 0, _ => exact h1.alloc _
    | 1, _ => exact h2.alloc _
    | 2, _ => exact h3.alloc _

set_option maxHeartbeats 4000000 in
theorem law_order (xs ys zs : List Int) (v1 v2 v3 : Value) (w : World) (h1 : Ints w v1 xs) (h2 : Ints w v2 ys) (h3 : Ints w v3 zs) :
    Calls Try.prog 5 #[v1, v2, v3] w (True_ w) := by
  obtain ⟨a1, n1, c1, rfl⟩ := h1.slice3
  obtain ⟨a2, n2, c2, rfl⟩ := h2.slice3
  obtain ⟨a3, n3, c3, rfl⟩ := h3.slice3
  cases hs : shortB 100 [xs, ys, zs]
  · have HS := Lib.hid hs
    clear hs
    go_enter Try.func5, Try.ntmps5
    go_wp2_with fail
    refine (live_any _).mono ?_
    rintro e w1 ⟨rfl, hb1⟩
    go_wp2_with fail
    refine (short_any [xs, ys, zs] _ _ (lit_three w1 _ _ _ _ xs ys zs rfl (h1.below hb1 (Nat.le_refl _)) (h2.below hb1 (Nat.le_refl _)) (h3.below hb1 (Nat.le_refl _)))).mono ?_
    rintro e w2 ⟨rfl, hw2⟩
    rw [HS.out]
    have hb2 := gr_al hb1 (.cells #[.slice a1 n1 c1, .slice a2 n2 c2, .slice a3 n3 c3] 22)
    rw [hw2] at hb2
    clear hw2
    go_wp2
    go_ret
    exact ⟨rfl, hb2⟩
  · have HS := Lib.hid hs
    clear hs
    have K1 : (decide (cmpI xs ys ≤ 0) = false) ∨ (decide (cmpI xs ys ≤ 0) = true ∧ decide (cmpI ys zs ≤ 0) = false) ∨ (decide (cmpI xs ys ≤ 0) = true ∧ decide (cmpI ys zs ≤ 0) = true ∧ decide (0 < cmpI xs zs) = false) := by
      by_cases p : cmpI xs ys ≤ 0
      · by_cases q : cmpI ys zs ≤ 0
        · exact .inr (.inr ⟨by simpa using p, by simpa using q, by have := cmpI_trans p q; simpa using this⟩)
        · exact .inr (.inl ⟨by simpa using p, by simpa using q⟩)
      · exact .inl (by simpa using p)
    have K2 : (aboveB xs ys = false ∧ leftB xs ys = false) ∨ (aboveB xs ys = false ∧ leftB xs ys = true ∧ aboveB ys zs = false) ∨ (aboveB xs ys = false ∧ leftB xs ys = true ∧ aboveB ys zs = true ∧ leftB xs zs = true)
        ∨ (aboveB xs ys = true ∧ aboveB ys zs = false ∧ leftB xs ys = false) ∨ (aboveB xs ys = true ∧ aboveB ys zs = true ∧ aboveB xs zs = true ∧ leftB xs ys = false) := by
      cases p : aboveB xs ys
      · cases q : leftB xs ys
        · simp
        · cases r : aboveB ys zs
          · simp
          · simp [left_above q r]
      · have l := above_not_left p
        cases r : aboveB ys zs
        · simp [l]
        · simp [l, above_trans p r]
    go_enter Try.func5, Try.ntmps5
    go_wp2_with fail
    refine (live_any _).mono ?_
    rintro e w1 ⟨rfl, hb1⟩
    go_wp2_with fail
    refine (short_any [xs, ys, zs] _ _ (lit_three w1 _ _ _ _ xs ys zs rfl (h1.below hb1 (Nat.le_refl _)) (h2.below hb1 (Nat.le_refl _)) (h3.below hb1 (Nat.le_refl _)))).mono ?_
    rintro e w2 ⟨rfl, hw2⟩
    rw [HS.out]
    have hb := gr_al hb1 (.cells #[.slice a1 n1 c1, .slice a2 n2 c2, .slice a3 n3 c3] 22)
    rw [hw2] at hb
    clear hw2 hb1
    have g1 := h1.below hb (Nat.le_refl _)
    have g2 := h2.below hb (Nat.le_refl _)
    have g3 := h3.below hb (Nat.le_refl _)
    clear h1 h2 h3
    rcases K1 with k1 | ⟨k1, k2⟩ | ⟨k1, k2, k3⟩
    all_goals
      go_wp2_with (go_at_call 31; refine (compare_any _ _ _ _ _ (by assumption) (by assumption)).mono ?_; rintro e w' ⟨rfl, rfl⟩)
      rcases K2 with ⟨j1, j2⟩ | ⟨j1, j2, j3⟩ | ⟨j1, j2, j3, j4⟩ | ⟨j1, j2, j3⟩ | ⟨j1, j2, j3, j4⟩
      all_goals
        go_wp2_with (first | (go_at_call 19; refine (above_any _ _ _ _ _ (by assumption) (by assumption)).mono ?_; rintro e w' ⟨rfl, hs⟩; replace g1 := g1.same hs; replace g2 := g2.same hs; replace g3 := g3.same hs; replace hb := gr_sm hb hs; clear hs) | (go_at_call 32; refine (left_any _ _ _ _ _ (by assumption) (by assumption)).mono ?_; rintro e w' ⟨rfl, hs⟩; replace g1 := g1.same hs; replace g2 := g2.same hs; replace g3 := g3.same hs; replace hb := gr_sm hb hs; clear hs))
        go_ret
        exact ⟨rfl, hb⟩

theorem law_order' (xs ys zs : List Int) (v1 v2 v3 : Value) (w : World) (h1 : Ints w v1 xs ∧ I64 xs) (h2 : Ints w v2 ys ∧ I64 ys) (h3 : Ints w v3 zs ∧ I64 zs) :
    Calls Try.prog 5 #[v1, v2, v3] w (True_ w) := law_order xs ys zs v1 v2 v3 w h1.1 h2.1 h3.1
end Go.Proofs.Ytkalomdbbgeemaa
