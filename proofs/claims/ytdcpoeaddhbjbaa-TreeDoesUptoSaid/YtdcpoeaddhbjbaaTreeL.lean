/- Plain Lean: what is put at a path is found there; what stood there, put again, makes the tree that was; other paths. No program in sight. -/
import Derived.Test.YtdcpoeaddhbjbaaTurns
import Derived.Test.YtdcpoeaddhbjbaaPlainAll
namespace Go.Proofs.Ytdcpoeaddhbjbaa
set_option maxRecDepth 100000
open Go.RowKit

theorem set_getD {α : Type} (L : List α) (i : Nat) (d : α) (h : i < L.length) : L.set i (L.getD i d) = L := by
  apply List.ext_getElem?
  intro j
  by_cases hj : i = j
  · subst hj; simp [h]
  · rw [List.getElem?_set_ne hj]
theorem getD_set {α : Type} (L : List α) (i : Nat) (x d : α) (h : i < L.length) : (L.set i x).getD i d = x := by simp [h]
theorem getD_set_ne {α : Type} (L : List α) (i j : Nat) (x d : α) (h : i ≠ j) : (L.set i x).getD j d = L.getD j d := by simp [List.getElem?_set_ne h]

theorem get_put (m : Tree) : ∀ (t s : Tree) (p : List Int), getT t p = some s → getT (putT t p m) p = some m
  | _, _, [], _ => rfl
  | t, s, i :: p, h => by
    rw [getT_cons] at h
    split at h
    · rename_i hc
      rw [putT, getT_cons]
      simp only [Tree.kids, List.length_set]
      change (if 0 ≤ i ∧ i.toNat < t.kids.length then _ else none) = _
      rw [if_pos hc]
      change getT ((t.kids.set i.toNat _).getD i.toNat default) p = _
      rw [getD_set _ _ _ _ hc.2]
      exact get_put m _ _ p h
    · cases h
theorem put_put (m s' : Tree) : ∀ (t s : Tree) (p : List Int), getT t p = some s → putT (putT t p m) p s' = putT t p s'
  | _, _, [], _ => rfl
  | t, s, i :: p, h => by
    rw [getT_cons] at h
    split at h
    · rename_i hc
      rw [putT, putT, putT]
      change Tree.mk t.leaf t.props t.text ((t.kids.set i.toNat _).set i.toNat (putT ((t.kids.set i.toNat _).getD i.toNat default) p s')) = _
      rw [getD_set _ _ _ _ hc.2, List.set_set, put_put m s' _ _ p h]
    · cases h
theorem put_get : ∀ (t s : Tree) (p : List Int), getT t p = some s → putT t p s = t
  | _, _, [], h => by
    rw [putT]
    exact (Option.some.inj h).symm
  | t, s, i :: p, h => by
    rw [getT_cons] at h
    split at h
    · rename_i hc
      rw [putT, put_get _ _ p h, set_getD _ _ _ hc.2]
      exact t.eta.symm
    · cases h
theorem get_other (m : Tree) : ∀ (t s : Tree) (p q : List Int), getT t p = some s → p ≠ q → aboveB p q = false → aboveB q p = false → getT (putT t p m) q = getT t q
  | _, _, [], [], _, h1, _, _ => absurd rfl h1
  | _, _, [], x :: q, _, _, h2, _ => by simp [aboveB, cpre] at h2
  | _, _, i :: p, [], _, _, _, h3 => by simp [aboveB, cpre] at h3
  | t, s, i :: p, x :: q, h, h1, h2, h3 => by
    rw [getT_cons] at h
    split at h
    · rename_i hc
      rw [putT, getT_cons, getT_cons]
      change (if 0 ≤ x ∧ x.toNat < (t.kids.set i.toNat _).length then getT ((t.kids.set i.toNat _).getD x.toNat default) q else none) = _
      rw [List.length_set]
      by_cases hx : i = x
      · subst hx
        split
        · rw [getD_set _ _ _ _ hc.2]
          refine get_other m _ _ p q h (fun e => h1 (by rw [e])) ?_ ?_
          · simpa [aboveB, cpre] using h2
          · simpa [aboveB, cpre] using h3
        · rename_i hn
          exact absurd hc hn
      · split
        · rename_i hq
          rw [getD_set_ne _ _ _ _ _ (by omega)]
        · rfl
    · cases h
end Go.Proofs.Ytdcpoeaddhbjbaa
