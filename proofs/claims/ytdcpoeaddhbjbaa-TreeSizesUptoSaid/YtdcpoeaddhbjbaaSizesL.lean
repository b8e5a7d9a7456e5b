/- Plain Lean, and the words for TreeSizes: how great a tree is with a node put in. -/
import Derived.Test.YtdcpoeaddhbjbaaBackL
import Derived.Test.YtdcpoeaddhbjbaaSizeN
namespace Go.Proofs.Ytdcpoeaddhbjbaa
set_option maxRecDepth 100000
open Go.RowKit

theorem szK_set (ks : List Tree) (k : Nat) (x : Tree) (h : k < ks.length) : szK (ks.set k x) + szT (ks.getD k default) = szK ks + szT x := by
  have e : ks = ks.take k ++ ks.getD k default :: ks.drop (k + 1) := by
    have : ks.getD k default = ks[k] := by simp [h]
    rw [this, ← List.drop_eq_getElem_cons h, List.take_append_drop]
  have e2 : ks.set k x = ks.take k ++ x :: ks.drop (k + 1) := by rw [List.set_eq_take_append_cons_drop, if_pos h]
  have h1 := szK_append (ks.take k) (ks.getD k default :: ks.drop (k + 1))
  have h2 := szK_append (ks.take k) (x :: ks.drop (k + 1))
  rw [← e] at h1
  rw [e2, h2, h1]
  simp only [szK]
  omega
theorem sz_put (s' : Tree) : ∀ (t s : Tree) (p : List Int), getT t p = some s → szT (putT t p s') + szT s = szT t + szT s'
  | _, _, [], h => by
    obtain rfl := Option.some.inj h
    rw [putT]
    omega
  | t, s, i :: p, h => by
    rw [getT_cons] at h
    split at h
    · rename_i hc
      have h1 := sz_put s' _ _ p h
      have h2 := szK_set t.kids i.toNat (putT (t.kids.getD i.toNat default) p s') hc.2
      rw [putT, szT, szT_eq t]
      omega
    · cases h
theorem sz_ins (i : Int) (m s : Tree) (h : i.toNat ≤ s.kids.length) : szT (insT i m s) = szT s + szT m := by
  have h1 := szK_append (s.kids.take i.toNat) (m :: s.kids.drop i.toNat)
  have h2 := szK_append (s.kids.take i.toNat) (s.kids.drop i.toNat)
  rw [List.take_append_drop] at h2
  rw [insT, szT, insertIdx_eq _ _ _ h, h1, szK, szT_eq s]
  omega
theorem sz_added {t s m : Tree} {p : List Int} {i : Int} (hg : getT t p = some s) (h : i.toNat ≤ s.kids.length) : szT (putT t p (insT i m s)) = szT t + szT m := by
  have h1 := sz_put (insT i m s) t s p hg
  have h2 := sz_ins i m s h
  omega
theorem BoxN.leaf {w : World} {g : Nat} {l : Bool} {x1 x2 x3 : Value} {t : Tree} (h : BoxN w g (.bool l) x1 x2 x3 t) : l = t.leaf := by
  obtain ⟨_, _, _, _, he, _⟩ := h.2.open_
  simp only [List.cons.injEq, Value.bool.injEq] at he
  exact he.1
theorem BoxN.kids {w : World} {g n c : Nat} {a : Option Addr} {x0 x1 x2 : Value} {t : Tree} (h : BoxN w g x0 x1 x2 (.slice a n c) t) : n = t.kids.length := by
  obtain ⟨_, _, _, es, he, _, _, hk, hl, _⟩ := h.2.open_
  simp only [List.cons.injEq] at he
  obtain ⟨-, -, -, rfl, -⟩ := he
  obtain ⟨a', c', h2⟩ := hk.slice
  simp only [Value.slice.injEq] at h2
  omega
theorem par {w : World} {v : Value} {p : List Int} (h : PathP w v p) {er : Int} (he : parentE p = er) : Calls Try.prog 61 #[v] w fun e w' => ∃ a n c, e = .returned (.tuple #[.slice a n c, .int .i64 er]) ∧ PathP w' (.slice a n c) (p.take (p.length - 1)) ∧ Below w.heap.size w w' := by
  refine (parent_any p v w h.1).mono ?_
  rintro e w' ⟨v', rfl, ho, hb⟩
  obtain ⟨a, n, c, rfl⟩ := ho.ints.slice3
  exact ⟨a, n, c, by rw [he], ⟨ho.ints, h.2.take _⟩, hb⟩
theorem sizeL {W : World} {g : Nat} {x0 x1 x2 x3 : Value} {t : Tree} {n : Int} (h : BoxN W g x0 x1 x2 x3 t) (hs : szT t ≤ 4000000) (hn : (szT t : Int) = n) : ∀ w', Below W.heap.size W w' → Calls Try.prog 52 #[.agg #[x0, x1, x2, x3]] w' fun e w2 => e = .returned (.int .i64 n) ∧ Below w'.heap.size w' w2 := fun w' hb => by
  rw [← hn]
  exact size_any Any t _ w' (h.later hb).2 hs
theorem addE_nil {t m : Tree} {p : List Int} (h : p.length = 0) : addE t p m = 6 := by rw [addE, if_pos h]
theorem addE_none {t m : Tree} {p : List Int} (h : p.length ≠ 0) (hg : getT t (p.take (p.length - 1)) = none) : addE t p m = 5 := by rw [addE, if_neg h, chE]; simp only [hg]
theorem addE_leaf {t m s : Tree} {p : List Int} (h : p.length ≠ 0) (hg : getT t (p.take (p.length - 1)) = some s) (hl : s.leaf = true) : addE t p m = 7 := by rw [addE, if_neg h, chE]; simp only [hg, addK_leaf hl]
theorem addE_pos {t m s : Tree} {p : List Int} (h : p.length ≠ 0) (hg : getT t (p.take (p.length - 1)) = some s) (hl : s.leaf = false) (hi : lastI p < 0 ∨ (s.kids.length : Int) < lastI p) : addE t p m = 8 := by rw [addE, if_neg h, chE]; simp only [hg, addK_pos hl hi]
theorem sz_ge (t : Tree) : sizeT t ≤ szT t := by have := size_text t; omega
end Go.Proofs.Ytdcpoeaddhbjbaa
