/- Plain Lean, and the words of tree.Add and tree.Cut: what was added is cut out again, what was cut out is added again. -/
import Derived.Test.YtdcpoeaddhbjbaaTreeL
import Derived.Test.YtdcpoeaddhbjbaaAdd
import Derived.Test.YtdcpoeaddhbjbaaMade5
namespace Go.Proofs.Ytdcpoeaddhbjbaa
set_option maxRecDepth 100000
open Go.RowKit

theorem kid_size (ks : List Tree) (k : Nat) (h : k < ks.length) : sizeT (ks.getD k default) ≤ sizeK ks := by
  have h1 := sizeK_take ks k h
  have h2 := sizeK_le ks (k + 1)
  omega
theorem get_size : ∀ (t s : Tree) (p : List Int), getT t p = some s → sizeT s ≤ sizeT t
  | _, _, [], h => by obtain rfl := Option.some.inj h; exact Nat.le_refl _
  | t, s, i :: p, h => by
    rw [getT_cons] at h
    split at h
    · rename_i hc
      have h1 := get_size _ _ p h
      have h2 := kid_size t.kids _ hc.2
      rw [sizeT_eq t]
      omega
    · cases h
theorem kids_room {t s : Tree} {p : List Int} (h : getT t p = some s) (hs : sizeT t ≤ 1048576) : (s.kids.length + 1) * 80 ≤ 140737488351232 := by
  have h1 := get_size t s p h
  have h2 := sizeT_eq s
  have h3 := sizeK_len s.kids
  omega
/-- The node that Add makes. -/
def insT (i : Int) (m s : Tree) : Tree := .mk s.leaf s.props s.text (s.kids.insertIdx i.toNat m)
theorem add_ok {t m : Tree} {p : List Int} (h : addE t p m = 0) : 0 < p.length ∧ ∃ s, getT t (p.take (p.length - 1)) = some s ∧ s.leaf = false ∧ 0 ≤ lastI p ∧ lastI p ≤ (s.kids.length : Int) ∧ addR t p m = some (putT t (p.take (p.length - 1)) (insT (lastI p) m s)) := by
  rw [addE] at h
  split at h
  · cases h
  · rename_i h0
    refine ⟨by omega, ?_⟩
    rw [chE] at h
    cases hg : getT t (p.take (p.length - 1)) with
    | none => rw [hg] at h; cases h
    | some s =>
      simp only [hg, addK] at h
      split at h
      · cases h
      · rename_i h1
        split at h
        · cases h
        · rename_i h2
          have hl : s.leaf = false := by simpa using h1
          refine ⟨s, rfl, hl, by omega, by omega, ?_⟩
          rw [addR, if_neg h0, chT]
          simp only [hg, addK, if_neg h1, if_neg h2, if_true]
          rfl
theorem add_none {t m : Tree} {p : List Int} (h : addE t p m ≠ 0) : addR t p m = none := by
  rw [addR]
  split
  · rfl
  · rename_i h0
    rw [addE, if_neg h0, chE] at h
    rw [chT]
    cases hg : getT t (p.take (p.length - 1)) with
    | none => rfl
    | some s =>
      simp only [hg] at h ⊢
      rw [if_neg h]
theorem add_is {t s m : Tree} {p : List Int} (h0 : 0 < p.length) (hg : getT t (p.take (p.length - 1)) = some s) (hl : s.leaf = false) (h1 : 0 ≤ lastI p) (h2 : lastI p ≤ (s.kids.length : Int)) : addE t p m = 0 ∧ addR t p m = some (putT t (p.take (p.length - 1)) (insT (lastI p) m s)) := by
  have hk : addK (lastI p) m s = (0, insT (lastI p) m s) := addK_ok hl h1 h2
  constructor
  · rw [addE, if_neg (by omega), chE]
    simp only [hg, hk]
  · rw [addR, if_neg (by omega), chT]
    simp only [hg, hk, if_true]
theorem erase_insert {α : Type} (L : List α) (i : Nat) (x : α) (h : i ≤ L.length) : (L.insertIdx i x).eraseIdx i = L := by
  rw [insertIdx_eq i L x h, List.eraseIdx_append_of_length_le (by simp; omega)]
  have : i - (L.take i).length = 0 := by simp; omega
  rw [this]
  simp
theorem insert_erase {α : Type} (L : List α) (i : Nat) (d : α) (h : i < L.length) : (L.eraseIdx i).insertIdx i (L.getD i d) = L := by
  rw [insertIdx_eq i _ _ (by rw [List.length_eraseIdx, if_pos h]; omega), List.eraseIdx_eq_take_drop_succ]
  have e : (List.take i L).length = i := by simp; omega
  rw [List.take_append_of_le_length (by omega), List.take_take, Nat.min_self, List.drop_append_of_le_length (by omega), List.drop_eq_nil_of_le (by omega), List.nil_append]
  have : L.getD i d = L[i] := by simp [h]
  rw [this, ← List.drop_eq_getElem_cons h, List.take_append_drop]
/-- What was added is cut out again. -/
theorem cut_added {t s m : Tree} {p : List Int} (h0 : 0 < p.length) (hg : getT t (p.take (p.length - 1)) = some s) (h1 : 0 ≤ lastI p) (h2 : lastI p ≤ (s.kids.length : Int)) :
    getT (putT t (p.take (p.length - 1)) (insT (lastI p) m s)) p = some m ∧ cutT (putT t (p.take (p.length - 1)) (insT (lastI p) m s)) p = t := by
  have hu := get_put (insT (lastI p) m s) t s _ hg
  have hlen : (s.kids.insertIdx (lastI p).toNat m).length = s.kids.length + 1 := by rw [List.length_insertIdx, if_pos (by omega)]
  constructor
  · rw [get_last_none h0 _ hu, if_pos ⟨h1, by show _ < (s.kids.insertIdx (lastI p).toNat m).length; omega⟩]
    show some ((s.kids.insertIdx (lastI p).toNat m).getD (lastI p).toNat default) = some m
    rw [getD_insert _ _ _ _ _ (by omega), if_neg (by omega), if_pos rfl]
  · rw [cutT_eq hu, put_put _ _ t s _ hg]
    have : (cutK (lastI p) (insT (lastI p) m s)).2 = s := by
      show Tree.mk s.leaf s.props s.text ((s.kids.insertIdx (lastI p).toNat m).eraseIdx (lastI p).toNat) = s
      rw [erase_insert _ _ _ (by omega)]
      exact s.eta.symm
    rw [this]
    exact put_get t s _ hg
/-- What was cut out is added again. -/
theorem add_cut {t s m : Tree} {p : List Int} (hg : getT t (p.take (p.length - 1)) = some s) (h1 : 0 ≤ lastI p) (h2 : (lastI p).toNat < s.kids.length) (hm : s.kids.getD (lastI p).toNat default = m) :
    getT (cutT t p) (p.take (p.length - 1)) = some (cutK (lastI p) s).2 ∧ lastI p ≤ ((cutK (lastI p) s).2.kids.length : Int) ∧ putT (cutT t p) (p.take (p.length - 1)) (insT (lastI p) m (cutK (lastI p) s).2) = t ∧ (cutK (lastI p) s).2.kids.length ≤ s.kids.length := by
  have hlen : (s.kids.eraseIdx (lastI p).toNat).length = s.kids.length - 1 := by rw [List.length_eraseIdx, if_pos h2]
  refine ⟨?_, ?_, ?_, ?_⟩
  · rw [cutT_eq hg]
    exact get_put _ t s _ hg
  · show lastI p ≤ ((s.kids.eraseIdx (lastI p).toNat).length : Int)
    omega
  · rw [cutT_eq hg, put_put _ _ t s _ hg]
    have : insT (lastI p) m (cutK (lastI p) s).2 = s := by
      show Tree.mk s.leaf s.props s.text ((s.kids.eraseIdx (lastI p).toNat).insertIdx (lastI p).toNat m) = s
      rw [← hm, insert_erase _ _ _ h2]
      exact s.eta.symm
    rw [this]
    exact put_get t s _ hg
  · show (s.kids.eraseIdx (lastI p).toNat).length ≤ _
    omega

/-- Two nodes, and an error. -/
def Made3 (s t : Tree) (er : Int) (w : World) (e : Ending) (w' : World) : Prop := ∃ (l : Bool) (a1 : Option Addr) (n1 c1 : Nat) (a2 : Option Addr) (n2 c2 : Nat) (a3 : Option Addr) (n3 c3 : Nat) (l' : Bool) (b1 : Option Addr) (m1 d1 : Nat) (b2 : Option Addr) (m2 d2 : Nat) (b3 : Option Addr) (m3 d3 : Nat),
    e = .returned (.tuple #[.agg #[.bool l, .slice a1 n1 c1, .slice a2 n2 c2, .slice a3 n3 c3], .agg #[.bool l', .slice b1 m1 d1, .slice b2 m2 d2, .slice b3 m3 d3], .int .i64 er]) ∧
    NodeAt Any w' [.bool l, .slice a1 n1 c1, .slice a2 n2 c2, .slice a3 n3 c3] s ∧ NodeAt Any w' [.bool l', .slice b1 m1 d1, .slice b2 m2 d2, .slice b3 m3 d3] t ∧ Below w.heap.size w w'
theorem cut_yes {w : World} {g : Nat} {x0 x1 x2 x3 v : Value} {t m : Tree} {p : List Int} (h : BoxN w g x0 x1 x2 x3 t) (hp : PathP w v p) (h0 : 0 < p.length) (hg : getT t p = some m) : Calls Try.prog 58 #[.agg #[x0, x1, x2, x3], v] w (Made3 (cutT t p) m 0 w) := by
  refine (cut_any Any t _ p v w h.2 hp.1 hp.2).mono ?_
  rintro e w' ⟨hb, ⟨hne, -⟩ | ⟨cs, ds, m', -, hm, rfl, ht, ht2⟩⟩
  · refine absurd ?_ hne
    rw [cutE, if_neg (by omega), hg]
  · rw [hg] at hm
    obtain rfl := Option.some.inj hm
    obtain ⟨a1, n1, c1, a2, n2, c2, a3, n3, c3, hc⟩ := ht.nodeAt.form
    obtain ⟨b1, m1, d1, b2, m2, d2, b3, m3, d3, hd⟩ := ht2.nodeAt.form
    subst hc hd
    exact ⟨_, _, _, _, _, _, _, _, _, _, _, _, _, _, _, _, _, _, _, _, rfl, ht.nodeAt.weaken fun _ _ => trivial, ht2.nodeAt.weaken fun _ _ => trivial, hb⟩
theorem cut_no {w : World} {g : Nat} {x0 x1 x2 x3 v : Value} {t : Tree} {p : List Int} (h : BoxN w g x0 x1 x2 x3 t) (hp : PathP w v p) {er : Int} (he : cutE t p = er) (hne : er ≠ 0) : Calls Try.prog 58 #[.agg #[x0, x1, x2, x3], v] w (Made3 zeroT zeroT er w) := by
  refine (cut_any Any t _ p v w h.2 hp.1 hp.2).mono ?_
  rintro e w' ⟨hb, ⟨-, rfl⟩ | ⟨cs, ds, m', h0, hm, rfl, ht, ht2⟩⟩
  · rw [he]
    exact ⟨_, _, _, _, _, _, _, _, _, _, _, _, _, _, _, _, _, _, _, _, rfl, zero_at _ _, zero_at _ _, hb⟩
  · refine absurd ?_ hne
    rw [← he, cutE, if_neg (by omega), hm]
theorem add_yes {w : World} {g g' : Nat} {x0 x1 x2 x3 y0 y1 y2 y3 v : Value} {t m a : Tree} {p : List Int} (h : BoxN w g x0 x1 x2 x3 t) (hp : PathP w v p) (h2 : BoxN w g' y0 y1 y2 y3 m) (hsz : ∀ s, getT t (p.take (p.length - 1)) = some s → (s.kids.length + 1) * 80 ≤ 140737488351232)
    (hr : addR t p m = some a) : Calls Try.prog 56 #[.agg #[x0, x1, x2, x3], v, .agg #[y0, y1, y2, y3]] w (Made2 a 0 w) := by
  refine (add_any Any Any t m _ _ p v w h.2 hp.1 hp.2 h2.2 hsz).mono fun _ _ hf => ?_
  rw [hr] at hf
  exact hf.made rfl
theorem add_no {w : World} {g g' : Nat} {x0 x1 x2 x3 y0 y1 y2 y3 v : Value} {t m : Tree} {p : List Int} (h : BoxN w g x0 x1 x2 x3 t) (hp : PathP w v p) (h2 : BoxN w g' y0 y1 y2 y3 m) (hsz : ∀ s, getT t (p.take (p.length - 1)) = some s → (s.kids.length + 1) * 80 ≤ 140737488351232)
    {er : Int} (he : addE t p m = er) (hne : er ≠ 0) : Calls Try.prog 56 #[.agg #[x0, x1, x2, x3], v, .agg #[y0, y1, y2, y3]] w (Made2 zeroT er w) := by
  refine (add_any Any Any t m _ _ p v w h.2 hp.1 hp.2 h2.2 hsz).mono fun _ _ hf => ?_
  rw [add_none (by rw [he]; exact hne), he] at hf
  exact hf.made rfl
theorem add_made {w : World} {g g' : Nat} {x0 x1 x2 x3 y0 y1 y2 y3 v : Value} {t m : Tree} {p : List Int} (h : BoxN w g x0 x1 x2 x3 t) (hp : PathP w v p) (h2 : BoxN w g' y0 y1 y2 y3 m) (hsz : ∀ s, getT t (p.take (p.length - 1)) = some s → (s.kids.length + 1) * 80 ≤ 140737488351232)
    {er : Int} (he : addE t p m = er) : Calls Try.prog 56 #[.agg #[x0, x1, x2, x3], v, .agg #[y0, y1, y2, y3]] w (Made2 ((addR t p m).getD zeroT) er w) := by
  refine (add_any Any Any t m _ _ p v w h.2 hp.1 hp.2 h2.2 hsz).mono fun _ _ hf => hf.made ?_
  by_cases h0 : er = 0
  · obtain ⟨_, s, _, _, _, _, hr⟩ := add_ok (he.trans h0)
    rw [h0, hr, if_neg (by simp)]
  · rw [add_none (by rw [he]; exact h0), if_pos rfl, he]
theorem cut_ok {t : Tree} {p : List Int} (h : cutE t p = 0) : 0 < p.length ∧ ∃ m, getT t p = some m := by
  rw [cutE] at h
  split at h
  · cases h
  · refine ⟨by omega, ?_⟩
    cases hg : getT t p with
    | none => rw [hg] at h; cases h
    | some m => exact ⟨m, rfl⟩
theorem get_tr {w : World} {g : Nat} {x0 x1 x2 x3 v : Value} {t s : Tree} {p : List Int} (h : BoxN w g x0 x1 x2 x3 t) (hp : PathP w v p) (hg : getT t p = some s) : Calls Try.prog 17 #[.agg #[x0, x1, x2, x3], v] w fun e w' =>
    ∃ (a1 : Option Addr) (n1 c1 : Nat) (a2 : Option Addr) (n2 c2 : Nat) (a3 : Option Addr) (n3 c3 : Nat), e = .returned (.tuple #[.agg #[.bool s.leaf, .slice a1 n1 c1, .slice a2 n2 c2, .slice a3 n3 c3], .int .i64 0]) ∧ Tr w' (fun b => w.heap.size ≤ b) [.bool s.leaf, .slice a1 n1 c1, .slice a2 n2 c2, .slice a3 n3 c3] s ∧ Below w.heap.size w w' := by
  have := get_any Any t _ p v w h.2 hp.1 hp.2
  rw [hg] at this
  refine this.mono ?_
  rintro e w' ⟨hb, ⟨h1, -⟩ | ⟨cs, s', h1, rfl, ht⟩⟩
  · cases h1
  · obtain rfl := Option.some.inj h1
    obtain ⟨a1, n1, c1, a2, n2, c2, a3, n3, c3, hc⟩ := ht.nodeAt.form
    subst hc
    exact ⟨_, _, _, _, _, _, _, _, _, rfl, ht, hb⟩
theorem Ints.cap {w : World} {a : Option Addr} {n c : Nat} {p : List Int} (h : Ints w (.slice a n c) p) : n ≤ c := by
  obtain ⟨a', c', he, h2, _⟩ := h
  simp only [Value.slice.injEq] at he
  omega
/-- The path of a parent. -/
theorem PathP.up {w : World} {a : Option Addr} {n c : Nat} {p : List Int} (h : PathP w (.slice a n c) p) : PathP w (.slice a (p.length - 1) c) (p.take (p.length - 1)) := ⟨h.1.take (by omega), h.2.take _⟩
end Go.Proofs.Ytdcpoeaddhbjbaa
