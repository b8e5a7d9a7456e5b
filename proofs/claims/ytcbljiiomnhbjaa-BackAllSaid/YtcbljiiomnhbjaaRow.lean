/- Slices of the call's own, whatever one-cell elements: what lies at an index, what a store there does; what is kept. -/
import Derived.Test.YtcbljiiomnhbjaaBase
namespace Go.Proofs.Ytcbljiiomnhbjaa
set_option maxRecDepth 100000
open Go.RowKit

theorem row_at {w : World} {B : Nat} {e : TypeId} {v : Value} {n : Nat} {xs : List Value} (h : w.ownsRow B e 1 v n xs) (i : Nat) (hi : i < n) :
    ∃ g cap, v = .slice (some ⟨g, 0, none⟩) n cap ∧ n ≤ cap ∧ B ≤ g ∧ g < w.heap.size ∧ w.cell? ⟨g, i, none⟩ = xs[i]? ∧ w.frozen? ⟨g, i, none⟩ = false ∧
      ∀ x : Value, (w.setCell ⟨g, i, none⟩ x).ownsRow B e 1 v n (xs.set i x) ∧ Below B w (w.setCell ⟨g, i, none⟩ x) := by
  obtain ⟨hl, h⟩ := id h
  rcases h with ⟨rfl, h0⟩ | ⟨g, cap, cur, rfl, hB, hg, hn, hm, hs, ht⟩
  · omega
  · have hic : i < cur.size := by omega
    have hcur : cur.toList[i]? = xs[i]? := by rw [← ht, List.getElem?_take, if_pos (by omega)]
    have hgl := lt_of_block hg
    refine ⟨g, cap, rfl, hn, hB, hgl, ?_, ?_, fun x => ⟨⟨by simpa using hl, .inr ⟨g, cap, cur.setIfInBounds i x, rfl, hB, ?_, hn, hm, by simpa using hs, ?_⟩⟩, ?_⟩⟩
    · rw [cell_of_row w g i cur _ (0, 0) hg, ← hcur]
      simp
    · simp [World.frozen?, hg]
    · show (w.heap.modify g _)[g]? = _
      have h' : w.heap[g] = .cells cur e (0, 0) := by simpa [Array.getElem?_eq_getElem hgl] using hg
      rw [Array.getElem?_eq_getElem (by simpa using hgl), Array.getElem_modify_self, h']
      rfl
    · rw [Array.toList_setIfInBounds, List.take_set, ht]
    · exact (Below.refl B w).setCell (p := ⟨g, i, none⟩) hB _

/-- Kept below. -/
theorem row_below {w w' : World} {B C : Nat} {e : TypeId} {size : Nat} {v : Value} {n : Nat} {xs : List Value} (h : w.ownsRow B e size v n xs) (hb : Below C w w') (hC : w.heap.size ≤ C) : w'.ownsRow B e size v n xs := by
  refine ⟨h.1, ?_⟩
  rcases h.2 with h2 | ⟨g, cap, cur, hv, hg, hh, r⟩
  · exact .inl h2
  · exact .inr ⟨g, cap, cur, hv, hg, by rw [hb.block g (Nat.lt_of_lt_of_le (lt_of_block hh) hC)]; exact hh, r⟩

theorem row_mono {w : World} {B C : Nat} {e : TypeId} {size : Nat} {v : Value} {n : Nat} {xs : List Value} (h : w.ownsRow B e size v n xs) (hC : C ≤ B) : w.ownsRow C e size v n xs := by
  refine ⟨h.1, ?_⟩
  rcases h.2 with h2 | ⟨g, cap, cur, hv, hg, r⟩
  · exact .inl h2
  · exact .inr ⟨g, cap, cur, hv, Nat.le_trans hC hg, r⟩

/-- 'append' onto a slice of the call's own, whatever is appended: an address or none. -/
theorem wpList_append_any {P : Program} (w : World) {ops : Array Oper} {rest : List Oper} {o : Oper} {a : Act} {Q : Exit → Act → World → Prop} (hgd : o.guard = none) (s x : Operand) (t : TypeId)
    (ho : o.op = .call { callee := .builtin .append, args := #[s, x], argTypes := #[t, t] })
    (base : Nat) (e : TypeId) (i : TypeInfo) (z : Value) (size bytes : Nat) (ht : P.underlying t = some (.slice e)) (hi : P.info? e = some i) (hz : i.zero = some z)
    (hsize : i.size = size) (hby : i.bytes = bytes) (hzs : z.cells.size = size) (hsz : 0 < size)
    (v : Value) (n : Nat) (xs : List Value) (hs : a.eval s = v) (hown : w.ownsRow base e size v n xs)
    (ao : Option Addr) (m c : Nat) (news : List Value) (hx : a.eval x = .slice ao m c) (hl : news.length = m * size) (hnone : ao = none → m = 0 ∧ c = 0)
    (hnews : ∀ ad, ao = some ad → ∀ j u, news[j]? = some u → w.cell? (ad.add j) = some u) (h1 : ∀ u ∈ news, u.oneCell' = true)
    (h63 : n + m ≤ maxLen) (hbytes : (n + m) * bytes ≤ 140737488355328) (hbase : base ≤ w.heap.size)
    (h : ∀ v' w', w'.ownsRow base e size v' (n + m) (xs ++ news) → w.grownBy w' v.ownBlock → wpList P ops Q rest (a.put o.dst v') w') : wpList P ops Q (o :: rest) a w := by
  cases ao with
  | some ad => exact wpList_append_own w hgd s x t ho base e i z size bytes ht hi hz hsize hby hzs hsz v n xs hs hown ad m c news hx hl (hnews ad rfl) h1 h63 hbytes hbase fun v' w' a b _ => h v' w' a b
  | none =>
    obtain ⟨rfl, rfl⟩ := hnone rfl
    have hn : news = [] := List.eq_nil_of_length_eq_zero (by simpa using hl)
    subst hn
    refine wpList_plain hgd fun K hK' => ?_
    have hrun := run_append_owned_none (P := P) w base t o.type e i size ht hi v n xs hown
    unfold Oper.wp
    simp [execOp, ho, resolve, invoke, builtin, hs, hx, hrun, Result.andThen]
    exact hK' _ _ (by simpa using h v w (by simpa using hown) (World.grownBy.refl _ _))

/-- Two rows of other element types lie in other blocks. -/
theorem row_apart {w : World} {B C : Nat} {e f : TypeId} {s1 s2 : Nat} {v u : Value} {n m : Nat} {xs ys : List Value} (h : w.ownsRow B e s1 v n xs) (k : w.ownsRow C f s2 u m ys) (hef : e ≠ f) : v.ownBlock = none ∨ v.ownBlock ≠ u.ownBlock := by
  rcases h.2 with ⟨rfl, _⟩ | ⟨g, cap, cur, rfl, _, hg, _⟩
  · exact .inl rfl
  · rcases k.2 with ⟨rfl, _⟩ | ⟨g', cap', cur', rfl, _, hg', _⟩
    · exact .inr (by simp [Value.ownBlock])
    · refine .inr ?_
      simp only [Value.ownBlock, ne_eq, Option.some.injEq]
      rintro rfl
      rw [hg] at hg'
      simp only [Option.some.injEq, Obj.cells.injEq] at hg'
      exact hef hg'.2.1

/-- A new block of one cell, as what is appended. -/
theorem one_news (w : World) (x : Value) (t : TypeId) (g : Nat) (hg : w.heap.size = g) : ∀ ad, (some ⟨g, 0, none⟩ : Option Addr) = some ad → ∀ j u, [x][j]? = some u → (w.alloc (.cells #[x] t)).cell? (ad.add j) = some u := by
  intro ad had j u hu
  subst hg
  obtain rfl := Option.some.inj had
  have hj : j = 0 := by
    have := (List.getElem?_eq_some_iff.1 hu).1
    simpa using this
  subst hj
  rw [Addr.add_lit, cell_of_row _ w.heap.size (0 + 0) _ _ (0, 0) (heap_alloc_new w _)]
  simpa using hu

theorem row_same {w w' : World} {B : Nat} {e : TypeId} {size : Nat} {v : Value} {n : Nat} {xs : List Value} (h : w.ownsRow B e size v n xs) (hs : Same w w') : w'.ownsRow B e size v n xs := row_below h (hs.below _) (Nat.le_refl _)

end Go.Proofs.Ytcbljiiomnhbjaa
