/- Plain Lean: a path that an operation moves, its inverse moves back, if it takes nothing in; an append in a region that draws, in one law on slices of ints. -/
import Derived.Test.YtcbljiiomnhbjaaFormZ
import Derived.Test.YtcbljiiomnhbjaaRCopy
import Derived.Test.YtcbljiiomnhbjaaXpathM
namespace Go.Proofs.Ytcbljiiomnhbjaa
set_option maxRecDepth 100000
open Go.RowKit

theorem small_of {xs : List Int} (h : ∀ x ∈ xs, 0 ≤ x ∧ x < 1048576) : smallB xs = true := smallB_iff.2 fun x hx => ⟨(h x hx).1, by have := (h x hx).2; omega⟩
theorem low_of2 {xs : List Int} (h : ∀ x ∈ xs, 0 ≤ x ∧ x < 1048576) : lowB xs = true := by
  rw [lowB, List.all_eq_true]
  intro x hx
  have := (h x hx).2
  exact decide_eq_true (by omega)
theorem next_shift2 {q : List Int} (hq : 0 < q.length) (s2 : smallB q = true) (h2 : lowB q = true) : nextL q = shiftL q (q.length - 1) 1 ∧ nextE q = 0 := by
  have g := low_get s2 h2 (q.length - 1)
  have hm : ¬ lastI q = maxI := by unfold lastI maxI; omega
  have hn : ¬ q.length = 0 := by omega
  rw [nextL, nextE, if_neg hn, if_neg hn, if_neg hm, if_neg hm]
  exact ⟨rfl, rfl⟩
theorem inv_ok_form {o : OpF} (h : invE o = 0) : FormZ o := by
  by_cases hf : formX o = 0
  · exact form_zero.1 hf
  · rw [(inv_bad hf).1] at h
    exact absurd h hf
theorem inv_no {o : OpF} (h : invE o ≠ 0) : invO o = zeroO := by rw [invO, if_pos h]
/-- An operation that takes nothing in moves a path; its inverse moves it back. -/
theorem paths_back {o : OpF} {p : List Int} (he : invE o = 0) (h2 : o.kind ≠ 2) (h3 : o.kind ≠ 3) (h5 : o.kind ≠ 5) (hr : ∀ x ∈ (p ++ o.path) ++ [o.pos], 0 ≤ x ∧ x < 1048576) (hq : 0 < o.path.length) :
    ∃ a, moveP p o.kind o.path o.dest o.pos = some a ∧ moveP a (invO o).kind (invO o).path (invO o).dest (invO o).pos = some p ∧ a.length = p.length ∧ (invO o).dest = [] := by
  have z := inv_ok_form he
  have hp : ∀ x ∈ p, 0 ≤ x ∧ x < 1048576 := fun x hx => hr x (by simp [hx])
  have hpa : ∀ x ∈ o.path, 0 ≤ x ∧ x < 1048576 := fun x hx => hr x (by simp [hx])
  have hpo : 0 ≤ o.pos ∧ o.pos < 1048576 := hr o.pos (by simp)
  have s1 := small_of hp
  have s2 := small_of hpa
  have l1 := low_of2 hp
  have l2 := low_of2 hpa
  have hk := z.k
  have hd := z.dest h5
  by_cases k1 : o.kind = 1
  · obtain ⟨m1, -, -, m2, -, m3⟩ := insert_back s1 s2 l1 hq
    rw [inv_1 z k1, hd, k1, z.pos (by omega) (by omega) (by omega) (by omega)]
    exact ⟨_, m1, m2, m3, rfl⟩
  by_cases k4 : o.kind = 4
  · obtain ⟨i1, i2, -⟩ := inv_4 z k4
    obtain ⟨n1, n2⟩ := next_shift2 hq s2 l2
    rw [i2 n2, hd, k4]
    obtain ⟨a, m1, -, m2, m3⟩ := split_back (pos := o.pos) s1 s2 l1 l2 ⟨hpo.1, by omega⟩ hq
    refine ⟨a, m1, ?_, m3, rfl⟩
    show moveP a 3 (nextL o.path) [] o.pos = some p
    rw [n1]
    exact m2
  by_cases k9 : o.kind = 9
  · rw [z.path k9] at hq
    exact absurd hq (by simp)
  have s4 : smallB [o.pos] = true := small_of (fun x hx => hr x (by simp at hx; simp [hx]))
  have mm : ∀ k : Int, k ≠ 1 → k ≠ 2 → k ≠ 3 → k ≠ 4 → k ≠ 5 → moveP p k o.path o.dest o.pos = some p := fun k c1 c2 c3 c4 c5 => by
    rw [moveP, if_pos ⟨s1, s2, by rw [hd]; rfl, s4⟩, if_neg (by omega), if_neg c1, if_neg c2, if_neg c3, if_neg c4, if_neg c5]
  refine ⟨p, mm _ k1 h2 h3 k4 h5, ?_, rfl, ?_⟩
  · have : o.kind = 6 ∨ o.kind = 7 ∨ o.kind = 8 := by omega
    rcases this with k | k | k
    · rw [inv_6 z k]; exact mm _ k1 h2 h3 k4 h5
    · rw [inv_7 z k]; exact mm 8 (by omega) (by omega) (by omega) (by omega) (by omega)
    · rw [inv_8 z k]; exact mm 7 (by omega) (by omega) (by omega) (by omega) (by omega)
  · have : o.kind = 6 ∨ o.kind = 7 ∨ o.kind = 8 := by omega
    rcases this with k | k | k
    · rw [inv_6 z k]; exact hd
    · rw [inv_7 z k]; exact hd
    · rw [inv_8 z k]; exact hd

/-- 'append' of ints onto a slice of the call's own, as one step of a region that draws. -/
theorem app_step {ops : Array Oper} {o : Oper} {a : Act} {w : World} {K : Act → World → Prop} {Q : Exit → Act → World → Prop} {E : Prop} (hgd : o.guard = none) (s x : Operand)
    (ho : o.op = .call { callee := .builtin .append, args := #[s, x], argTypes := #[22, 22] }) {B : Nat} {v : Value} {xs ys : List Int} (hs : a.eval s = v) (hown : Own w B v xs)
    {ao : Option Addr} {m c : Nat} (hx : a.eval x = .slice ao m c) (hi : Ints w (.slice ao m c) ys) (hlen : (xs.length + ys.length) * 8 ≤ 140737488351232) (hB : B ≤ w.heap.size)
    (h : ∀ v' w', Own w' B v' (xs ++ ys) → w.grownBy w' v.ownBlock → Below B w w' → K (a.put o.dst v') w') :
    if Region.wanted o (yielded ops a.tmps) = true then Oper.wp Try.prog o a w K Q else E := by
  obtain ⟨i0, hi0, hz0, hz1, hz2⟩ := info_parts info_int
  obtain ⟨s1, s2, s3⟩ := hi.src
  refine step_append_any hgd s x 22 ho B 3 i0 (.int .i64 0) 1 8 Try.underlying22 hi0 hz0 hz1 hz2 rfl (by decide) v xs.length (xs.map (Value.int .i64)) hs hown.1 ao m c (ys.map (Value.int .i64)) hx (by simp [s1]) s2 s3 (ints_one ys) (by unfold maxLen; omega) (by omega) hB ?_
  intro v' w' h1 h2
  rw [← s1] at h1
  exact h v' w' (own_append h1 hlen) h2 ((Below.refl B w).grown h2 hB (fun g hg => (hown.1.lt g hg).1))

/-- A block that is not the row's own stays. -/
theorem lit_stays {w w' : World} {g : Nat} {cs : Array Value} {t : TypeId} {v : Value} (hg : w.heap[g]? = some (.cells cs t (0, 0))) (h : w.grownBy w' v.ownBlock) (hn : v.ownBlock ≠ some g) : w'.heap[g]? = some (.cells cs t (0, 0)) := by
  rw [h.block g (lt_of_block hg) (Ne.symm hn)]; exact hg
theorem lit_int1 {w : World} {g : Nat} {x : Int} {t : TypeId} (hg : w.heap[g]? = some (.cells #[.int .i64 x] t (0, 0))) : Ints w (.slice (some ⟨g, 0, none⟩) 1 1) [x] := by
  refine ⟨_, _, rfl, Nat.le_refl _, by unfold maxLen; omega, by simp, fun _ => ⟨g, 0, rfl, fun j hj => ?_⟩⟩
  have hj0 : j = 0 := by simpa using hj
  subst hj0
  rw [cell_of_row w g 0 _ _ (0, 0) hg]
  rfl
theorem own_al {w : World} {B : Nat} {v : Value} {xs : List Int} (h : Own w B v xs) (ob : Obj) : Own (w.alloc ob) B v xs := ⟨h.1.alloc _, h.2⟩
theorem own_ne {w : World} {B g : Nat} {v : Value} {xs : List Int} (h : Own w B v xs) (hg : w.heap.size ≤ g) : v.ownBlock ≠ some g := fun e => by
  have := (h.1.lt g e).2
  omega
/-- A slice of the call's own, behind w2. -/
def St (w2 : World) (v : Value) (xs : List Int) (cur : World) : Prop := Own cur w2.heap.size v xs ∧ Below w2.heap.size w2 cur
/-- A literal of one int lies at g, and is not v's own. -/
def LitAt (g : Nat) (x : Int) (v : Value) (cur : World) : Prop := cur.heap[g]? = some (.cells #[.int .i64 x] 3 (0, 0)) ∧ v.ownBlock ≠ some g
theorem St.nil (w2 : World) : St w2 (.slice none 0 0) [] w2.drew := ⟨Own.nil _ _, gr_dr (gr_refl w2)⟩
theorem St.al {w2 cur : World} {v : Value} {xs : List Int} (h : St w2 v xs cur) (ob : Obj) : St w2 v xs (cur.alloc ob) := ⟨own_al h.1 ob, gr_al h.2 ob⟩
theorem St.lit {w2 cur : World} {v : Value} {xs : List Int} (h : St w2 v xs cur) (x : Int) : LitAt cur.heap.size x v (cur.alloc (.cells #[.int .i64 x] 3)) := ⟨heap_alloc_new cur _, own_ne h.1 (Nat.le_refl _)⟩
theorem arm_app {ops : Array Oper} {o : Oper} {a : Act} {cur : World} {K : Act → World → Prop} {Q : Exit → Act → World → Prop} {E : Prop} (hgd : o.guard = none) (s x : Operand)
    (ho : o.op = .call { callee := .builtin .append, args := #[s, x], argTypes := #[22, 22] }) {w2 : World} {v : Value} {xs ys : List Int} (hs : a.eval s = v) (hst : St w2 v xs cur)
    {ao : Option Addr} {m c : Nat} (hx : a.eval x = .slice ao m c) (hi : Ints cur (.slice ao m c) ys) (hlen : (xs.length + ys.length) * 8 ≤ 140737488351232)
    (h : ∀ v' w', St w2 v' (xs ++ ys) w' → K (a.put o.dst v') w') :
    if Region.wanted o (yielded ops a.tmps) = true then Oper.wp Try.prog o a cur K Q else E :=
  app_step hgd s x ho hs hst.1 hx hi hlen hst.2.size fun v' w' h1 _ h3 => h v' w' ⟨h1, hst.2.trans h3⟩
theorem arm_lit {ops : Array Oper} {o : Oper} {a : Act} {cur : World} {K : Act → World → Prop} {Q : Exit → Act → World → Prop} {E : Prop} (hgd : o.guard = none) (s x : Operand)
    (ho : o.op = .call { callee := .builtin .append, args := #[s, x], argTypes := #[22, 22] }) {w2 : World} {v : Value} {xs ys : List Int} {g : Nat} {z : Int} (hs : a.eval s = v) (hst : St w2 v xs cur) (hl : LitAt g z v cur)
    {ao : Option Addr} {m c : Nat} (hx : a.eval x = .slice ao m c) (hi : Ints cur (.slice ao m c) ys) (hlen : (xs.length + ys.length) * 8 ≤ 140737488351232)
    (h : ∀ v' w', St w2 v' (xs ++ ys) w' → w'.heap[g]? = some (.cells #[.int .i64 z] 3 (0, 0)) → K (a.put o.dst v') w') :
    if Region.wanted o (yielded ops a.tmps) = true then Oper.wp Try.prog o a cur K Q else E :=
  app_step hgd s x ho hs hst.1 hx hi hlen hst.2.size fun v' w' h1 h2 h3 => h v' w' ⟨h1, hst.2.trans h3⟩ (lit_stays hl.1 h2 hl.2)
/-- The first append, behind the literal. -/
theorem arm_first {ops : Array Oper} {o : Oper} {a : Act} {cur : World} {K : Act → World → Prop} {Q : Exit → Act → World → Prop} {E : Prop} (hgd : o.guard = none) (s x : Operand)
    (ho : o.op = .call { callee := .builtin .append, args := #[s, x], argTypes := #[22, 22] }) {w2 : World} {ys : List Int} {z : Int} (hs : a.eval s = .slice none 0 0) (hst : St w2 (.slice none 0 0) [] cur)
    {ao : Option Addr} {m c : Nat} (hx : a.eval x = .slice ao m c) (hi : Ints (cur.alloc (.cells #[.int .i64 z] 3)) (.slice ao m c) ys) (hlen : (([] : List Int).length + ys.length) * 8 ≤ 140737488351232)
    (h : ∀ v' w', St w2 v' ys w' → LitAt cur.heap.size z v' w' → K (a.put o.dst v') w') :
    if Region.wanted o (yielded ops a.tmps) = true then Oper.wp Try.prog o a (cur.alloc (.cells #[.int .i64 z] 3)) K Q else E := by
  have hsz : cur.heap.size < (cur.alloc (.cells #[.int .i64 z] 3)).heap.size := by simp
  refine app_step (B := (cur.alloc (.cells #[.int .i64 z] 3)).heap.size) (xs := []) hgd s x ho hs (Own.nil _ _) hx hi hlen (Nat.le_refl _) fun v' w' h1 _ h3 => ?_
  rw [List.nil_append] at h1
  have h2 := gr_al hst.2 (.cells #[.int .i64 z] 3)
  have hle := h2.size
  refine h v' w' ⟨⟨row_mono h1.1 hle, h1.2⟩, h2.trans (h3.mono hle)⟩ ⟨by rw [h3.block _ hsz]; exact heap_alloc_new cur _, fun e => ?_⟩
  have := (h1.1.lt _ e).1
  omega

theorem OpV.at_ {w : World} {v : Value} {o : OpF} (h : OpV w v o) : OpAt w v o.kind o.path o.dest o.pos := by
  obtain ⟨a1, c1, a2, c2, p1, m1, d1, p2, m2, d2, p3, m3, d3, a5, c5, a6, c6, a7, c7, f1, g1, h1, f2, g2, h2, i1, j1, k1, i2, j2, k2, rfl, hr⟩ := h
  exact ⟨_, _, _, _, _, _, _, _, _, _, _, _, _, _, _, _, _, _, _, rfl, hr.path, hr.dest⟩
theorem OpV.agg3 {w : World} {v : Value} {o : OpF} (h : OpV w v o) : ∃ (cs : Array Value) (a1 : Option Addr) (c1 : Nat), v = .agg cs ∧ cs[0]? = some (.int .i64 o.kind) ∧ cs[1]? = some (.slice a1 o.path.length c1) ∧ cs[3]? = some (.int .i64 o.pos) ∧ Ints w (.slice a1 o.path.length c1) o.path ∧ cs.size = 21 := by
  obtain ⟨a1, c1, a2, c2, p1, m1, d1, p2, m2, d2, p3, m3, d3, a5, c5, a6, c6, a7, c7, f1, g1, h1, f2, g2, h2, i1, j1, k1, i2, j2, k2, rfl, hr⟩ := h
  exact ⟨_, _, _, rfl, rfl, rfl, rfl, hr.path, rfl⟩
end Go.Proofs.Ytcbljiiomnhbjaa
