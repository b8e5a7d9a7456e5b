/- Words on memory for the walk of tree.paths: the captured variables, the list so far, what is kept. -/
import Derived.Test.YtcbljiiomnhbjaaGets
import Derived.Test.YtcbljiiomnhbjaaPathsP
import Derived.Test.YtcbljiiomnhbjaaRefs
namespace Go.Proofs.Ytcbljiiomnhbjaa
set_option maxRecDepth 100000
open Go.RowKit

/-- What has turned from w, where the list was ov, to w', where it is ov': below B nothing; of what was there the list's variable, and its row. -/
def Rel (B bo : Nat) (w : World) (ov : Value) (w' : World) (ov' : Value) : Prop :=
  Below B w w' ∧ (∀ b, b < w.heap.size → b ≠ bo → ov.ownBlock ≠ some b → w'.heap[b]? = w.heap[b]?) ∧ ∀ g, ov'.ownBlock = some g → ov.ownBlock = some g ∨ w.heap.size ≤ g

theorem Rel.refl (B bo : Nat) (w : World) (ov : Value) : Rel B bo w ov w ov := ⟨Below.refl _ _, fun _ _ _ _ => rfl, fun _ h => .inl h⟩
theorem Rel.trans {B bo : Nat} {w w1 w2 : World} {ov ov1 ov2 : Value} (h : Rel B bo w ov w1 ov1) (k : Rel B bo w1 ov1 w2 ov2) : Rel B bo w ov w2 ov2 := by
  obtain ⟨h1, h2, h3⟩ := h
  obtain ⟨k1, k2, k3⟩ := k
  have hs := h1.size
  refine ⟨h1.trans k1, fun b hb hbo hov => ?_, fun g hg => ?_⟩
  · rw [k2 b (by omega) hbo ?_, h2 b hb hbo hov]
    intro hh
    rcases h3 b hh with h | h
    · exact hov h
    · omega
  · rcases k3 g hg with h | h
    · exact h3 g h
    · exact .inr (by omega)
theorem Rel.quiet {B bo : Nat} {w w1 w2 : World} {ov ov1 : Value} (h : Rel B bo w ov w1 ov1) (hB : B ≤ w1.heap.size) (hb : Below w1.heap.size w1 w2) : Rel B bo w ov w2 ov1 :=
  h.trans ⟨hb.mono hB, fun b h _ _ => hb.block b h, fun _ h => .inl h⟩
theorem row_type {w : World} {B : Nat} {e : TypeId} {size : Nat} {v : Value} {n : Nat} {xs : List Value} (h : w.ownsRow B e size v n xs) : ∀ g, v.ownBlock = some g → ∃ cur, w.heap[g]? = some (.cells cur e (0, 0)) := by
  intro g hg
  rcases h.2 with ⟨rfl, _⟩ | ⟨g', cap, cur, rfl, _, hh, _⟩
  · cases hg
  · simp only [Value.ownBlock, Option.some.injEq] at hg
    subst hg
    exact ⟨cur, hh⟩
theorem row_not {w : World} {B g : Nat} {e ty : TypeId} {size : Nat} {v : Value} {n : Nat} {xs : List Value} {cs : Array Value} {fr : Nat × Nat} (h : w.ownsRow B e size v n xs) (hg : w.heap[g]? = some (.cells cs ty fr)) (hne : e ≠ ty) : v.ownBlock ≠ some g := by
  intro hv
  obtain ⟨cur, hc⟩ := row_type h g hv
  rw [hc] at hg
  simp only [Option.some.injEq, Obj.cells.injEq] at hg
  exact hne hg.2.1
theorem OwnL.row {w : World} {B : Nat} {v : Value} {xss : List (List Int)} (h : OwnL w B v xss) : ∃ vs, w.ownsRow B 22 1 v xss.length vs := by
  obtain ⟨vs, h, _⟩ := h
  exact ⟨vs, h⟩
theorem OwnL.later {w w' : World} {B : Nat} {v : Value} {xss : List (List Int)} (h : OwnL w B v xss) (hb : Below w.heap.size w w') : OwnL w' B v xss := by
  obtain ⟨vs, h1, h2⟩ := h
  exact ⟨vs, row_below h1 hb (Nat.le_refl _), fun j hj => (h2 j hj).below hb (Nat.le_refl _)⟩
/-- A store into a variable of another type. -/
theorem OwnL.put {w : World} {B g : Nat} {v : Value} {xss : List (List Int)} {cs : Array Value} {ty : TypeId} {fr : Nat × Nat} (h : OwnL w B v xss) (hg : w.heap[g]? = some (.cells cs ty fr)) (h1 : 22 ≠ ty) (h2 : 3 ≠ ty) (i : Nat) (u : Value) : OwnL (w.setCell ⟨g, i, none⟩ u) B v xss := by
  obtain ⟨vs, r1, r2⟩ := h
  have hk : ∀ b, b ≠ g → (w.setCell ⟨g, i, none⟩ u).heap[b]? = w.heap[b]? := fun b hb => by simp [World.setCell, Array.getElem?_modify, Ne.symm hb]
  refine ⟨vs, row_keep r1 fun b hb => hk b ?_, fun j hj => ⟨row_keep (r2 j hj).1 fun b hb => hk b ?_, (r2 j hj).2⟩⟩
  · rintro rfl
    exact row_not r1 hg h1 hb
  · rintro rfl
    exact row_not (r2 j hj).1 hg h2 hb
/-- Kept by what Rel keeps: a block of a type that is no row's. -/
theorem Rel.block {B bo b : Nat} {w w' : World} {ov ov' : Value} {xss : List (List Int)} {cs : Array Value} {ty : TypeId} {fr : Nat × Nat} (h : Rel B bo w ov w' ov') (ho : OwnL w B ov xss) (hb : w.heap[b]? = some (.cells cs ty fr)) (hbo : b ≠ bo) (hty : 22 ≠ ty) : w'.heap[b]? = some (.cells cs ty fr) := by
  obtain ⟨vs, hr⟩ := ho.row
  rw [h.2.1 b (lt_of_block hb) hbo (row_not hr hb hty), hb]
theorem Own.rel {B C bo : Nat} {w w' : World} {ov ov' v : Value} {xss : List (List Int)} {xs : List Int} {x : Value} (h : Own w C v xs) (hr : Rel B bo w ov w' ov') (ho : OwnL w B ov xss) (hbo : w.heap[bo]? = some (.cells #[x] 101 (0, 0))) : Own w' C v xs := by
  obtain ⟨vs, hrow⟩ := ho.row
  refine ⟨row_keep h.1 fun g hg => hr.2.1 g (h.1.lt g hg).2 ?_ ?_, h.2⟩
  · rintro rfl
    exact row_not h.1 hbo (by decide) hg
  · obtain ⟨cur, hc⟩ := row_type h.1 g hg
    exact row_not hrow hc (by decide)

/-- What the wanted-closure answers. -/
def Wants (F : FuncId) (f : Tree → Bool) : Prop := ∀ (S : Nat → Prop) (t : Tree) (cs : List Value) (w : World), NodeAt S w cs t → Calls Try.prog F #[.agg (List.toArray cs)] w fun e w' => e = .returned (.bool (f t)) ∧ Below w.heap.size w w'

/-- The list's variable behind the append. -/
theorem bo_after {B bo n : Nat} {w w2 w3 : World} {ov : Value} {vs : List Value} {o : Obj} (he : w.heap[bo]? = some (.cells #[ov] 101 (0, 0))) (hrow : w.ownsRow B 22 1 ov n vs) (hb : Below w.heap.size w w2)
    (hg : (w2.alloc o).grownBy w3 ov.ownBlock) : w3.cell? ⟨bo, 0, none⟩ = some ov ∧ w3.frozen? ⟨bo, 0, none⟩ = false := by
  have hlt := lt_of_block he
  have hal := gr_al hb o
  have h3 : w3.heap[bo]? = some (.cells #[ov] 101 (0, 0)) := by
    rw [hg.block bo (Nat.lt_of_lt_of_le hlt hal.size) (fun h => row_not hrow he (by decide) h.symm), hal.block bo hlt, he]
  exact ⟨by rw [cell_of_row w3 bo 0 _ _ (0, 0) h3]; rfl, by simp [World.frozen?, h3]⟩
/-- The clone of the path, and what the walk reads beside it. -/
def PathCloned (B bo : Nat) (p : List Int) (ov : Value) (w1 : World) (e : Ending) (w2 : World) : Prop :=
  ∃ ak nk ck, e = .returned (.slice ak nk ck) ∧ Own w2 B (.slice ak nk ck) p ∧ Below w1.heap.size w1 w2 ∧ w2.cell? ⟨bo, 0, none⟩ = some ov ∧ (w2.alloc (.cells #[.slice ak nk ck] 22)).cell? ⟨bo, 0, none⟩ = some ov
theorem path_cloned {B C bo : Nat} {p : List Int} {pv ov : Value} {w1 : World} (hp : Own w1 C pv p) (hB : B ≤ w1.heap.size) (he : w1.heap[bo]? = some (.cells #[ov] 101 (0, 0))) :
    Calls Try.prog 46 #[pv] w1.drew (PathCloned B bo p ov w1) := by
  have hd : Below w1.heap.size w1 w1.drew := gr_dr (gr_refl w1)
  refine (clone_ints p pv _ (hp.ints.below hd (Nat.le_refl _))).mono ?_
  rintro e w2 ⟨v', rfl, ho, hb⟩
  obtain ⟨a, n, c, rfl⟩ := ho.ints.slice3
  have hb2 : Below w1.heap.size w1 w2 := gr_tr hd hb
  have hc : w1.cell? ⟨bo, 0, none⟩ = some ov := by rw [cell_of_row w1 bo 0 _ _ (0, 0) he]; rfl
  exact ⟨a, n, c, rfl, ho.mono hB, hb2, by rw [hb2.cell (p := ⟨bo, 0, none⟩) (lt_of_block he), hc], by rw [(gr_al hb2 _).cell (p := ⟨bo, 0, none⟩) (lt_of_block he), hc]⟩
/-- The facts that the walk reads in a round: the variable 'each', the child's box. -/
def KF (be nb : Nat) (ev x0 x1 x2 x3 : Value) (w : World) : Prop :=
  w.cell? ⟨be, 0, none⟩ = some ev ∧ w.cell? ⟨nb, 0, none⟩ = some x0 ∧ w.cell? ⟨nb, 1, none⟩ = some x1 ∧ w.cell? ⟨nb, 2, none⟩ = some x2 ∧ w.cell? ⟨nb, 3, none⟩ = some x3
theorem KF.later {be nb : Nat} {ev x0 x1 x2 x3 : Value} {w w' : World} (h : KF be nb ev x0 x1 x2 x3 w) (hb : Below w.heap.size w w') : KF be nb ev x0 x1 x2 x3 w' := by
  obtain ⟨h0, h1, h2, h3, h4⟩ := h
  have cb := (box3 hb (g := be) (World.block_lt_of_cell? w _ h0)).1
  have cn := (box3 hb (g := nb) (World.block_lt_of_cell? w _ h1)).1
  exact ⟨by rw [cb, h0], by rw [cn, h1], by rw [cn, h2], by rw [cn, h3], by rw [cn, h4]⟩
theorem KF.drew {be nb : Nat} {ev x0 x1 x2 x3 : Value} {w : World} (h : KF be nb ev x0 x1 x2 x3 w) : KF be nb ev x0 x1 x2 x3 w.drew := h.later (gr_dr (gr_refl w))
theorem KF.alloc {be nb : Nat} {ev x0 x1 x2 x3 : Value} {w : World} (h : KF be nb ev x0 x1 x2 x3 w) (o : Obj) : KF be nb ev x0 x1 x2 x3 (w.alloc o) := h.later (gr_al (gr_refl w) o)
theorem KF.of {w : World} {be nb : Nat} {ev x0 x1 x2 x3 : Value} {t1 t2 : TypeId} (h1 : w.heap[be]? = some (.cells #[ev] t1 (0, 0))) (h2 : w.heap[nb]? = some (.cells #[x0, x1, x2, x3] t2 (0, 0))) : KF be nb ev x0 x1 x2 x3 w := by
  obtain ⟨⟨c0, c1, c2, c3⟩, _⟩ := four_facts h2
  exact ⟨by rw [cell_of_row w be 0 _ _ (0, 0) h1]; rfl, c0, c1, c2, c3⟩

/-- The cells of a path, as what is appended to. -/
theorem own_src {w : World} {B : Nat} {a : Option Addr} {n c : Nat} {p : List Int} (h : Own w B (.slice a n c) p) : ∀ b, a = some b → ∀ j u, (p.map (Value.int .i64))[j]? = some u → w.cell? (b.add j) = some u := by
  intro b hb j u hj
  obtain ⟨a', c', he, _, _, ho⟩ := h.ints.open_
  simp only [Value.slice.injEq] at he
  obtain ⟨rfl, _, _⟩ := he
  have hjl : j < p.length := by simpa using (List.getElem?_eq_some_iff.1 hj).1
  obtain ⟨g, off, hg, hc⟩ := ho (by omega)
  rw [hg] at hb
  obtain rfl := Option.some.inj hb
  rw [Addr.add_lit, hc j hjl]
  simpa [hjl] using hj
theorem row_same2 {w : World} {C : Nat} {v : Value} {p : List Int} (h : Own w C v p) (o : Obj) : Own ((World.drew w).alloc o) C v p := h.below (gr_al (gr_dr (gr_refl w)) o) (Nat.le_refl _)
theorem own_none {w : World} {B : Nat} {a : Option Addr} {n c : Nat} {p : List Int} (h : Own w B (.slice a n c) p) : a = none → n = 0 := by
  intro ha
  obtain ⟨a', c', he, _, _, ho⟩ := h.ints.open_
  simp only [Value.slice.injEq] at he
  obtain ⟨rfl, rfl, _⟩ := he
  rcases Nat.eq_zero_or_pos p.length with h0 | h0
  · exact h0
  · obtain ⟨g, off, hg, _⟩ := ho h0
    rw [ha] at hg
    cases hg

/-- Behind the append of a child's number to the path: V is the world with the child's box. -/
theorem each_app {B C n : Nat} {V w3 : World} {v' : Value} {p : List Int} {k : Int} {o : Obj} (hB : B ≤ V.heap.size) (hC : V.heap.size ≤ C) (hown : w3.ownsRow C 3 1 v' n (p.map (Value.int .i64) ++ [.int .i64 k])) (hn : n = p.length + 1)
    (hs : (p.length + 1) * 8 ≤ 140737488351232) (hg : (World.alloc V o).grownBy w3 none) : (∃ a c, v' = .slice a (p.length + 1) c) ∧ Own w3 B v' (p ++ [k]) ∧ Below V.heap.size V w3 := by
  subst hn
  have ho : Own w3 B v' (p ++ [k]) := ⟨by simpa using row_mono hown (Nat.le_trans hB hC), by simpa using hs⟩
  refine ⟨?_, ho, (gr_al (gr_refl V) o).grown hg (by simp) (fun _ h => by cases h)⟩
  obtain ⟨a, c, h⟩ := ho.ints.slice
  exact ⟨a, c, by simpa using h⟩
theorem one_i64 (n : Int) : ∀ u ∈ [Value.int .i64 n], u.oneCell' = true := by
  intro u hu
  simp at hu
  subst hu
  rfl
/-- A list of paths, all of the call's own. -/
def ListPost (w : World) (L : List (List Int)) (e : Ending) (w' : World) : Prop := ∃ v', e = .returned v' ∧ OwnL w' w.heap.size v' L ∧ Below w.heap.size w w'
theorem OwnL.base {w : World} {B C : Nat} {v : Value} {xss : List (List Int)} (h : OwnL w B v xss) (hC : C ≤ B) : OwnL w C v xss := by
  obtain ⟨vs, h1, h2⟩ := h
  exact ⟨vs, row_mono h1 hC, fun j hj => (h2 j hj).mono hC⟩
/-- Every node. -/
def allT : Tree → Bool := fun _ => true
end Go.Proofs.Ytcbljiiomnhbjaa
