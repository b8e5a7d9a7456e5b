/- A list of paths of the call's own: an element, a store of another one, a cut; what slices.IndexFunc and slices.DeleteFunc find and leave. No program in sight. -/
import Derived.Test.YtdcpoeaddhbjbaaLater
import Derived.Lib.SliceRun
namespace Go.Proofs.Ytdcpoeaddhbjbaa
set_option maxRecDepth 100000
open Go.RowKit

theorem below_setCells {B b : Nat} {a : World} (hb : B ≤ b) : ∀ (vs : List Value) (o : Nat) (w : World), Below B a w → Below B a (w.setCells b o vs)
  | [], _, _, h => h
  | v :: r, o, _, h => below_setCells hb r (o + 1) _ (h.setCell (p := ⟨b, o, none⟩) hb v)
theorem OwnL.elem {w : World} {B : Nat} {v : Value} {L : List (List Int)} (h : OwnL w B v L) (j : Nat) (hj : j < L.length) :
    ∃ g cap u, v = .slice (some ⟨g, 0, none⟩) L.length cap ∧ L.length ≤ cap ∧ B ≤ g ∧ w.cell? ⟨g, j, none⟩ = some u ∧ w.frozen? ⟨g, j, none⟩ = false ∧ Own w B u (L.getD j []) ∧
      ∀ u' x, Own w B u' x → OwnL (w.setCell ⟨g, j, none⟩ u') B v (L.set j x) ∧ Below B w (w.setCell ⟨g, j, none⟩ u') := by
  obtain ⟨vs, h1, h2⟩ := h
  have hl : vs.length = L.length := by simpa using h1.1
  obtain ⟨g, cap, hv, hc, hB, _, hcell, hfr, hset⟩ := row_at h1 j hj
  have hjv : j < vs.length := by omega
  refine ⟨g, cap, vs[j], hv, hc, hB, ?_, hfr, ?_, fun u' x hu => ?_⟩
  · rw [hcell]
    simp [hjv]
  · have := h2 j hj
    simpa [hjv] using this
  · obtain ⟨r1, r2⟩ := hset u'
    refine ⟨⟨vs.set j u', by simpa using r1, fun k hk => ?_⟩, r2⟩
    have hkL : k < L.length := by simpa using hk
    have key : ∀ {a : Value} {y : List Int}, Own w B a y → Own (w.setCell ⟨g, j, none⟩ u') B a y := by
      intro a y ha
      refine ⟨row_keep ha.1 fun b hb => ?_, ha.2⟩
      have hne : b ≠ g := by
        rintro rfl
        obtain ⟨cur, hcur⟩ := row_type ha.1 b hb
        obtain ⟨cur', hcur'⟩ := row_type h1 b (by rw [hv]; rfl)
        rw [hcur] at hcur'
        simp at hcur'
      simp [World.setCell, Array.getElem?_modify, Ne.symm hne]
    by_cases hkj : k = j
    · subst hkj
      have e1 : (vs.set k u').getD k (.slice none 0 0) = u' := by simp [hjv]
      have e2 : (L.set k x).getD k [] = x := by simp [hkL]
      rw [e1, e2]
      exact key hu
    · have e1 : (vs.set j u').getD k (.slice none 0 0) = vs.getD k (.slice none 0 0) := by simp [List.getD, Ne.symm hkj]
      have e2 : (L.set j x).getD k [] = L.getD k [] := by simp [List.getD, Ne.symm hkj]
      rw [e1, e2]
      exact key (h2 k hkL)

/-- The list cut to its first i, the cells behind them written over. -/
theorem OwnL.cut {w : World} {B g cap i : Nat} {L : List (List Int)} (h : OwnL w B (.slice (some ⟨g, 0, none⟩) L.length cap) L) (hi : i ≤ L.length) (us : List Value) :
    OwnL (w.setCells g i us) B (.slice (some ⟨g, 0, none⟩) i cap) (L.take i) ∧ Below B w (w.setCells g i us) := by
  obtain ⟨vs, h1, h2⟩ := h
  have hl : vs.length = L.length := by simpa using h1.1
  have hrow := h1
  obtain ⟨_, h⟩ := h1
  rcases h with ⟨he, _⟩ | ⟨g', cap', cur, he, hB, hg, hn, hm, hs, ht⟩
  · cases he
  · simp only [Value.slice.injEq, Option.some.injEq, Addr.mk.injEq] at he
    obtain ⟨⟨rfl, _, _⟩, _, rfl⟩ := he
    have gen : ∀ (us : List Value) (o : Nat) (W : World) (cur' : Array Value), i ≤ o → W.heap[g]? = some (.cells cur' 27 (0, 0)) → cur'.size = cap * 1 → cur'.toList.take i = vs.take i →
        ∃ c2, (W.setCells g o us).heap[g]? = some (.cells c2 27 (0, 0)) ∧ c2.size = cap * 1 ∧ c2.toList.take i = vs.take i := by
      intro us
      induction us with
      | nil => intro o W cur' _ a b c; exact ⟨cur', a, b, c⟩
      | cons x us ih =>
        intro o W cur' ho a b c
        refine ih (o + 1) (W.setCell ⟨g, o, none⟩ x) (cur'.setIfInBounds o x) (by omega) ?_ (by simpa using b) ?_
        · simp [World.setCell, Array.getElem?_modify, a]
        · rw [Array.toList_setIfInBounds, List.take_set_of_le ho, c]
    have oth : ∀ (us : List Value) (o : Nat) (W : World) (b : Nat), b ≠ g → (W.setCells g o us).heap[b]? = W.heap[b]? := by
      intro us
      induction us with
      | nil => intro o W b _; rfl
      | cons x us ih =>
        intro o W b hb
        rw [World.setCells, ih _ _ _ hb]
        simp [World.setCell, Array.getElem?_modify, Ne.symm hb]
    obtain ⟨c2, k1, k2, k3⟩ := gen us i w cur (Nat.le_refl _) hg hs (by
      have : (cur.toList.take (L.length * 1)).take i = vs.take i := by rw [ht]
      rw [← this, List.take_take]
      congr 1
      omega)
    have hlt : (L.take i).length = i := by simp; omega
    refine ⟨⟨vs.take i, ⟨by simp; omega, .inr ⟨g, cap, c2, by rw [hlt], hB, k1, by omega, hm, k2, ?_⟩⟩, fun k hk => ?_⟩, below_setCells hB us i w (Below.refl _ _)⟩
    · rw [hlt, Nat.mul_one]
      exact k3
    · have hki : k < i := by omega
      have e1 : (vs.take i).getD k (.slice none 0 0) = vs.getD k (.slice none 0 0) := by simp [List.getD, hki]
      have e2 : (L.take i).getD k [] = L.getD k [] := by simp [List.getD, hki]
      rw [e1, e2]
      have ha := h2 k (by omega)
      refine ⟨row_keep ha.1 fun b hb => oth us i w b ?_, ha.2⟩
      rintro rfl
      obtain ⟨cur1, hcur⟩ := row_type ha.1 b hb
      rw [hcur] at hg
      simp at hg
theorem OwnL.slice {w : World} {B : Nat} {v : Value} {L : List (List Int)} (h : OwnL w B v L) : ∃ a c, v = .slice a L.length c ∧ (0 < L.length → ∃ g, a = some ⟨g, 0, none⟩) := by
  obtain ⟨vs, ⟨_, h⟩, _⟩ := h
  rcases h with ⟨rfl, h0⟩ | ⟨g, cap, cur, rfl, _, hg, hn, hm, _, ht⟩
  · exact ⟨none, 0, by rw [h0], fun h => by omega⟩
  · exact ⟨_, cap, rfl, fun _ => ⟨g, rfl⟩⟩
theorem OwnL.same {w w' : World} {B : Nat} {v : Value} {L : List (List Int)} (h : OwnL w B v L) (hs : Same w w') : OwnL w' B v L := h.later (hs.below _)

/-- The list's number of elements fits: a block of a capacity. -/
theorem OwnL.len {w : World} {B : Nat} {v : Value} {L : List (List Int)} (h : OwnL w B v L) : L.length ≤ maxLen := by
  obtain ⟨vs, ⟨_, h⟩, _⟩ := h
  rcases h with ⟨rfl, h0⟩ | ⟨g, cap, cur, rfl, _, hg, hn, hm, _, ht⟩
  · omega
  · omega

/-- The first that fits. -/
def IdxIs (f : List Int → Bool) (L : List (List Int)) (r : Int) : Prop :=
  (r = -1 ∧ ∀ j, j < L.length → f (L.getD j []) = false) ∨ ∃ i : Nat, i < L.length ∧ r = i ∧ f (L.getD i []) = true ∧ ∀ j, j < i → f (L.getD j []) = false

/-- What the list holds while the ones kept move to its front: i written, j looked at. -/
def DelInv (f : List Int → Bool) (L L' : List (List Int)) (i j : Nat) : Prop :=
  L'.length = L.length ∧ i < j ∧ j ≤ L.length ∧ L'.take i = (L.take j).filter (fun x => !f x) ∧ ∀ k, j ≤ k → L'.getD k [] = L.getD k []
theorem take_snocD {L : List (List Int)} {j : Nat} (h : j < L.length) : L.take (j + 1) = L.take j ++ [L.getD j []] := by
  rw [List.take_succ_eq_append_getElem h]
  simp [h]
theorem take_all {f : List Int → Bool} {L : List (List Int)} : ∀ {i : Nat}, i ≤ L.length → (∀ j, j < i → f (L.getD j []) = false) → (L.take i).filter (fun x => !f x) = L.take i := by
  intro i hi h
  rw [List.filter_eq_self]
  intro x hx
  obtain ⟨k, hk, rfl⟩ := List.getElem_of_mem hx
  have hki : k < i := by simp at hk; omega
  have := h k hki
  have e : L.getD k [] = L[k]'(by omega) := by simp [show k < L.length by omega]
  rw [e] at this
  simp [this]
theorem DelInv.start {f : List Int → Bool} {L : List (List Int)} {i : Nat} (hi : i < L.length) (h1 : f (L.getD i []) = true) (h2 : ∀ j, j < i → f (L.getD j []) = false) : DelInv f L L i (i + 1) := by
  refine ⟨rfl, Nat.lt_succ_self _, hi, ?_, fun _ _ => rfl⟩
  rw [take_snocD hi, List.filter_append, take_all (by omega) h2]
  generalize L.getD i [] = x at *
  simp [h1]
theorem DelInv.drop {f : List Int → Bool} {L L' : List (List Int)} {i j : Nat} (h : DelInv f L L' i j) (hj : j < L.length) (h1 : f (L.getD j []) = true) : DelInv f L L' i (j + 1) := by
  obtain ⟨a, b, c, d, e⟩ := h
  refine ⟨a, by omega, hj, ?_, fun k hk => e k (by omega)⟩
  rw [take_snocD hj, List.filter_append, d]
  generalize L.getD j [] = x at *
  simp [h1]
theorem DelInv.keep {f : List Int → Bool} {L L' : List (List Int)} {i j : Nat} (h : DelInv f L L' i j) (hj : j < L.length) (h1 : f (L.getD j []) = false) : DelInv f L (L'.set i (L.getD j [])) (i + 1) (j + 1) := by
  obtain ⟨a, b, c, d, e⟩ := h
  have hi : i < (L'.set i (L.getD j [])).length := by simp; omega
  refine ⟨by simpa using a, by omega, hj, ?_, fun k hk => ?_⟩
  · rw [take_snocD hi, take_snocD hj, List.filter_append, ← d, List.take_set_of_le (Nat.le_refl _)]
    have : i < L'.length := by omega
    clear e
    generalize L.getD j [] = x at *
    simp [h1, this]
  · rw [← e k (by omega)]
    have : i ≠ k := by omega
    simp [List.getD, this]
theorem DelInv.done {f : List Int → Bool} {L L' : List (List Int)} {i : Nat} (h : DelInv f L L' i L.length) : L'.take i = L.filter (fun x => !f x) := by
  rw [h.2.2.2.1, List.take_length]
theorem filter_none {f : List Int → Bool} {L : List (List Int)} (h : ∀ j, j < L.length → f (L.getD j []) = false) : L.filter (fun x => !f x) = L := by
  have := take_all (f := f) (L := L) (Nat.le_refl _) h
  rwa [List.take_length] at this
end Go.Proofs.Ytdcpoeaddhbjbaa
