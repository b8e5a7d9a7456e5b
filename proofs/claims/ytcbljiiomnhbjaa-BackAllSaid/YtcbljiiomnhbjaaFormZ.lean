/- Plain Lean: what the fields of an operation are that has its kind's; its inverse, kind by kind. -/
import Derived.Test.YtcbljiiomnhbjaaBInvH
import Derived.Test.YtcbljiiomnhbjaaFormP
namespace Go.Proofs.Ytcbljiiomnhbjaa
set_option maxRecDepth 100000
open Go.RowKit

theorem setU_all (x : UInt8) (xs : List UInt8) (b : Bool) (bs : List Bool) (P : UInt8 → Prop) : (∀ y ∈ setU (x :: xs) (b :: bs), P y) ↔ ((b = true → P x) ∧ ∀ y ∈ setU xs bs, P y) := by
  cases b <;> simp [setU]
theorem setU_none (P : UInt8 → Prop) : (∀ y ∈ setU [] [], P y) ↔ True := by simp [setU]
/-- What the flags tell. -/
theorem form_flags (k : Int) (hk : 1 ≤ k ∧ k ≤ 9) (b1 b2 b3 b4 b5 b6 b7 b8 b9 : Bool) : (∀ x ∈ setU letters [b1, b2, b3, b4, b5, b6, b7, b8, b9], x ∈ hasS k) ↔
    ((k = 9 → b1 = false) ∧ (k ≠ 5 → b2 = false) ∧ (k ≠ 3 → k ≠ 4 → k ≠ 7 → k ≠ 8 → b3 = false) ∧ (k ≠ 1 → k ≠ 2 → b4 = false) ∧ (k ≠ 3 → k ≠ 6 → b5 = false) ∧ (k ≠ 4 → k ≠ 6 → b6 = false) ∧ (k ≠ 7 → k ≠ 8 → b7 = false) ∧ (k ≠ 9 → b8 = false) ∧ (k ≠ 9 → b9 = false)) := by
  simp only [letters, setU_all, setU_none]
  have : k = 1 ∨ k = 2 ∨ k = 3 ∨ k = 4 ∨ k = 5 ∨ k = 6 ∨ k = 7 ∨ k = 8 ∨ k = 9 := by omega
  rcases this with rfl | rfl | rfl | rfl | rfl | rfl | rfl | rfl | rfl <;> simp [hasS]
theorem sel_zero {s : SelM} (h : sselB s.1 s.2.1.1 s.2.1.2 s.2.2.1 s.2.2.2 false [] 0 [] 0 = true) : s = noSel := by
  obtain ⟨i, ⟨p, a⟩, q, b⟩ := s
  simp [sselB, ptEq] at h
  obtain ⟨rfl, ⟨rfl, rfl⟩, rfl, rfl⟩ := h
  rfl
theorem OpV.one {w : World} {cs : Array Value} {o : OpF} (h : OpV w (.agg cs) o) : cs.all (·.oneCell') = true ∧ cs.size = 21 := by
  obtain ⟨a1, c1, a2, c2, p1, m1, d1, p2, m2, d2, p3, m3, d3, a5, c5, a6, c6, a7, c7, f1, g1, h1, f2, g2, h2, i1, j1, k1, i2, j2, k2, hc, hr⟩ := h
  simp only [Value.agg.injEq] at hc
  subst hc
  exact ⟨by rw [← Array.all_toList]; rfl, rfl⟩
theorem info_op {cs : Array Value} (h : cs.size = 21) : (Try.prog.info? 35).map (·.size) = some cs.size := by rw [h]; exact op_info
/-- An operation's value is stored into a new box. -/
theorem fresh_row (w : World) (z cs : Array Value) (t : TypeId) : Below w.heap.size w ((w.alloc (.cells z t)).setRow w.heap.size cs) ∧ ((w.alloc (.cells z t)).setRow w.heap.size cs).heap[w.heap.size]? = some (.cells cs t (0, 0)) :=
  ⟨(gr_al (gr_refl w) (.cells z t)).trans ⟨rfl, rfl, rfl, by simp, fun b hb => setRow_other _ w.heap.size b _ (by omega)⟩, setRow_heap (w.alloc (.cells z t)) w.heap.size _ cs _ (0, 0) (heap_alloc_new w (.cells z t))⟩

structure FormZ (o : OpF) : Prop where
  k : 1 ≤ o.kind ∧ o.kind ≤ 9
  path : o.kind = 9 → o.path = []
  dest : o.kind ≠ 5 → o.dest = []
  pos : o.kind ≠ 3 → o.kind ≠ 4 → o.kind ≠ 7 → o.kind ≠ 8 → o.pos = 0
  node : o.kind ≠ 1 → o.kind ≠ 2 → o.node = noT
  old : o.kind ≠ 3 → o.kind ≠ 6 → o.old = []
  new : o.kind ≠ 4 → o.kind ≠ 6 → o.new = []
  text : o.kind ≠ 7 → o.kind ≠ 8 → o.text = []
  from_ : o.kind ≠ 9 → o.from_ = noSel
  into : o.kind ≠ 9 → o.into = noSel
theorem form_zero {o : OpF} : formX o = 0 ↔ FormZ o := by
  unfold formX
  by_cases hk : 1 ≤ o.kind ∧ o.kind ≤ 9
  case neg =>
    rw [if_neg hk]
    exact ⟨(fun h => by cases h), fun h => absurd h.k hk⟩
  rw [if_pos hk]
  have len0 : ∀ {α : Type} {xs : List α}, decide (0 < xs.length) = false ↔ xs = [] := fun {α xs} => by cases xs <;> simp
  have e : (∀ x ∈ setX o, x ∈ hasS o.kind) ↔ FormZ o := by
    rw [setX, flagsX, form_flags o.kind hk]
    constructor
    · rintro ⟨h1, h2, h3, h4, h5, h6, h7, h8, h9⟩
      refine ⟨hk, fun h => len0.1 (h1 h), fun h => len0.1 (h2 h), fun a b c d => ?_, fun a b => ?_, fun a b => len0.1 (h5 a b), fun a b => len0.1 (h6 a b), fun a b => len0.1 (h7 a b), fun h => sel_zero (by simpa using h8 h), fun h => sel_zero (by simpa using h9 h)⟩
      · simpa using h3 a b c d
      · exact eqT_iff.1 (by simpa using h4 a b)
    · intro z
      refine ⟨fun h => len0.2 (z.path h), fun h => len0.2 (z.dest h), fun a b c d => by simpa using z.pos a b c d, fun a b => by rw [z.node a b, noT_yes]; rfl, fun a b => len0.2 (z.old a b), fun a b => len0.2 (z.new a b), fun a b => len0.2 (z.text a b), fun h => by rw [z.from_ h]; rfl, fun h => by rw [z.into h]; rfl⟩
  by_cases hA : ∀ x ∈ setX o, x ∈ hasS o.kind
  · rw [if_pos hA]
    exact ⟨fun _ => e.1 hA, fun _ => rfl⟩
  · rw [if_neg hA]
    exact ⟨(fun h => by cases h), fun h => absurd (e.2 h) hA⟩
theorem form_cases {o : OpF} (h : formX o ≠ 0) : formX o = 1 := by
  unfold formX at *
  split at h <;> rename_i h1
  · rw [if_pos h1]
    split at h <;> rename_i h2
    · exact absurd rfl h
    · rw [if_neg h2]
  · rw [if_neg h1]
/-- The inverse where the form is right. -/
theorem inv_plain {o : OpF} (z : FormZ o) (h3 : o.kind ≠ 3) (h4 : o.kind ≠ 4) : invE o = 0 ∧ invO o = if o.kind = 5 then { undoO o with path := o.dest, dest := o.path } else undoO o := by
  have h0 := form_zero.2 z
  have he : invE o = 0 := by rw [invE, if_neg (by rw [h0]; simp), if_neg h3, if_neg h4]
  refine ⟨he, ?_⟩
  rw [invO, if_neg (by rw [he]; simp)]
  by_cases h5 : o.kind = 5
  · rw [if_pos h5, if_pos h5]
  · rw [if_neg h5, if_neg h5, if_neg h3, if_neg h4]
theorem inv_1 {o : OpF} (z : FormZ o) (h : o.kind = 1) : invO o = { o with kind := 2 } := by
  rw [(inv_plain z (by omega) (by omega)).2, if_neg (by omega), undoO, h, z.old (by omega) (by omega), z.new (by omega) (by omega), z.from_ (by omega), z.into (by omega)]
  rfl
theorem inv_2 {o : OpF} (z : FormZ o) (h : o.kind = 2) : invO o = { o with kind := 1 } := by
  rw [(inv_plain z (by omega) (by omega)).2, if_neg (by omega), undoO, h, z.old (by omega) (by omega), z.new (by omega) (by omega), z.from_ (by omega), z.into (by omega)]
  rfl
theorem inv_7 {o : OpF} (z : FormZ o) (h : o.kind = 7) : invO o = { o with kind := 8 } := by
  rw [(inv_plain z (by omega) (by omega)).2, if_neg (by omega), undoO, h, z.old (by omega) (by omega), z.new (by omega) (by omega), z.from_ (by omega), z.into (by omega)]
  rfl
theorem inv_8 {o : OpF} (z : FormZ o) (h : o.kind = 8) : invO o = { o with kind := 7 } := by
  rw [(inv_plain z (by omega) (by omega)).2, if_neg (by omega), undoO, h, z.old (by omega) (by omega), z.new (by omega) (by omega), z.from_ (by omega), z.into (by omega)]
  rfl
theorem inv_5 {o : OpF} (z : FormZ o) (h : o.kind = 5) : invO o = { o with path := o.dest, dest := o.path } := by
  rw [(inv_plain z (by omega) (by omega)).2, if_pos h, undoO, h, z.old (by omega) (by omega), z.new (by omega) (by omega), z.from_ (by omega), z.into (by omega)]
  rfl
theorem inv_6 {o : OpF} (z : FormZ o) (h : o.kind = 6) : invO o = { o with old := o.new, new := o.old } := by
  rw [(inv_plain z (by omega) (by omega)).2, if_neg (by omega), undoO, h, z.from_ (by omega), z.into (by omega)]
  rfl
theorem inv_9 {o : OpF} (z : FormZ o) (h : o.kind = 9) : invO o = { o with from_ := o.into, into := o.from_ } := by
  rw [(inv_plain z (by omega) (by omega)).2, if_neg (by omega), undoO, h, z.old (by omega) (by omega), z.new (by omega) (by omega)]
  rfl
theorem inv_3 {o : OpF} (z : FormZ o) (h : o.kind = 3) : invE o = backE o.path ∧ (backE o.path = 0 → invO o = { kO 4 with path := backL o.path, pos := o.pos, new := o.old }) ∧ (backE o.path ≠ 0 → invO o = zeroO) := by
  have h0 := form_zero.2 z
  have he : invE o = backE o.path := by rw [invE, if_neg (by rw [h0]; simp), if_pos h]
  refine ⟨he, fun hb => ?_, fun hb => by rw [invO, if_pos (by rw [he]; exact hb)]⟩
  rw [invO, if_neg (by rw [he, hb]; simp), if_neg (by omega), if_pos h, undoO, h, z.dest (by omega), z.node (by omega) (by omega), z.new (by omega) (by omega), z.text (by omega) (by omega), z.from_ (by omega), z.into (by omega)]
  rfl
theorem inv_4 {o : OpF} (z : FormZ o) (h : o.kind = 4) : invE o = nextE o.path ∧ (nextE o.path = 0 → invO o = { kO 3 with path := nextL o.path, pos := o.pos, old := o.new }) ∧ (nextE o.path ≠ 0 → invO o = zeroO) := by
  have h0 := form_zero.2 z
  have he : invE o = nextE o.path := by rw [invE, if_neg (by rw [h0]; simp), if_neg (by omega), if_pos h]
  refine ⟨he, fun hb => ?_, fun hb => by rw [invO, if_pos (by rw [he]; exact hb)]⟩
  rw [invO, if_neg (by rw [he, hb]; simp), if_neg (by omega), if_neg (by omega), if_pos h, undoO, h, z.dest (by omega), z.node (by omega) (by omega), z.old (by omega) (by omega), z.text (by omega) (by omega), z.from_ (by omega), z.into (by omega)]
  rfl
theorem inv_bad {o : OpF} (h : formX o ≠ 0) : invE o = formX o ∧ invO o = zeroO := by
  have he : invE o = formX o := by rw [invE, if_pos h]
  exact ⟨he, by rw [invO, if_pos (by rw [he]; exact h)]⟩
end Go.Proofs.Ytcbljiiomnhbjaa
