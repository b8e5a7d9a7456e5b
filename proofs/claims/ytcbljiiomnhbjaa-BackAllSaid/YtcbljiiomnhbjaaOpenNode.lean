/- Opening an argument that is a node: it reads as a tree. -/
import Derived.Test.YtcbljiiomnhbjaaOpen
import Derived.Test.YtcbljiiomnhbjaaNode1
import Derived.Deep.Slices
namespace Go.Proofs.Ytcbljiiomnhbjaa
set_option maxRecDepth 100000
open Go.ChangeShapes Go.WideShapes Go.ChangeAt Go.RowKit Go.Deep

theorem weights_all {H : Type} {P : Program} {e : TypeId} : ∀ {ds : List (DataW H)} {d : DataW H}, d ∈ ds → ∀ n ∈ d.weights P e, n ∈ DataW.weightsAll P e ds
  | [], _, h, _, _ => by simp at h
  | x :: r, d, h, n, hn => by
    rw [DataW.weightsAll, List.mem_append]
    rcases List.mem_cons.1 h with rfl | h
    · exact .inl hn
    · exact .inr (weights_all h n hn)

/-- A slice that came in. -/
theorem open_sl {H : Type} {enc : TypeId × Value → H} {w : World} {t e : TypeId} {size bytes fuel : Nat} {v : Value} {x : DataW H × List MemPlace} {held : Bool}
    (ht : Try.prog.underlying t = some (.slice e)) (hc : Try.prog.cellsOf e = size) (hby : Try.prog.bytesOf e = bytes) (hs : 0 < size)
    (h : DataW.trod enc Try.prog w 0 (fun _ => true) held fuel t [v] = some x) (hw : ∀ n ∈ x.1.weights Try.prog t, n ≤ reachBytes) :
    ∃ (es : List (List Value)) (n : Nat) (D : Nat → DataW H) (Pl : Nat → List MemPlace), Sl Any w size bytes v es ∧
      ∀ i, i < es.length → DataW.trod enc Try.prog w 0 (fun _ => true) held n e (es.getD i []) = some (D i, Pl i) ∧ (∀ m ∈ (D i).weights Try.prog e, m ≤ reachBytes) ∧ SizeOf.sizeOf (D i) < SizeOf.sizeOf x.1 := by
  rcases open_slice ht h with ⟨hcs, rfl⟩ | ⟨a, len, cap, m, n, D, Pl, hcs, _, hl, hm, hmm, rfl, hx⟩
  · obtain rfl : v = .slice none 0 0 := by simpa using hcs
    exact ⟨[], 0, fun _ => .nil, fun _ => [], Sl.nil _ _ _ _, fun i hi => by simp at hi⟩
  · obtain rfl : v = .slice (some a) len cap := by simpa using hcs
    simp only [if_true] at hmm
    subst hmm
    rw [hc] at hx
    have hone : ∀ i, i < m → ∃ cs', (cs'.length = size ∧ (∀ j, j < size → w.cell? ((a.add (i * size)).add j) = cs'[j]?)) ∧ DataW.trod enc Try.prog w 0 (fun _ => true) held n e cs' = some (D i, Pl i) := fun i hi => by
      obtain ⟨cs', h1, h2⟩ := hx i hi
      obtain ⟨_, h3, h4⟩ := World.cells?_some h1
      exact ⟨cs', ⟨h3, h4⟩, h2⟩
    obtain ⟨V, hV⟩ := choose_lt (α := List Value) (p := fun i cs' => (cs'.length = size ∧ (∀ j, j < size → w.cell? ((a.add (i * size)).add j) = cs'[j]?)) ∧ DataW.trod enc Try.prog w 0 (fun _ => true) held n e cs' = some (D i, Pl i)) hone
    have hb := hw (((List.range len).map D).length + ((List.range (m - len)).map fun j => D (len + j)).length |> (· * Try.prog.bytesOf e)) (by simp only [DataW.weights, ht]; exact List.mem_cons_self ..)
    rw [hby] at hb
    simp only [List.length_map, List.length_range, reachBytes] at hb
    have hg : ∀ i, i < len → ((List.range len).map V).getD i [] = V i := fun i hi => by simp [hi]
    have hlb : len * bytes ≤ 140737488351232 := Nat.le_trans (Nat.mul_le_mul_right _ (by omega)) hb
    refine ⟨(List.range len).map V, n, D, Pl, ⟨some a, m, by simp, by simpa using hl, hm, by simpa using hlb, fun c hc2 => ?_, fun hp => ?_⟩, fun i hi => ?_⟩
    · obtain ⟨i, hi, rfl⟩ := List.mem_map.1 hc2
      exact (hV i (by have := List.mem_range.1 hi; omega)).1.1
    · have h0 := (hV 0 hp).1.2 0 hs
      have hl0 := (hV 0 hp).1.1
      obtain ⟨b, off, spot⟩ := a
      have hspot : spot = none := by
        obtain ⟨c, hc3⟩ : ∃ c, (V 0)[0]? = some c := ⟨(V 0)[0]'(by omega), by simp⟩
        rw [hc3] at h0
        cases spot with
        | some s => simp [World.cell?, Addr.add] at h0; split at h0 <;> cases h0
        | none => rfl
      subst hspot
      refine ⟨b, off, rfl, fun j hj => ⟨trivial, ?_⟩⟩
      simp only [List.length_map, List.length_range] at hj
      rw [hg j hj]
      intro k u hu
      obtain ⟨e1, e2⟩ := (hV j (by omega)).1
      have hk : k < size := by rw [← e1]; exact (List.getElem?_eq_some_iff.1 hu).1
      have := e2 k hk
      rw [Addr.add_lit, Addr.add_lit, hu] at this
      exact this
    · simp only [List.length_map, List.length_range] at hi
      rw [hg i hi]
      have hmem : D i ∈ (List.range len).map D := List.mem_map.2 ⟨i, List.mem_range.2 hi, rfl⟩
      refine ⟨(hV i (by omega)).2, fun k hk => hw k ?_, ?_⟩
      · simp only [DataW.weights, ht, List.mem_cons, List.mem_append]
        exact .inr (.inl (weights_all hmem k hk))
      · have := List.sizeOf_lt_of_mem hmem
        simp only [DataW.slice.sizeOf_spec]
        omega

/-- A list whose elements all have a form. -/
theorem map_form {α : Type} [Inhabited α] {es : List (List Value)} {f : α → List Value} (h : ∀ i, i < es.length → ∃ x, es.getD i [] = f x) : ∃ xs : List α, es = xs.map f := by
  obtain ⟨X, hX⟩ := choose_lt (p := fun i x => es.getD i [] = f x) h
  refine ⟨(List.range es.length).map X, List.ext_getElem (by simp) fun i h1 h2 => ?_⟩
  have := hX i h1
  simp [h1] at this
  simp [this]

theorem open_node_at {H : Type} {enc : TypeId × Value → H} {w : World} {held : Bool} : ∀ (k fuel : Nat) (cs : List Value) (x : DataW H × List MemPlace), SizeOf.sizeOf x.1 ≤ k →
    DataW.trod enc Try.prog w 0 (fun _ => true) held fuel 27 cs = some x → (∀ n ∈ x.1.weights Try.prog 27, n ≤ reachBytes) → ∃ t, NodeAt Any w cs t := by
  intro k
  induction k with
  | zero =>
    intro fuel cs x hk
    have : 0 < SizeOf.sizeOf x.1 := by cases x.1 <;> simp <;> omega
    omega
  | succ k ih =>
    intro fuel cs x hk h hw
    obtain ⟨xs, n, _, rfl, hl, hlen, hf⟩ := DataW.trod_struct Try.underlying27 h
    rw [show Try.prog.cellsOf 27 = 4 from by kernel_rfl] at hl
    match xs, hlen, cs, hl with
    | [y0, y1, y2, y3], _, [c0, c1, c2, c3], _ =>
      have f0 := hf 0 _ rfl
      have f1 := hf 1 _ rfl
      have f2 := hf 2 _ rfl
      have f3 := hf 3 _ rfl
      have k0 : Try.prog.cellsOf 4 = 1 := by kernel_rfl
      have k1 : Try.prog.cellsOf 23 = 1 := by kernel_rfl
      have k2 : Try.prog.cellsOf 24 = 1 := by kernel_rfl
      have k3 : Try.prog.cellsOf 25 = 1 := by kernel_rfl
      simp [k0, k1, k2, k3] at f0 f1 f2 f3
      have wt : ∀ (j : Nat) (t : TypeId) (y : DataW H × List MemPlace), ((Try.prog.underlying 27).map fun d => match d with | .struct fs => (fs.toList.map (·.type))[j]? | _ => none) = some (some t) →
          [y0.1, y1.1, y2.1, y3.1][j]? = some y.1 → ∀ m ∈ y.1.weights Try.prog t, m ≤ reachBytes := by
        intro j t y ht hy m hm
        refine hw m ?_
        rw [Try.underlying27] at ht
        simp only [Option.map_some, Option.some.injEq] at ht
        simp only [List.map_cons, List.map_nil, DataW.weights, Try.underlying27]
        exact DataW.weights_mem_each ht hy m hm
      obtain ⟨b, hb, _⟩ := DataW.trod_bool Try.underlying4 f0
      obtain rfl : c0 = .bool b := by simpa using hb
      obtain ⟨es1, n1, D1, P1, s1, e1⟩ := open_sl (size := 2) (bytes := 32) Try.underlying23 (by kernel_rfl) (by kernel_rfl) (by decide) f1 (wt 1 _ y1 (by rw [Try.underlying27]; rfl) rfl)
      obtain ⟨es2, n2, D2, P2, s2, e2⟩ := open_sl (size := 1) (bytes := 4) Try.underlying24 (by kernel_rfl) (by kernel_rfl) (by decide) f2 (wt 2 _ y2 (by rw [Try.underlying27]; rfl) rfl)
      obtain ⟨es3, n3, D3, P3, s3, e3⟩ := open_sl (size := 4) (bytes := 80) Try.underlying25 (by kernel_rfl) (by kernel_rfl) (by decide) f3 (wt 3 _ y3 (by rw [Try.underlying27]; rfl) rfl)
      obtain ⟨ps, rfl⟩ : ∃ ps : List (ByteArray × ByteArray), es1 = ps.map propCells := map_form fun i hi => by
        obtain ⟨z0, z1, m, _, hl, g0, g1⟩ := trod_struct2 Try.underlying90 (e1 i hi).1
        have ks : Try.prog.cellsOf 9 = 1 := by kernel_rfl
        rw [show Try.prog.cellsOf 90 = 2 from by kernel_rfl] at hl
        match es1.getD i [], hl, g0, g1 with
        | [d0, d1], _, g0, g1 =>
          simp [ks] at g0 g1
          obtain ⟨u0, hu0, _⟩ := DataW.trod_string Try.underlying9 g0
          obtain ⟨u1, hu1, _⟩ := DataW.trod_string Try.underlying9 g1
          exact ⟨(u0, u1), by simp at hu0 hu1; rw [hu0, hu1]; rfl⟩
      obtain ⟨rs, rfl⟩ : ∃ rs : List Int, es2 = rs.map runeCells := map_form fun i hi => by
        obtain ⟨z, hz, _⟩ := DataW.trod_int Try.underlying21 (e2 i hi).1
        exact ⟨z, hz⟩
      have hks : ∀ i, i < es3.length → ∃ t, NodeAt Any w (es3.getD i []) t := fun i hi => by
        obtain ⟨g1, g2, g3⟩ := e3 i hi
        refine ih _ _ _ ?_ g1 g2
        simp at hk g3 ⊢
        omega
      obtain ⟨K, hK⟩ := choose_lt (p := fun i t => NodeAt Any w (es3.getD i []) t) hks
      refine ⟨.mk b ps rs ((List.range es3.length).map K), .mk s1 s2 s3 (by simp) fun i hi => ?_⟩
      simp only [List.length_map, List.length_range] at hi
      have := hK i hi
      simpa [hi] using this

/-- A node's value reads as a tree. -/
def NodeV (w : World) (v : Value) (t : Tree) : Prop := ∃ cs, v = .agg cs.toArray ∧ NodeAt Any w cs t
theorem open_node {H : Type} {enc : TypeId × Value → H} {w : World} {v : Value} {d : DataW H} {p : List MemPlace} {held : Bool}
    (h : DataW.Trod enc Try.prog w 0 (fun _ => true) held 27 v d p) {base : Nat} (hv0 : Value.okWide Try.prog w .any base 27 v) (hw : ∀ n ∈ d.weights Try.prog 27, n ≤ reachBytes) :
    ∃ t, NodeV w v t := by
  obtain ⟨cs, rfl, hsz⟩ := okWide_struct Try.underlying27 hv0
  obtain ⟨fuel, hf⟩ := h
  obtain ⟨t, ht⟩ := open_node_at _ fuel _ (d, p) (Nat.le_refl _) hf hw
  exact ⟨t, cs.toList, by simp, ht⟩
end Go.Proofs.Ytcbljiiomnhbjaa
