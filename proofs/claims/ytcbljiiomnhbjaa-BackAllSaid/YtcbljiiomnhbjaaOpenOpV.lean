/- Opening an operation, whole, and a list of operations. -/
import Derived.Test.YtcbljiiomnhbjaaOpenSP
import Derived.Test.YtcbljiiomnhbjaaOpX
namespace Go.Proofs.Ytcbljiiomnhbjaa
set_option maxRecDepth 100000
open Go.ChangeShapes Go.WideShapes Go.ChangeAt Go.RowKit Go.Deep

theorem path_cell {H : Type} {enc : TypeId × Value → H} {w : World} {c : Value} {y : DataW H × List MemPlace} {held : Bool} {fuel : Nat}
    (hf : DataW.trod enc Try.prog w 0 (fun _ => true) held fuel 22 [c] = some y) (hw : ∀ n ∈ y.1.weights Try.prog 22, n ≤ reachBytes) :
    ∃ xs a k, c = .slice a xs.length k ∧ Ints w (.slice a xs.length k) xs ∧ I64 xs := by
  have hc : ∃ a len cap, c = .slice a len cap := by
    rcases open_ints Try.underlying22 Try.underlying3 (by kernel_rfl) hf with ⟨hcs, _⟩ | ⟨x, l, cc, zs, hcs, _⟩
    · simp at hcs; exact ⟨_, _, _, hcs⟩
    · simp at hcs; exact ⟨_, _, _, hcs⟩
  obtain ⟨a, len, cap, rfl⟩ := hc
  obtain ⟨xs, hi, h64⟩ := open_path_at (d := y.1) (p := y.2) ⟨fuel, by simpa [Value.cells] using hf⟩ hw
  obtain ⟨a1, c1, he⟩ := hi.slice
  obtain ⟨rfl, rfl, rfl⟩ : a = a1 ∧ len = xs.length ∧ cap = c1 := by simpa using he
  exact ⟨xs, _, _, rfl, hi, h64⟩
theorem props_cell {H : Type} {enc : TypeId × Value → H} {w : World} {c : Value} {y : DataW H × List MemPlace} {held : Bool} {fuel : Nat}
    (hf : DataW.trod enc Try.prog w 0 (fun _ => true) held fuel 23 [c] = some y) (hw : ∀ n ∈ y.1.weights Try.prog 23, n ≤ reachBytes) :
    ∃ (ps : List (ByteArray × ByteArray)) (a : Option Addr) (k : Nat), c = .slice a ps.length k ∧ PropsAt Any w (.slice a ps.length k) ps := by
  obtain ⟨es1, n1, D1, P1, s1, e1⟩ := open_sl (size := 2) (bytes := 32) Try.underlying23 (by kernel_rfl) (by kernel_rfl) (by decide) hf hw
  obtain ⟨ps, rfl⟩ : ∃ ps : List (ByteArray × ByteArray), es1 = ps.map propCells := map_form fun i hi => by
    obtain ⟨z0, z1, m, _, hl, g0, g1⟩ := trod_struct2 Try.underlying90 (e1 i hi).1
    have ks : Try.prog.cellsOf 9 = 1 := by kernel_rfl
    rw [show Try.prog.cellsOf 90 = 2 from by kernel_rfl] at hl
    match es1.getD i [], hl, g0, g1 with
    | [d0, d1], _, g0, g1 =>
      simp [ks] at g0 g1
      obtain ⟨u0, hu0, _⟩ := DataW.trod_string Try.underlying9 g0
      obtain ⟨u1, hu1, _⟩ := DataW.trod_string Try.underlying9 g1
      exact ⟨(u0, u1), by simp at hu0 hu1; rw [hu0, hu1]; rfl⟩
  obtain ⟨a, k, rfl⟩ := s1.slice
  rw [List.length_map] at *
  exact ⟨ps, a, k, rfl, s1⟩
theorem text_cell {H : Type} {enc : TypeId × Value → H} {w : World} {c : Value} {y : DataW H × List MemPlace} {held : Bool} {fuel : Nat}
    (hf : DataW.trod enc Try.prog w 0 (fun _ => true) held fuel 24 [c] = some y) (hw : ∀ n ∈ y.1.weights Try.prog 24, n ≤ reachBytes) :
    ∃ (xs : List Int) (a : Option Addr) (k : Nat), c = .slice a xs.length k ∧ TextAt Any w (.slice a xs.length k) xs := by
  obtain ⟨es2, n2, D2, P2, s2, e2⟩ := open_sl (size := 1) (bytes := 4) Try.underlying24 (by kernel_rfl) (by kernel_rfl) (by decide) hf hw
  obtain ⟨rs, rfl⟩ : ∃ rs : List Int, es2 = rs.map runeCells := map_form fun i hi => by
    obtain ⟨z, hz, _⟩ := DataW.trod_int Try.underlying21 (e2 i hi).1
    exact ⟨z, hz⟩
  obtain ⟨a, k, rfl⟩ := s2.slice
  rw [List.length_map] at *
  exact ⟨rs, a, k, rfl, s2⟩
theorem sel_cells {H : Type} {enc : TypeId × Value → H} {w : World} {cs : List Value} {y : DataW H × List MemPlace} {held : Bool} {fuel : Nat}
    (hf : DataW.trod enc Try.prog w 0 (fun _ => true) held fuel 33 cs = some y) (hw : ∀ n ∈ y.1.weights Try.prog 33, n ≤ reachBytes) :
    ∃ (s : SelM) (a1 : Option Addr) (n1 c1 : Nat) (a2 : Option Addr) (n2 c2 : Nat), cs = [.bool s.1, .slice a1 n1 c1, .int .i64 s.2.1.2, .slice a2 n2 c2, .int .i64 s.2.2.2] ∧ Ints w (.slice a1 n1 c1) s.2.1.1 ∧ Ints w (.slice a2 n2 c2) s.2.2.1 := by
  obtain ⟨y0, y1, m, hx, hl, g0, g1⟩ := trod_struct2 Try.underlying33 hf
  subst hx
  have k0 : Try.prog.cellsOf 4 = 1 := by kernel_rfl
  have k1 : Try.prog.cellsOf 31 = 4 := by kernel_rfl
  have k2 : Try.prog.cellsOf 29 = 2 := by kernel_rfl
  rw [show Try.prog.cellsOf 33 = 5 from by kernel_rfl] at hl
  match cs, hl with
  | [c0, c1, c2, c3, c4], _ =>
    simp [k0, k1] at g0 g1
    obtain ⟨b, hb, _⟩ := DataW.trod_bool Try.underlying4 g0
    obtain rfl : c0 = .bool b := by simpa using hb
    obtain ⟨z0, z1, m', hz, hl', f0, f1⟩ := trod_struct2 Try.underlying31 g1
    simp [k2] at f0 f1
    subst hz
    have w0 : ∀ n ∈ z0.1.weights Try.prog 29, n ≤ reachBytes := fun n hn => hw n (by
      simp only [DataW.weights, Try.underlying33, List.map_cons, List.map_nil]
      refine DataW.weights_mem_each (j := 1) rfl rfl n ?_
      simp only [DataW.weights, Try.underlying31, List.map_cons, List.map_nil]
      exact DataW.weights_mem_each (j := 0) rfl rfl n hn)
    have w1 : ∀ n ∈ z1.1.weights Try.prog 29, n ≤ reachBytes := fun n hn => hw n (by
      simp only [DataW.weights, Try.underlying33, List.map_cons, List.map_nil]
      refine DataW.weights_mem_each (j := 1) rfl rfl n ?_
      simp only [DataW.weights, Try.underlying31, List.map_cons, List.map_nil]
      exact DataW.weights_mem_each (j := 1) rfl rfl n hn)
    obtain ⟨a1, n1, e1, p1, o1, hc1, hp1, hi1⟩ := open_point_cells f0 w0
    obtain ⟨a2, n2, e2, p2, o2, hc2, hp2, hi2⟩ := open_point_cells f1 w1
    simp only [List.cons.injEq, and_true] at hc1 hc2
    obtain ⟨rfl, rfl⟩ := hc1
    obtain ⟨rfl, rfl⟩ := hc2
    exact ⟨(b, (p1, o1), (p2, o2)), a1, n1, e1, a2, n2, e2, rfl, hp1, hp2⟩
theorem list21 {l : List Value} (h : l.length = 21) : ∃ c0 c1 c2 c3 c4 c5 c6 c7 c8 c9 c10 c11 c12 c13 c14 c15 c16 c17 c18 c19 c20, l = [c0, c1, c2, c3, c4, c5, c6, c7, c8, c9, c10, c11, c12, c13, c14, c15, c16, c17, c18, c19, c20] := by
  match l, h with
  | [c0, c1, c2, c3, c4, c5, c6, c7, c8, c9, c10, c11, c12, c13, c14, c15, c16, c17, c18, c19, c20], _ => exact ⟨_, _, _, _, _, _, _, _, _, _, _, _, _, _, _, _, _, _, _, _, _, rfl⟩

/-- What else is known of an operation that came in. -/
def OpOk (o : OpF) : Prop := (-9223372036854775808 ≤ o.kind ∧ o.kind ≤ 9223372036854775807) ∧ I64 o.path
set_option maxHeartbeats 1000000 in
theorem open_op_cells3 {H : Type} {enc : TypeId × Value → H} {w : World} {cs : List Value} {x : DataW H × List MemPlace} {held : Bool} {fuel : Nat}
    (hf : DataW.trod enc Try.prog w 0 (fun _ => true) held fuel 35 cs = some x) (hw : ∀ n ∈ x.1.weights Try.prog 35, n ≤ reachBytes) :
    ∃ o, OpV w (.agg cs.toArray) o ∧ OpOk o ∧ I64 o.dest := by
  obtain ⟨xs, n, _, hx, hl, hlen, hf2⟩ := DataW.trod_struct Try.underlying35 hf
  rw [show Try.prog.cellsOf 35 = 21 from by kernel_rfl] at hl
  obtain ⟨c0, c1, c2, c3, c4, c5, c6, c7, c8, c9, c10, c11, c12, c13, c14, c15, c16, c17, c18, c19, c20, rfl⟩ := list21 hl
  match xs, hlen, hx, hf2 with
  | [y0, y1, y2, y3, y4, y5, y6, y7, y8, y9], _, hx, hf2 =>
    subst hx
    have f0 := hf2 0 _ rfl
    have f1 := hf2 1 _ rfl
    have f2 := hf2 2 _ rfl
    have f3 := hf2 3 _ rfl
    have f4 := hf2 4 _ rfl
    have f5 := hf2 5 _ rfl
    have f6 := hf2 6 _ rfl
    have f7 := hf2 7 _ rfl
    have f8 := hf2 8 _ rfl
    have f9 := hf2 9 _ rfl
    have ci : Try.prog.cellsOf 3 = 1 := by kernel_rfl
    have cs : Try.prog.cellsOf 22 = 1 := by kernel_rfl
    have cn : Try.prog.cellsOf 27 = 4 := by kernel_rfl
    have cp : Try.prog.cellsOf 23 = 1 := by kernel_rfl
    have cr : Try.prog.cellsOf 24 = 1 := by kernel_rfl
    have ce : Try.prog.cellsOf 33 = 5 := by kernel_rfl
    simp [ci, cs, cn, cp, cr, ce] at f0 f1 f2 f3 f4 f5 f6 f7 f8 f9
    have wt : ∀ (j : Nat) (t : TypeId) (y : DataW H × List MemPlace), ((Try.prog.underlying 35).map fun d => match d with | .struct fs => (fs.toList.map (·.type))[j]? | _ => none) = some (some t) →
        [y0.1, y1.1, y2.1, y3.1, y4.1, y5.1, y6.1, y7.1, y8.1, y9.1][j]? = some y.1 → ∀ m ∈ y.1.weights Try.prog t, m ≤ reachBytes := by
      intro j t y ht hy m hm
      refine hw m ?_
      rw [Try.underlying35] at ht
      simp only [Option.map_some, Option.some.injEq] at ht
      simp only [List.map_cons, List.map_nil, DataW.weights, Try.underlying35]
      exact DataW.weights_mem_each ht hy m hm
    obtain ⟨x0, e0, _, hwf⟩ := DataW.trod_int Try.underlying3 f0
    obtain ⟨x3, e3, _, _⟩ := DataW.trod_int Try.underlying3 f3
    obtain ⟨l1, a1, k1, rfl, i1, j1⟩ := path_cell f1 (wt 1 22 y1 (by rw [Try.underlying35]; rfl) rfl)
    obtain ⟨l2, a2, k2, rfl, i2, j2⟩ := path_cell f2 (wt 2 22 y2 (by rw [Try.underlying35]; rfl) rfl)
    obtain ⟨t4, h4⟩ := open_node_at _ _ _ _ (Nat.le_refl _) f4 (wt 4 27 y4 (by rw [Try.underlying35]; rfl) rfl)
    obtain ⟨b1, m1, d1, b2, m2, d2, b3, m3, d3, h4e⟩ := h4.form
    simp only [List.cons.injEq, and_true] at h4e
    obtain ⟨rfl, rfl, rfl, rfl⟩ := h4e
    obtain ⟨l5, a5, k5, rfl, i5⟩ := props_cell f5 (wt 5 23 y5 (by rw [Try.underlying35]; rfl) rfl)
    obtain ⟨l6, a6, k6, rfl, i6⟩ := props_cell f6 (wt 6 23 y6 (by rw [Try.underlying35]; rfl) rfl)
    obtain ⟨l7, a7, k7, rfl, i7⟩ := text_cell f7 (wt 7 24 y7 (by rw [Try.underlying35]; rfl) rfl)
    obtain ⟨s8, p1, q1, r1, p2, q2, r2, e8, i8, j8⟩ := sel_cells f8 (wt 8 33 y8 (by rw [Try.underlying35]; rfl) rfl)
    obtain ⟨s9, p3, q3, r3, p4, q4, r4, e9, i9, j9⟩ := sel_cells f9 (wt 9 33 y9 (by rw [Try.underlying35]; rfl) rfl)
    simp only [List.cons.injEq, and_true] at e0 e3 e8 e9
    obtain ⟨rfl, rfl, rfl, rfl, rfl⟩ := e8
    obtain ⟨rfl, rfl, rfl, rfl, rfl⟩ := e9
    subst e0 e3
    exact ⟨⟨x0, l1, l2, x3, t4, l5, l6, l7, s8, s9⟩, ⟨a1, k1, a2, k2, b1, m1, d1, b2, m2, d2, b3, m3, d3, a5, k5, a6, k6, a7, k7, p1, q1, r1, p2, q2, r2, p3, q3, r3, p4, q4, r4, rfl, ⟨i1, i2, h4, i5, i6, i7, i8, j8, i9, j9⟩⟩, ⟨wf_i64 hwf, j1⟩, j2⟩
theorem open_op_cells {H : Type} {enc : TypeId × Value → H} {w : World} {cs : List Value} {x : DataW H × List MemPlace} {held : Bool} {fuel : Nat}
    (hf : DataW.trod enc Try.prog w 0 (fun _ => true) held fuel 35 cs = some x) (hw : ∀ n ∈ x.1.weights Try.prog 35, n ≤ reachBytes) :
    ∃ o, OpV w (.agg cs.toArray) o ∧ OpOk o := by
  obtain ⟨o, h1, h2, -⟩ := open_op_cells3 hf hw
  exact ⟨o, h1, h2⟩
theorem open_opV {H : Type} {enc : TypeId × Value → H} {w : World} {v : Value} {d : DataW H} {p : List MemPlace} {held : Bool}
    (h : DataW.Trod enc Try.prog w 0 (fun _ => true) held 35 v d p) {base : Nat} (hv0 : Value.okWide Try.prog w .any base 35 v) (hw : ∀ n ∈ d.weights Try.prog 35, n ≤ reachBytes) :
    ∃ o, OpV w v o ∧ OpOk o := by
  obtain ⟨cs, rfl, hsz⟩ := okWide_struct Try.underlying35 hv0
  obtain ⟨fuel, hf⟩ := h
  obtain ⟨o, h1, h2⟩ := open_op_cells hf hw
  exact ⟨o, by simpa [Value.cells] using h1, h2⟩
end Go.Proofs.Ytcbljiiomnhbjaa
