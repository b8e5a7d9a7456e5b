/- Opening an argument that is a selection. Opening arguments that are properties, runes, an int in its range. -/
import Derived.Test.YtcbljiiomnhbjaaOpenPt
import Derived.Test.YtcbljiiomnhbjaaOpenNode
namespace Go.Proofs.Ytcbljiiomnhbjaa
set_option maxRecDepth 100000
open Go.ChangeShapes Go.WideShapes Go.ChangeAt Go.RowKit Go.Deep

/- Opening an argument that is a selection. -/
/-- A selection's value. -/
def SelV (w : World) (v : Value) (x : Bool × (List Int × Int) × (List Int × Int)) : Prop :=
  ∃ a1 n1 c1 a2 n2 c2, v = .agg #[.bool x.1, .slice a1 n1 c1, .int .i64 x.2.1.2, .slice a2 n2 c2, .int .i64 x.2.2.2] ∧ (Ints w (.slice a1 n1 c1) x.2.1.1 ∧ I64 x.2.1.1) ∧ Ints w (.slice a2 n2 c2) x.2.2.1 ∧ I64 x.2.2.1

theorem split2 {α : Type} {l : List α} {n m : Nat} (h : l.length = n + m) : ∃ a b, l = a ++ b ∧ a.length = n ∧ b.length = m := ⟨l.take n, l.drop n, (List.take_append_drop n l).symm, by simp; omega, by simp; omega⟩

theorem open_sel {H : Type} {enc : TypeId × Value → H} {w : World} {v : Value} {d : DataW H} {p : List MemPlace} {held : Bool}
    (h : DataW.Trod enc Try.prog w 0 (fun _ => true) held 33 v d p) {base : Nat} (hv0 : Value.okWide Try.prog w .any base 33 v) (hw : ∀ n ∈ d.weights Try.prog 33, n ≤ reachBytes) :
    ∃ x, SelV w v x := by
  obtain ⟨cs, rfl, hsz⟩ := okWide_struct Try.underlying33 hv0
  obtain ⟨fuel, hf⟩ := h
  obtain ⟨y0, y1, m, hx, hl, g0, g1⟩ := trod_struct2 Try.underlying33 hf
  simp only [Prod.mk.injEq] at hx
  obtain ⟨rfl, rfl⟩ := hx
  have k0 : Try.prog.cellsOf 4 = 1 := by kernel_rfl
  have k1 : Try.prog.cellsOf 31 = 4 := by kernel_rfl
  have k2 : Try.prog.cellsOf 29 = 2 := by kernel_rfl
  rw [show Try.prog.cellsOf 33 = 5 from by kernel_rfl] at hl
  have hl2 : cs.toList.length = 5 := hl
  match hcs : cs.toList, hl2 with
  | [c0, c1, c2, c3, c4], _ =>
    have hcs' : (Value.agg cs).cells.toList = [c0, c1, c2, c3, c4] := hcs
    rw [hcs'] at g0 g1
    simp [k0, k1] at g0 g1
    obtain ⟨b, hb, _⟩ := DataW.trod_bool Try.underlying4 g0
    obtain rfl : c0 = .bool b := by simpa using hb
    obtain ⟨z0, z1, m', hz, hl', f0, f1⟩ := trod_struct2 Try.underlying31 g1
    simp [k2] at f0 f1
    subst hz
    have w0 : ∀ n ∈ z0.1.weights Try.prog 29, n ≤ reachBytes := fun n hn => hw n (by
      simp only [DataW.weights, Try.underlying33, List.map_cons, List.map_nil]
      refine DataW.weights_mem_each (j := 1) rfl rfl n ?_
      simp only [DataW.weights, Try.underlying31, List.map_cons, List.map_nil]
      exact DataW.weights_mem_each (j := 0) rfl rfl n hn)
    have w1 : ∀ n ∈ z1.1.weights Try.prog 29, n ≤ reachBytes := fun n hn => hw n (by
      simp only [DataW.weights, Try.underlying33, List.map_cons, List.map_nil]
      refine DataW.weights_mem_each (j := 1) rfl rfl n ?_
      simp only [DataW.weights, Try.underlying31, List.map_cons, List.map_nil]
      exact DataW.weights_mem_each (j := 1) rfl rfl n hn)
    obtain ⟨a1, n1, e1, p1, o1, hc1, hp1, hi1⟩ := open_point_cells f0 w0
    obtain ⟨a2, n2, e2, p2, o2, hc2, hp2, hi2⟩ := open_point_cells f1 w1
    simp only [List.cons.injEq, and_true] at hc1 hc2
    obtain ⟨rfl, rfl⟩ := hc1
    obtain ⟨rfl, rfl⟩ := hc2
    have : cs = #[.bool b, .slice a1 n1 e1, .int .i64 o1, .slice a2 n2 e2, .int .i64 o2] := by
      rw [← Array.toArray_toList (xs := cs), hcs]
    subst this
    exact ⟨(b, (p1, o1), (p2, o2)), a1, n1, e1, a2, n2, e2, rfl, ⟨hp1, hi1⟩, hp2, hi2⟩

/- Opening arguments that are properties, runes, an int in its range. -/
theorem open_props {H : Type} {enc : TypeId × Value → H} {w : World} {v : Value} {d : DataW H} {p : List MemPlace} {held : Bool}
    (h : DataW.Trod enc Try.prog w 0 (fun _ => true) held 23 v d p) {base : Nat} (hv0 : Value.okWide Try.prog w .any base 23 v) (hw : ∀ n ∈ d.weights Try.prog 23, n ≤ reachBytes) :
    ∃ ps : List (ByteArray × ByteArray), PropsAt Any w v ps := by
  obtain ⟨a, n, c, rfl⟩ := okWide_slice Try.underlying23 hv0
  obtain ⟨fuel, hf⟩ := h
  obtain ⟨es1, n1, D1, P1, s1, e1⟩ := open_sl (size := 2) (bytes := 32) Try.underlying23 (by kernel_rfl) (by kernel_rfl) (by decide) (by simpa [Value.cells] using hf) hw
  obtain ⟨ps, rfl⟩ : ∃ ps : List (ByteArray × ByteArray), es1 = ps.map propCells := map_form fun i hi => by
    obtain ⟨z0, z1, m, _, hl, g0, g1⟩ := trod_struct2 Try.underlying90 (e1 i hi).1
    have ks : Try.prog.cellsOf 9 = 1 := by kernel_rfl
    rw [show Try.prog.cellsOf 90 = 2 from by kernel_rfl] at hl
    match es1.getD i [], hl, g0, g1 with
    | [d0, d1], _, g0, g1 =>
      simp [ks] at g0 g1
      obtain ⟨u0, hu0, _⟩ := DataW.trod_string Try.underlying9 g0
      obtain ⟨u1, hu1, _⟩ := DataW.trod_string Try.underlying9 g1
      exact ⟨(u0, u1), by simp at hu0 hu1; rw [hu0, hu1]; rfl⟩
  exact ⟨ps, s1⟩
theorem open_runes {H : Type} {enc : TypeId × Value → H} {w : World} {v : Value} {d : DataW H} {p : List MemPlace} {held : Bool}
    (h : DataW.Trod enc Try.prog w 0 (fun _ => true) held 24 v d p) {base : Nat} (hv0 : Value.okWide Try.prog w .any base 24 v) (hw : ∀ n ∈ d.weights Try.prog 24, n ≤ reachBytes) :
    ∃ xs : List Int, TextAt Any w v xs := by
  obtain ⟨a, n, c, rfl⟩ := okWide_slice Try.underlying24 hv0
  obtain ⟨fuel, hf⟩ := h
  obtain ⟨es2, n2, D2, P2, s2, e2⟩ := open_sl (size := 1) (bytes := 4) Try.underlying24 (by kernel_rfl) (by kernel_rfl) (by decide) (by simpa [Value.cells] using hf) hw
  obtain ⟨rs, rfl⟩ : ∃ rs : List Int, es2 = rs.map runeCells := map_form fun i hi => by
    obtain ⟨z, hz, _⟩ := DataW.trod_int Try.underlying21 (e2 i hi).1
    exact ⟨z, hz⟩
  exact ⟨rs, s2⟩
theorem open_int64 {H : Type} {enc : TypeId × Value → H} {w : World} {v : Value} {d : DataW H} {p : List MemPlace} {held : Bool}
    (h : DataW.Trod enc Try.prog w 0 (fun _ => true) held 3 v d p) {base : Nat} (hv0 : Value.okWide Try.prog w .any base 3 v) (_ : ∀ n ∈ d.weights Try.prog 3, n ≤ reachBytes) :
    ∃ x, v = .int .i64 x ∧ -9223372036854775808 ≤ x ∧ x ≤ 9223372036854775807 := by
  obtain ⟨y, rfl⟩ := okWide_int Try.underlying3 hv0
  obtain ⟨fuel, hf⟩ := h
  obtain ⟨x, hx, _, hwf⟩ := DataW.trod_int Try.underlying3 hf
  obtain rfl : y = x := by simpa [Value.cells] using hx
  exact ⟨y, rfl, wf_i64 hwf⟩
end Go.Proofs.Ytcbljiiomnhbjaa
