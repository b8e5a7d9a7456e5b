/- Opening arguments that are properties, runes, an int in its range. -/
import Derived.Test.YtcbljiiomnhbjaaOpenNode
namespace Go.Proofs.Ytcbljiiomnhbjaa
set_option maxRecDepth 100000
open Go.ChangeShapes Go.WideShapes Go.ChangeAt Go.RowKit Go.Deep

theorem open_props {H : Type} {enc : TypeId × Value → H} {w : World} {v : Value} {d : DataW H} {p : List MemPlace} {held : Bool}
    (h : DataW.Trod enc Try.prog w 0 (fun _ => true) held 23 v d p) {base : Nat} (hv0 : Value.okWide Try.prog w .any base 23 v) (hw : ∀ n ∈ d.weights Try.prog 23, n ≤ reachBytes) :
    ∃ ps : List (ByteArray × ByteArray), PropsAt Any w v ps := by
  obtain ⟨a, n, c, rfl⟩ := okWide_slice Try.underlying23 hv0
  obtain ⟨fuel, hf⟩ := h
  obtain ⟨es1, n1, D1, P1, s1, e1⟩ := open_sl (size := 2) (bytes := 32) Try.underlying23 (by kernel_rfl) (by kernel_rfl) (by decide) (by simpa [Value.cells] using hf) hw
  obtain ⟨ps, rfl⟩ : ∃ ps : List (ByteArray × ByteArray), es1 = ps.map propCells := map_form fun i hi => by
    obtain ⟨z0, z1, m, _, hl, g0, g1⟩ := trod_struct2 Try.underlying90 (e1 i hi).1
    have ks : Try.prog.cellsOf 9 = 1 := by kernel_rfl
    rw [show Try.prog.cellsOf 90 = 2 from by kernel_rfl] at hl
    match es1.getD i [], hl, g0, g1 with
    | [d0, d1], _, g0, g1 =>
      simp [ks] at g0 g1
      obtain ⟨u0, hu0, _⟩ := DataW.trod_string Try.underlying9 g0
      obtain ⟨u1, hu1, _⟩ := DataW.trod_string Try.underlying9 g1
      exact ⟨(u0, u1), by simp at hu0 hu1; rw [hu0, hu1]; rfl⟩
  exact ⟨ps, s1⟩
theorem open_runes {H : Type} {enc : TypeId × Value → H} {w : World} {v : Value} {d : DataW H} {p : List MemPlace} {held : Bool}
    (h : DataW.Trod enc Try.prog w 0 (fun _ => true) held 24 v d p) {base : Nat} (hv0 : Value.okWide Try.prog w .any base 24 v) (hw : ∀ n ∈ d.weights Try.prog 24, n ≤ reachBytes) :
    ∃ xs : List Int, TextAt Any w v xs := by
  obtain ⟨a, n, c, rfl⟩ := okWide_slice Try.underlying24 hv0
  obtain ⟨fuel, hf⟩ := h
  obtain ⟨es2, n2, D2, P2, s2, e2⟩ := open_sl (size := 1) (bytes := 4) Try.underlying24 (by kernel_rfl) (by kernel_rfl) (by decide) (by simpa [Value.cells] using hf) hw
  obtain ⟨rs, rfl⟩ : ∃ rs : List Int, es2 = rs.map runeCells := map_form fun i hi => by
    obtain ⟨z, hz, _⟩ := DataW.trod_int Try.underlying21 (e2 i hi).1
    exact ⟨z, hz⟩
  exact ⟨rs, s2⟩
theorem open_int64 {H : Type} {enc : TypeId × Value → H} {w : World} {v : Value} {d : DataW H} {p : List MemPlace} {held : Bool}
    (h : DataW.Trod enc Try.prog w 0 (fun _ => true) held 3 v d p) {base : Nat} (hv0 : Value.okWide Try.prog w .any base 3 v) (_ : ∀ n ∈ d.weights Try.prog 3, n ≤ reachBytes) :
    ∃ x, v = .int .i64 x ∧ -9223372036854775808 ≤ x ∧ x ≤ 9223372036854775807 := by
  obtain ⟨y, rfl⟩ := okWide_int Try.underlying3 hv0
  obtain ⟨fuel, hf⟩ := h
  obtain ⟨x, hx, _, hwf⟩ := DataW.trod_int Try.underlying3 hf
  obtain rfl : y = x := by simpa [Value.cells] using hx
  exact ⟨y, rfl, wf_i64 hwf⟩
end Go.Proofs.Ytcbljiiomnhbjaa
