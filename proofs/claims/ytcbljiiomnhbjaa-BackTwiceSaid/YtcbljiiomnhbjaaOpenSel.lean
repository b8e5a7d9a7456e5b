/- Opening an argument that is a selection. -/
import Derived.Test.YtcbljiiomnhbjaaOpenPt
namespace Go.Proofs.Ytcbljiiomnhbjaa
set_option maxRecDepth 100000
open Go.ChangeShapes Go.WideShapes Go.ChangeAt Go.RowKit Go.Deep

/-- A selection's value. -/
def SelV (w : World) (v : Value) (x : Bool × (List Int × Int) × (List Int × Int)) : Prop :=
  ∃ a1 n1 c1 a2 n2 c2, v = .agg #[.bool x.1, .slice a1 n1 c1, .int .i64 x.2.1.2, .slice a2 n2 c2, .int .i64 x.2.2.2] ∧ (Ints w (.slice a1 n1 c1) x.2.1.1 ∧ I64 x.2.1.1) ∧ Ints w (.slice a2 n2 c2) x.2.2.1 ∧ I64 x.2.2.1

theorem split2 {α : Type} {l : List α} {n m : Nat} (h : l.length = n + m) : ∃ a b, l = a ++ b ∧ a.length = n ∧ b.length = m := ⟨l.take n, l.drop n, (List.take_append_drop n l).symm, by simp; omega, by simp; omega⟩

theorem open_sel {H : Type} {enc : TypeId × Value → H} {w : World} {v : Value} {d : DataW H} {p : List MemPlace} {held : Bool}
    (h : DataW.Trod enc Try.prog w 0 (fun _ => true) held 33 v d p) {base : Nat} (hv0 : Value.okWide Try.prog w .any base 33 v) (hw : ∀ n ∈ d.weights Try.prog 33, n ≤ reachBytes) :
    ∃ x, SelV w v x := by
  obtain ⟨cs, rfl, hsz⟩ := okWide_struct Try.underlying33 hv0
  obtain ⟨fuel, hf⟩ := h
  obtain ⟨y0, y1, m, hx, hl, g0, g1⟩ := trod_struct2 Try.underlying33 hf
  simp only [Prod.mk.injEq] at hx
  obtain ⟨rfl, rfl⟩ := hx
  have k0 : Try.prog.cellsOf 4 = 1 := by kernel_rfl
  have k1 : Try.prog.cellsOf 31 = 4 := by kernel_rfl
  have k2 : Try.prog.cellsOf 29 = 2 := by kernel_rfl
  rw [show Try.prog.cellsOf 33 = 5 from by kernel_rfl] at hl
  have hl2 : cs.toList.length = 5 := hl
  match hcs : cs.toList, hl2 with
  | [c0, c1, c2, c3, c4], _ =>
    have hcs' : (Value.agg cs).cells.toList = [c0, c1, c2, c3, c4] := hcs
    rw [hcs'] at g0 g1
    simp [k0, k1] at g0 g1
    obtain ⟨b, hb, _⟩ := DataW.trod_bool Try.underlying4 g0
    obtain rfl : c0 = .bool b := by simpa using hb
    obtain ⟨z0, z1, m', hz, hl', f0, f1⟩ := trod_struct2 Try.underlying31 g1
    simp [k2] at f0 f1
    subst hz
    have w0 : ∀ n ∈ z0.1.weights Try.prog 29, n ≤ reachBytes := fun n hn => hw n (by
      simp only [DataW.weights, Try.underlying33, List.map_cons, List.map_nil]
      refine DataW.weights_mem_each (j := 1) rfl rfl n ?_
      simp only [DataW.weights, Try.underlying31, List.map_cons, List.map_nil]
      exact DataW.weights_mem_each (j := 0) rfl rfl n hn)
    have w1 : ∀ n ∈ z1.1.weights Try.prog 29, n ≤ reachBytes := fun n hn => hw n (by
      simp only [DataW.weights, Try.underlying33, List.map_cons, List.map_nil]
      refine DataW.weights_mem_each (j := 1) rfl rfl n ?_
      simp only [DataW.weights, Try.underlying31, List.map_cons, List.map_nil]
      exact DataW.weights_mem_each (j := 1) rfl rfl n hn)
    obtain ⟨a1, n1, e1, p1, o1, hc1, hp1, hi1⟩ := open_point_cells f0 w0
    obtain ⟨a2, n2, e2, p2, o2, hc2, hp2, hi2⟩ := open_point_cells f1 w1
    simp only [List.cons.injEq, and_true] at hc1 hc2
    obtain ⟨rfl, rfl⟩ := hc1
    obtain ⟨rfl, rfl⟩ := hc2
    have : cs = #[.bool b, .slice a1 n1 e1, .int .i64 o1, .slice a2 n2 e2, .int .i64 o2] := by
      rw [← Array.toArray_toList (xs := cs), hcs]
    subst this
    exact ⟨(b, (p1, o1), (p2, o2)), a1, n1, e1, a2, n2, e2, rfl, ⟨hp1, hi1⟩, hp2, hi2⟩
end Go.Proofs.Ytcbljiiomnhbjaa
