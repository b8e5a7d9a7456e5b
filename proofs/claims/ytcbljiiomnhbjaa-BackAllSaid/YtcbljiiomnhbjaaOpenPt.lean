/- Opening an argument that is a point, or a selection. -/
import Derived.Test.YtcbljiiomnhbjaaPts
import Derived.Test.YtcbljiiomnhbjaaOpenNode
namespace Go.Proofs.Ytcbljiiomnhbjaa
set_option maxRecDepth 100000
open Go.ChangeShapes Go.WideShapes Go.ChangeAt Go.RowKit Go.Deep

theorem open_point_cells {H : Type} {enc : TypeId × Value → H} {w : World} {fuel : Nat} {cs : List Value} {x : DataW H × List MemPlace} {held : Bool}
    (h : DataW.trod enc Try.prog w 0 (fun _ => true) held fuel 29 cs = some x) (hw : ∀ n ∈ x.1.weights Try.prog 29, n ≤ reachBytes) :
    ∃ a n c p o, cs = [.slice a n c, .int .i64 o] ∧ Ints w (.slice a n c) p ∧ I64 p := by
  obtain ⟨y0, y1, m, rfl, hl, g0, g1⟩ := trod_struct2 Try.underlying29 h
  have k0 : Try.prog.cellsOf 22 = 1 := by kernel_rfl
  have k1 : Try.prog.cellsOf 3 = 1 := by kernel_rfl
  rw [show Try.prog.cellsOf 29 = 2 from by kernel_rfl] at hl
  match cs, hl, g0, g1 with
  | [c0, c1], _, g0, g1 =>
    simp [k0, k1] at g0 g1
    obtain ⟨z, hz, _⟩ := DataW.trod_int Try.underlying3 g1
    obtain rfl : c1 = .int .i64 z := by simpa using hz
    have hv : ∃ a n c, c0 = .slice a n c := by
      rcases open_slice Try.underlying22 g0 with ⟨hcs, _⟩ | ⟨a, len, cap, m', n', D, Pl, hcs, _⟩
      · exact ⟨none, 0, 0, by simpa using hcs⟩
      · exact ⟨some a, len, cap, by simpa using hcs⟩
    obtain ⟨a, n, c, rfl⟩ := hv
    obtain ⟨p, hp, hi⟩ := open_path_at (a := a) (len := n) (cap := c) ⟨_, g0⟩ (fun k hk => hw k (by
      simp only [DataW.weights, Try.underlying29, List.map_cons, List.map_nil]
      exact DataW.weights_mem_each (j := 0) rfl rfl k hk))
    exact ⟨a, n, c, p, z, rfl, hp, hi⟩

theorem open_point {H : Type} {enc : TypeId × Value → H} {w : World} {v : Value} {d : DataW H} {p : List MemPlace} {held : Bool}
    (h : DataW.Trod enc Try.prog w 0 (fun _ => true) held 29 v d p) {base : Nat} (hv0 : Value.okWide Try.prog w .any base 29 v) (hw : ∀ n ∈ d.weights Try.prog 29, n ≤ reachBytes) :
    ∃ x, PointV w v x := by
  obtain ⟨cs, rfl, hsz⟩ := okWide_struct Try.underlying29 hv0
  obtain ⟨fuel, hf⟩ := h
  obtain ⟨a, n, c, q, o, hc, hp, hi⟩ := open_point_cells hf hw
  have : cs = #[.slice a n c, .int .i64 o] := by
    have h2 : cs.toList = [.slice a n c, .int .i64 o] := hc
    rw [← Array.toArray_toList (xs := cs), h2]
  subst this
  exact ⟨(q, o), a, n, c, rfl, hp, hi⟩
end Go.Proofs.Ytcbljiiomnhbjaa
