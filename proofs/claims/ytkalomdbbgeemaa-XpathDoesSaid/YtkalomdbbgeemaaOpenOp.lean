/- Opening an argument that is an operation. -/
import Derived.Test.YtkalomdbbgeemaaOpen
import Derived.Test.YtkalomdbbgeemaaXpathP
import Derived.Lib.SmallJoins
namespace Go.Proofs.Ytkalomdbbgeemaa
open Go.ChangeShapes Go.WideShapes Go.ChangeAt Go.RowKit

theorem open_path_cell {H : Type} {enc : TypeId × Value → H} {w : World} {c : Value} {y : DataW H × List MemPlace} {held : Bool} {fuel : Nat}
    (hf : DataW.trod enc Try.prog w 0 (fun _ => true) held fuel 22 [c] = some y) (hw : ∀ n ∈ y.1.weights Try.prog 22, n ≤ reachBytes) :
    ∃ xs, Ints w c xs ∧ I64 xs := by
  have hc : ∃ a len cap, c = .slice a len cap := by
    rcases open_ints Try.underlying22 Try.underlying3 (by kernel_rfl) hf with ⟨hcs, _⟩ | ⟨x, l, cc, zs, hcs, _⟩
    · simp at hcs; exact ⟨_, _, _, hcs⟩
    · simp at hcs; exact ⟨_, _, _, hcs⟩
  obtain ⟨a, len, cap, rfl⟩ := hc
  exact open_path_at (d := y.1) (p := y.2) ⟨fuel, by simpa [Value.cells] using hf⟩ hw

theorem list21 {l : List Value} (h : l.length = 21) : ∃ c0 c1 c2 c3 c4 c5 c6 c7 c8 c9 c10 c11 c12 c13 c14 c15 c16 c17 c18 c19 c20, l = [c0, c1, c2, c3, c4, c5, c6, c7, c8, c9, c10, c11, c12, c13, c14, c15, c16, c17, c18, c19, c20] := by
  match l, h with
  | [c0, c1, c2, c3, c4, c5, c6, c7, c8, c9, c10, c11, c12, c13, c14, c15, c16, c17, c18, c19, c20], _ => exact ⟨_, _, _, _, _, _, _, _, _, _, _, _, _, _, _, _, _, _, _, _, _, rfl⟩

/-- An operation, as far as paths go. -/
structure OpM where
  kind : Int
  path : List Int
  to : List Int
  pos : Int
def OpR (w : World) (v : Value) (o : OpM) : Prop := OpAt w v o.kind o.path o.to o.pos

set_option maxHeartbeats 1000000 in
theorem open_op {H : Type} {enc : TypeId × Value → H} {w : World} {v : Value} {d : DataW H} {p : List MemPlace} {held : Bool}
    (h : DataW.Trod enc Try.prog w 0 (fun _ => true) held 50 v d p) {base : Nat} (hv0 : Value.okWide Try.prog w .any base 50 v) (hw : ∀ n ∈ d.weights Try.prog 50, n ≤ reachBytes) :
    ∃ o, OpR w v o := by
  obtain ⟨cs, rfl, hsz⟩ := okWide_struct Try.underlying50 hv0
  rw [show Try.prog.cellsOf 50 = 21 from by kernel_rfl] at hsz
  obtain ⟨l⟩ := cs
  obtain ⟨c0, c1, c2, c3, c4, c5, c6, c7, c8, c9, c10, c11, c12, c13, c14, c15, c16, c17, c18, c19, c20, rfl⟩ := list21 (by simpa using hsz)
  obtain ⟨fuel, hf⟩ := h
  obtain ⟨xs, n, _, hx, hl, hlen, hf2⟩ := DataW.trod_struct Try.underlying50 hf
  match xs, hlen, hx, hf2 with
  | [y0, y1, y2, y3, y4, y5, y6, y7, y8, y9], _, hx, hf2 =>
    simp only [Prod.mk.injEq] at hx
    obtain ⟨rfl, _⟩ := hx
    have f0 := hf2 0 _ rfl
    have f1 := hf2 1 _ rfl
    have f2 := hf2 2 _ rfl
    have f3 := hf2 3 _ rfl
    have ci : Try.prog.cellsOf 3 = 1 := by kernel_rfl
    have cs : Try.prog.cellsOf 22 = 1 := by kernel_rfl
    simp [Value.cells, ci, cs] at f0 f1 f2 f3
    have wt : ∀ (j : Nat) (t : TypeId) (y : DataW H × List MemPlace), ((Try.prog.underlying 50).map fun d => match d with | .struct fs => (fs.toList.map (·.type))[j]? | _ => none) = some (some t) →
        [y0.1, y1.1, y2.1, y3.1, y4.1, y5.1, y6.1, y7.1, y8.1, y9.1][j]? = some y.1 → ∀ m ∈ y.1.weights Try.prog t, m ≤ reachBytes := by
      intro j t y ht hy m hm
      refine hw m ?_
      rw [Try.underlying50] at ht
      simp only [Option.map_some, Option.some.injEq] at ht
      simp only [List.map_cons, List.map_nil, DataW.weights, Try.underlying50]
      exact DataW.weights_mem_each ht hy m hm
    obtain ⟨x0, e0, _, _⟩ := DataW.trod_int Try.underlying3 f0
    obtain ⟨x3, e3, _, _⟩ := DataW.trod_int Try.underlying3 f3
    obtain ⟨l1, i1, _⟩ := open_path_cell f1 (wt 1 22 y1 (by rw [Try.underlying50]; rfl) rfl)
    obtain ⟨l2, i2, _⟩ := open_path_cell f2 (wt 2 22 y2 (by rw [Try.underlying50]; rfl) rfl)
    simp only [List.cons.injEq, and_true] at e0 e3
    subst e0 e3
    exact ⟨⟨x0, l1, l2, x3⟩, _, _, _, _, _, _, _, _, _, _, _, _, _, _, _, _, _, _, _, rfl, i1, i2⟩
end Go.Proofs.Ytkalomdbbgeemaa
