/- Opening a list of operations. -/
import Derived.Test.YtcbljiiomnhbjaaOpenOpV
import Derived.Test.YtcbljiiomnhbjaaBMany
import Derived.Test.YtcbljiiomnhbjaaOpsL
namespace Go.Proofs.Ytcbljiiomnhbjaa
set_option maxRecDepth 100000
open Go.ChangeShapes Go.WideShapes Go.ChangeAt Go.RowKit Go.Deep

instance : Inhabited OpF := ⟨zeroO⟩
theorem open_ops {H : Type} {enc : TypeId × Value → H} {w : World} {v : Value} {d : DataW H} {p : List MemPlace} {held : Bool}
    (h : DataW.Trod enc Try.prog w 0 (fun _ => true) held 46 v d p) {base : Nat} (hv0 : Value.okWide Try.prog w .any base 46 v) (hw : ∀ n ∈ d.weights Try.prog 46, n ≤ reachBytes) :
    ∃ os, OpsV w v os ∧ ∀ o ∈ os, OpK o := by
  obtain ⟨a, n, c, rfl⟩ := okWide_slice Try.underlying46 hv0
  obtain ⟨fuel, hf⟩ := h
  obtain ⟨es, n1, D1, P1, s1, e1⟩ := open_sl (size := 21) (bytes := 360) Try.underlying46 (by kernel_rfl) (by kernel_rfl) (by decide) (by simpa [Value.cells] using hf) hw
  obtain ⟨X, hX⟩ := choose_lt (n := es.length) (p := fun i o => OpV w (.agg (es.getD i []).toArray) o ∧ OpK o) (fun i hi => by
    obtain ⟨o, h1, h2, h3⟩ := open_op_cells3 (e1 i hi).1 (e1 i hi).2.1
    exact ⟨o, h1, h2.1, h2.2, h3⟩)
  refine ⟨(List.range es.length).map X, ⟨es, s1, by simp, fun i hi => ?_⟩, fun o ho => ?_⟩
  · have hi' : i < es.length := by simpa using hi
    have := (hX i hi').1
    simpa [hi'] using this
  · obtain ⟨i, hi, rfl⟩ := List.mem_map.1 ho
    exact (hX i (by simpa using hi)).2
end Go.Proofs.Ytcbljiiomnhbjaa
