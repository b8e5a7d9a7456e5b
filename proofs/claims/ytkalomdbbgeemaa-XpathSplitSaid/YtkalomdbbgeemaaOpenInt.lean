/- Opening an argument that is an int. -/
import Derived.Test.YtkalomdbbgeemaaOpen
namespace Go.Proofs.Ytkalomdbbgeemaa
open Go.ChangeShapes Go.WideShapes Go.ChangeAt Go.RowKit

theorem open_int_ {H : Type} {enc : TypeId × Value → H} {w : World} {v : Value} {d : DataW H} {p : List MemPlace} {held : Bool}
    (_ : DataW.Trod enc Try.prog w 0 (fun _ => true) held 3 v d p) {base : Nat} (hv0 : Value.okWide Try.prog w .any base 3 v) (_ : ∀ n ∈ d.weights Try.prog 3, n ≤ reachBytes) :
    ∃ x, v = .int .i64 x := okWide_int Try.underlying3 hv0
end Go.Proofs.Ytkalomdbbgeemaa
