/- Walks of package trail: beside, Next, Back. -/
import Derived.Test.YtdcpoeaddhbjbaaTrail3
namespace Go.Proofs.Ytdcpoeaddhbjbaa
set_option maxRecDepth 100000
open Go.RowKit

theorem I64.last {xs : List Int} (h : I64 xs) (hp : 0 < xs.length) : -9223372036854775808 ≤ lastI xs ∧ lastI xs ≤ 9223372036854775807 := by
  refine h _ ?_
  simp only [lastI, List.getD]
  rw [List.getElem?_eq_getElem (by omega)]
  exact List.getElem_mem _

end Go.Proofs.Ytdcpoeaddhbjbaa
