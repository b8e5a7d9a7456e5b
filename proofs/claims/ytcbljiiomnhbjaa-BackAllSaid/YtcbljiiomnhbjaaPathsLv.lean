/- Walk of tree.paths: the closure that goes down, and the whole. -/
import Derived.Test.YtcbljiiomnhbjaaPathsM
import Derived.Deep.RegionLawGrows
import Derived.Deep.AppendLies
import Derived.Deep.RegionHeld3
import Derived.Deep.DeepCutAuto
namespace Go.Proofs.Ytcbljiiomnhbjaa
set_option maxRecDepth 100000
open Go.RowKit

end Go.Proofs.Ytcbljiiomnhbjaa
