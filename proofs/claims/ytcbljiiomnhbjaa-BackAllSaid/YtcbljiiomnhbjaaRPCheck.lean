/- Walk of redlineref07.Check: whether a point may be. -/
import Derived.Test.YtcbljiiomnhbjaaRGet
namespace Go.Proofs.Ytcbljiiomnhbjaa
set_option maxRecDepth 100000
open Go.RowKit

end Go.Proofs.Ytcbljiiomnhbjaa
