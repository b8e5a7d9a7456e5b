/- Walk of tree.paths, and of what calls it, for lv. -/
import Derived.Test.YtcbljiiomnhbjaaPathsLv
import Derived.Laws.EntriesVeiled
namespace Go.Proofs.Ytcbljiiomnhbjaa
set_option maxRecDepth 100000
open Go.RowKit

end Go.Proofs.Ytcbljiiomnhbjaa
