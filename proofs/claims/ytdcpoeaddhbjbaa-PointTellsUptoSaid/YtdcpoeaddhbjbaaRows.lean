/-
  NARROWER THAN 'FOR EVERY INPUT', by the rows' own cells (each row's printed sentence says how): PointText: loops · TreePaths: loops · TreePuts: loops · PointEnds: loops · PointChecks: loops · PointTells: loops · PointBeside: loops · TreeOrder: loops · TreeDoes: loops · TreeBack: loops · TreeSizes: loops.
  DERIVED. THE GIVEN ROWS OF THIS SEAT. 12 by the template 'for every input the law returns true; each argument reads behind the call as it read before'; 0 by the template 'total and deterministic' (their statements: YtdcpoeaddhbjbaaTotals.lean).
  GIVEN WITH THE SEED: the statements are not yours to turn. If you find one false, say at which input.
  Laid BY PROGRAM, IN A SANDBOX (cutbox-rows.mjs): the forced cells as the released guide's own fill.sh prints them over the translation 28261aa327a5f1c5… (all of the seat's roots in one cut). By AI agents, Wed Nov 11 2026. No macro, syntax, notation, axiom, sorry.
-/
import Derived.Test.YtdcpoeaddhbjbaaChecked
import GoSem.Claim
import GoSem.ClaimJoined
import GoSem.ClaimMapViews
import Derived.JoinedTies
import Derived.KernelRfl
namespace Go.Proofs.Ytdcpoeaddhbjbaa
/- THE CELL 'sum', in the pinned program and in every row, IS THE sha256 OF THE DUMP (.gsa) THAT YtdcpoeaddhbjbaaProg.lean LOADS. Nothing in Lean hashes anything: it is a label: what it is worth is what the hold of that sum in a sandbox is worth. -/
noncomputable def Try.pinned : Pinned := { name := "ytdcpoeaddhbjbaa", sum := "28261aa327a5f1c5a5105178aa1128567c567d328090eb773c3d66796b3ad79c", checked := Try.checked }
namespace Rows
def none {H : Type} : Left H := { results := [], args := [] }

/-- 'redlinelaw07.PointText': WHATEVER THE INPUT: true; the input reads as it did. -/
def pointTextSpec : ChangeSpec := { name := "pointText", fn := fun _ => fun
  | [d1, d2] => { results := [.lit (.bool true)], args := [d1, d2] }
  | _ => none }
def pointTextRow : OpenClaim := { program := "ytdcpoeaddhbjbaa", sum := "28261aa327a5f1c5a5105178aa1128567c567d328090eb773c3d66796b3ad79c", func := "redline/redlinelaw07.PointText", spec := "pointText", unfollowed := true, recurses := true, loops := true, apart := false }
def PointTextSaid : Prop := pointTextRow.holds Try.pinned (OpenSpec.ofChange pointTextSpec)

/-- ITS FALSE NEIGHBOUR: 'it returns false'. Refute it at one input. -/
def pointTextWrong : ChangeSpec := { name := "pointText", fn := fun _ => fun
  | [d1, d2] => { results := [.lit (.bool false)], args := [d1, d2] }
  | _ => none }
def PointTextWrongFalsely : Prop := pointTextRow.holds Try.pinned (OpenSpec.ofChange pointTextWrong)

/-- 'redlinelaw05.TreePaths': WHATEVER THE INPUT: true; the input reads as it did. -/
def treePathsSpec : ChangeSpec := { name := "treePaths", fn := fun _ => fun
  | [d] => { results := [.lit (.bool true)], args := [d] }
  | _ => none }
def treePathsRow : OpenClaim := { program := "ytdcpoeaddhbjbaa", sum := "28261aa327a5f1c5a5105178aa1128567c567d328090eb773c3d66796b3ad79c", func := "redline/redlinelaw05.TreePaths", spec := "treePaths", unfollowed := true, recurses := true, loops := true, apart := false }
def TreePathsSaid : Prop := treePathsRow.holds Try.pinned (OpenSpec.ofChange treePathsSpec)

/-- ITS FALSE NEIGHBOUR: 'it returns false'. Refute it at one input. -/
def treePathsWrong : ChangeSpec := { name := "treePaths", fn := fun _ => fun
  | [d] => { results := [.lit (.bool false)], args := [d] }
  | _ => none }
def TreePathsWrongFalsely : Prop := treePathsRow.holds Try.pinned (OpenSpec.ofChange treePathsWrong)

/-- 'redlinelaw05.TreePuts': WHATEVER THE INPUT: true; the input reads as it did. -/
def treePutsSpec : ChangeSpec := { name := "treePuts", fn := fun _ => fun
  | [d1, d2, d3, d4] => { results := [.lit (.bool true)], args := [d1, d2, d3, d4] }
  | _ => none }
def treePutsRow : OpenClaim := { program := "ytdcpoeaddhbjbaa", sum := "28261aa327a5f1c5a5105178aa1128567c567d328090eb773c3d66796b3ad79c", func := "redline/redlinelaw05.TreePuts", spec := "treePuts", unfollowed := true, recurses := true, loops := true, apart := false }
def TreePutsSaid : Prop := treePutsRow.holds Try.pinned (OpenSpec.ofChange treePutsSpec)

/-- ITS FALSE NEIGHBOUR: 'it returns false'. Refute it at one input. -/
def treePutsWrong : ChangeSpec := { name := "treePuts", fn := fun _ => fun
  | [d1, d2, d3, d4] => { results := [.lit (.bool false)], args := [d1, d2, d3, d4] }
  | _ => none }
def TreePutsWrongFalsely : Prop := treePutsRow.holds Try.pinned (OpenSpec.ofChange treePutsWrong)

/-- 'redlinelaw07.PointOrder': WHATEVER THE INPUT: true; the input reads as it did. -/
def pointOrderSpec : ChangeSpec := { name := "pointOrder", fn := fun _ => fun
  | [d1, d2, d3] => { results := [.lit (.bool true)], args := [d1, d2, d3] }
  | _ => none }
def pointOrderRow : OpenClaim := { program := "ytdcpoeaddhbjbaa", sum := "28261aa327a5f1c5a5105178aa1128567c567d328090eb773c3d66796b3ad79c", func := "redline/redlinelaw07.PointOrder", spec := "pointOrder", unfollowed := true, recurses := true, apart := false }
def PointOrderSaid : Prop := pointOrderRow.holds Try.pinned (OpenSpec.ofChange pointOrderSpec)

/-- ITS FALSE NEIGHBOUR: 'it returns false'. Refute it at one input. -/
def pointOrderWrong : ChangeSpec := { name := "pointOrder", fn := fun _ => fun
  | [d1, d2, d3] => { results := [.lit (.bool false)], args := [d1, d2, d3] }
  | _ => none }
def PointOrderWrongFalsely : Prop := pointOrderRow.holds Try.pinned (OpenSpec.ofChange pointOrderWrong)

/-- 'redlinelaw07.PointEnds': WHATEVER THE INPUT: true; the input reads as it did. -/
def pointEndsSpec : ChangeSpec := { name := "pointEnds", fn := fun _ => fun
  | [d1, d2] => { results := [.lit (.bool true)], args := [d1, d2] }
  | _ => none }
def pointEndsRow : OpenClaim := { program := "ytdcpoeaddhbjbaa", sum := "28261aa327a5f1c5a5105178aa1128567c567d328090eb773c3d66796b3ad79c", func := "redline/redlinelaw07.PointEnds", spec := "pointEnds", unfollowed := true, recurses := true, loops := true, apart := false }
def PointEndsSaid : Prop := pointEndsRow.holds Try.pinned (OpenSpec.ofChange pointEndsSpec)

/-- ITS FALSE NEIGHBOUR: 'it returns false'. Refute it at one input. -/
def pointEndsWrong : ChangeSpec := { name := "pointEnds", fn := fun _ => fun
  | [d1, d2] => { results := [.lit (.bool false)], args := [d1, d2] }
  | _ => none }
def PointEndsWrongFalsely : Prop := pointEndsRow.holds Try.pinned (OpenSpec.ofChange pointEndsWrong)

/-- 'redlinelaw07.PointChecks': WHATEVER THE INPUT: true; the input reads as it did. -/
def pointChecksSpec : ChangeSpec := { name := "pointChecks", fn := fun _ => fun
  | [d1, d2, d3, d4] => { results := [.lit (.bool true)], args := [d1, d2, d3, d4] }
  | _ => none }
def pointChecksRow : OpenClaim := { program := "ytdcpoeaddhbjbaa", sum := "28261aa327a5f1c5a5105178aa1128567c567d328090eb773c3d66796b3ad79c", func := "redline/redlinelaw07.PointChecks", spec := "pointChecks", unfollowed := true, recurses := true, loops := true, apart := false }
def PointChecksSaid : Prop := pointChecksRow.holds Try.pinned (OpenSpec.ofChange pointChecksSpec)

/-- ITS FALSE NEIGHBOUR: 'it returns false'. Refute it at one input. -/
def pointChecksWrong : ChangeSpec := { name := "pointChecks", fn := fun _ => fun
  | [d1, d2, d3, d4] => { results := [.lit (.bool false)], args := [d1, d2, d3, d4] }
  | _ => none }
def PointChecksWrongFalsely : Prop := pointChecksRow.holds Try.pinned (OpenSpec.ofChange pointChecksWrong)

/-- 'redlinelaw07.PointTells': WHATEVER THE INPUT: true; the input reads as it did. -/
def pointTellsSpec : ChangeSpec := { name := "pointTells", fn := fun _ => fun
  | [d1, d2, d3] => { results := [.lit (.bool true)], args := [d1, d2, d3] }
  | _ => none }
def pointTellsRow : OpenClaim := { program := "ytdcpoeaddhbjbaa", sum := "28261aa327a5f1c5a5105178aa1128567c567d328090eb773c3d66796b3ad79c", func := "redline/redlinelaw07.PointTells", spec := "pointTells", unfollowed := true, recurses := true, loops := true, apart := false }
def PointTellsSaid : Prop := pointTellsRow.holds Try.pinned (OpenSpec.ofChange pointTellsSpec)

/-- ITS FALSE NEIGHBOUR: 'it returns false'. Refute it at one input. -/
def pointTellsWrong : ChangeSpec := { name := "pointTells", fn := fun _ => fun
  | [d1, d2, d3] => { results := [.lit (.bool false)], args := [d1, d2, d3] }
  | _ => none }
def PointTellsWrongFalsely : Prop := pointTellsRow.holds Try.pinned (OpenSpec.ofChange pointTellsWrong)

/-- 'redlinelaw07.PointBeside': WHATEVER THE INPUT: true; the input reads as it did. -/
def pointBesideSpec : ChangeSpec := { name := "pointBeside", fn := fun _ => fun
  | [d1, d2, d3] => { results := [.lit (.bool true)], args := [d1, d2, d3] }
  | _ => none }
def pointBesideRow : OpenClaim := { program := "ytdcpoeaddhbjbaa", sum := "28261aa327a5f1c5a5105178aa1128567c567d328090eb773c3d66796b3ad79c", func := "redline/redlinelaw07.PointBeside", spec := "pointBeside", unfollowed := true, recurses := true, loops := true, apart := false }
def PointBesideSaid : Prop := pointBesideRow.holds Try.pinned (OpenSpec.ofChange pointBesideSpec)

/-- ITS FALSE NEIGHBOUR: 'it returns false'. Refute it at one input. -/
def pointBesideWrong : ChangeSpec := { name := "pointBeside", fn := fun _ => fun
  | [d1, d2, d3] => { results := [.lit (.bool false)], args := [d1, d2, d3] }
  | _ => none }
def PointBesideWrongFalsely : Prop := pointBesideRow.holds Try.pinned (OpenSpec.ofChange pointBesideWrong)

/-- 'redlinelaw05.TreeOrder': WHATEVER THE INPUT: true; the input reads as it did. -/
def treeOrderSpec : ChangeSpec := { name := "treeOrder", fn := fun _ => fun
  | [d1, d2] => { results := [.lit (.bool true)], args := [d1, d2] }
  | _ => none }
def treeOrderRow : OpenClaim := { program := "ytdcpoeaddhbjbaa", sum := "28261aa327a5f1c5a5105178aa1128567c567d328090eb773c3d66796b3ad79c", func := "redline/redlinelaw05.TreeOrder", spec := "treeOrder", unfollowed := true, recurses := true, loops := true, apart := false }
def TreeOrderSaid : Prop := treeOrderRow.holds Try.pinned (OpenSpec.ofChange treeOrderSpec)

/-- ITS FALSE NEIGHBOUR: 'it returns false'. Refute it at one input. -/
def treeOrderWrong : ChangeSpec := { name := "treeOrder", fn := fun _ => fun
  | [d1, d2] => { results := [.lit (.bool false)], args := [d1, d2] }
  | _ => none }
def TreeOrderWrongFalsely : Prop := treeOrderRow.holds Try.pinned (OpenSpec.ofChange treeOrderWrong)

/-- 'redlinelaw05.TreeDoes': WHATEVER THE INPUT: true; the input reads as it did. -/
def treeDoesSpec : ChangeSpec := { name := "treeDoes", fn := fun _ => fun
  | [d1, d2, d3] => { results := [.lit (.bool true)], args := [d1, d2, d3] }
  | _ => none }
def treeDoesRow : OpenClaim := { program := "ytdcpoeaddhbjbaa", sum := "28261aa327a5f1c5a5105178aa1128567c567d328090eb773c3d66796b3ad79c", func := "redline/redlinelaw05.TreeDoes", spec := "treeDoes", inPlace := ["slices.overlaps[redline/api.Node]"], unfollowed := true, recurses := true, loops := true, apart := false }
def TreeDoesSaid : Prop := treeDoesRow.holds Try.pinned (OpenSpec.ofChange treeDoesSpec)

/-- ITS FALSE NEIGHBOUR: 'it returns false'. Refute it at one input. -/
def treeDoesWrong : ChangeSpec := { name := "treeDoes", fn := fun _ => fun
  | [d1, d2, d3] => { results := [.lit (.bool false)], args := [d1, d2, d3] }
  | _ => none }
def TreeDoesWrongFalsely : Prop := treeDoesRow.holds Try.pinned (OpenSpec.ofChange treeDoesWrong)

/-- 'redlinelaw05.TreeBack': WHATEVER THE INPUT: true; the input reads as it did. -/
def treeBackSpec : ChangeSpec := { name := "treeBack", fn := fun _ => fun
  | [d1, d2, d3] => { results := [.lit (.bool true)], args := [d1, d2, d3] }
  | _ => none }
def treeBackRow : OpenClaim := { program := "ytdcpoeaddhbjbaa", sum := "28261aa327a5f1c5a5105178aa1128567c567d328090eb773c3d66796b3ad79c", func := "redline/redlinelaw05.TreeBack", spec := "treeBack", inPlace := ["slices.overlaps[redline/api.Node]"], unfollowed := true, recurses := true, loops := true, apart := false }
def TreeBackSaid : Prop := treeBackRow.holds Try.pinned (OpenSpec.ofChange treeBackSpec)

/-- ITS FALSE NEIGHBOUR: 'it returns false'. Refute it at one input. -/
def treeBackWrong : ChangeSpec := { name := "treeBack", fn := fun _ => fun
  | [d1, d2, d3] => { results := [.lit (.bool false)], args := [d1, d2, d3] }
  | _ => none }
def TreeBackWrongFalsely : Prop := treeBackRow.holds Try.pinned (OpenSpec.ofChange treeBackWrong)

/-- 'redlinelaw05.TreeSizes': WHATEVER THE INPUT: true; the input reads as it did. -/
def treeSizesSpec : ChangeSpec := { name := "treeSizes", fn := fun _ => fun
  | [d1, d2, d3] => { results := [.lit (.bool true)], args := [d1, d2, d3] }
  | _ => none }
def treeSizesRow : OpenClaim := { program := "ytdcpoeaddhbjbaa", sum := "28261aa327a5f1c5a5105178aa1128567c567d328090eb773c3d66796b3ad79c", func := "redline/redlinelaw05.TreeSizes", spec := "treeSizes", inPlace := ["slices.overlaps[redline/api.Node]"], unfollowed := true, recurses := true, loops := true, apart := false }
def TreeSizesSaid : Prop := treeSizesRow.holds Try.pinned (OpenSpec.ofChange treeSizesSpec)

/-- ITS FALSE NEIGHBOUR: 'it returns false'. Refute it at one input. -/
def treeSizesWrong : ChangeSpec := { name := "treeSizes", fn := fun _ => fun
  | [d1, d2, d3] => { results := [.lit (.bool false)], args := [d1, d2, d3] }
  | _ => none }
def TreeSizesWrongFalsely : Prop := treeSizesRow.holds Try.pinned (OpenSpec.ofChange treeSizesWrong)

/- THE SECOND FORM. 'bulk': how many values and letters a reading holds, each counted each time it is reached (what is shared counts as often as it is met; a slice's spare places count too). A statement '..UptoSaid' is the law's where the arguments, and the package variables that the reading takes, are together of bulk at most 1048576: NARROWER than '..Said'. Prove '..Said' where nothing that the law and all that it calls make is longer than what came in: it says more and counts as full. Else prove '..UptoSaid'. A law counts once. -/
mutual
def uptoBulk {H : Type} : DataW H → Nat
  | .lit (.string bytes) => bytes.length + 1
  | .lit _ => 1
  | .nil => 1
  | .ptr d => uptoBulk d + 1
  | .slice elems spare => uptoBulkAll elems + uptoBulkAll spare + 1
  | .agg parts => uptoBulkAll parts + 1
  | .iface _ d => uptoBulk d + 1
  | .map entries => uptoBulkEntries entries + 1
  | .held _ => 1
def uptoBulkAll {H : Type} : List (DataW H) → Nat
  | [] => 0
  | d :: r => uptoBulk d + uptoBulkAll r
def uptoBulkEntries {H : Type} : List (Lit × DataW H) → Nat
  | [] => 0
  | x :: r => uptoBulkEntry x + uptoBulkEntries r
def uptoBulkEntry {H : Type} : Lit × DataW H → Nat
  | (.string bytes, d) => bytes.length + uptoBulk d + 1
  | (_, d) => uptoBulk d + 1
 end
def uptoSmall : (H : Type) → List (DataW H) → Bool := fun _ ds => decide (uptoBulkAll ds ≤ 1048576)
def OpenSpec.upto (s : _root_.Go.ChangeSpec) : _root_.Go.OpenSpec := { _root_.Go.OpenSpec.ofChange s with cond := some uptoSmall }

/-- 'redlinelaw07.PointText', WHERE WHAT IT READS IS OF BULK AT MOST 1048576: true; the input reads as it did. -/
def pointTextUptoRow : OpenClaim := { program := "ytdcpoeaddhbjbaa", sum := "28261aa327a5f1c5a5105178aa1128567c567d328090eb773c3d66796b3ad79c", func := "redline/redlinelaw07.PointText", spec := "pointText", unfollowed := true, recurses := true, loops := true, apart := false, narrowed := true }
def PointTextUptoSaid : Prop := pointTextUptoRow.holds Try.pinned (OpenSpec.upto pointTextSpec)

/-- 'redlinelaw05.TreePaths', WHERE WHAT IT READS IS OF BULK AT MOST 1048576: true; the input reads as it did. -/
def treePathsUptoRow : OpenClaim := { program := "ytdcpoeaddhbjbaa", sum := "28261aa327a5f1c5a5105178aa1128567c567d328090eb773c3d66796b3ad79c", func := "redline/redlinelaw05.TreePaths", spec := "treePaths", unfollowed := true, recurses := true, loops := true, apart := false, narrowed := true }
def TreePathsUptoSaid : Prop := treePathsUptoRow.holds Try.pinned (OpenSpec.upto treePathsSpec)

/-- 'redlinelaw05.TreePuts', WHERE WHAT IT READS IS OF BULK AT MOST 1048576: true; the input reads as it did. -/
def treePutsUptoRow : OpenClaim := { program := "ytdcpoeaddhbjbaa", sum := "28261aa327a5f1c5a5105178aa1128567c567d328090eb773c3d66796b3ad79c", func := "redline/redlinelaw05.TreePuts", spec := "treePuts", unfollowed := true, recurses := true, loops := true, apart := false, narrowed := true }
def TreePutsUptoSaid : Prop := treePutsUptoRow.holds Try.pinned (OpenSpec.upto treePutsSpec)

/-- 'redlinelaw07.PointOrder', WHERE WHAT IT READS IS OF BULK AT MOST 1048576: true; the input reads as it did. -/
def pointOrderUptoRow : OpenClaim := { program := "ytdcpoeaddhbjbaa", sum := "28261aa327a5f1c5a5105178aa1128567c567d328090eb773c3d66796b3ad79c", func := "redline/redlinelaw07.PointOrder", spec := "pointOrder", unfollowed := true, recurses := true, apart := false, narrowed := true }
def PointOrderUptoSaid : Prop := pointOrderUptoRow.holds Try.pinned (OpenSpec.upto pointOrderSpec)

/-- 'redlinelaw07.PointEnds', WHERE WHAT IT READS IS OF BULK AT MOST 1048576: true; the input reads as it did. -/
def pointEndsUptoRow : OpenClaim := { program := "ytdcpoeaddhbjbaa", sum := "28261aa327a5f1c5a5105178aa1128567c567d328090eb773c3d66796b3ad79c", func := "redline/redlinelaw07.PointEnds", spec := "pointEnds", unfollowed := true, recurses := true, loops := true, apart := false, narrowed := true }
def PointEndsUptoSaid : Prop := pointEndsUptoRow.holds Try.pinned (OpenSpec.upto pointEndsSpec)

/-- 'redlinelaw07.PointChecks', WHERE WHAT IT READS IS OF BULK AT MOST 1048576: true; the input reads as it did. -/
def pointChecksUptoRow : OpenClaim := { program := "ytdcpoeaddhbjbaa", sum := "28261aa327a5f1c5a5105178aa1128567c567d328090eb773c3d66796b3ad79c", func := "redline/redlinelaw07.PointChecks", spec := "pointChecks", unfollowed := true, recurses := true, loops := true, apart := false, narrowed := true }
def PointChecksUptoSaid : Prop := pointChecksUptoRow.holds Try.pinned (OpenSpec.upto pointChecksSpec)

/-- 'redlinelaw07.PointTells', WHERE WHAT IT READS IS OF BULK AT MOST 1048576: true; the input reads as it did. -/
def pointTellsUptoRow : OpenClaim := { program := "ytdcpoeaddhbjbaa", sum := "28261aa327a5f1c5a5105178aa1128567c567d328090eb773c3d66796b3ad79c", func := "redline/redlinelaw07.PointTells", spec := "pointTells", unfollowed := true, recurses := true, loops := true, apart := false, narrowed := true }
def PointTellsUptoSaid : Prop := pointTellsUptoRow.holds Try.pinned (OpenSpec.upto pointTellsSpec)

/-- 'redlinelaw07.PointBeside', WHERE WHAT IT READS IS OF BULK AT MOST 1048576: true; the input reads as it did. -/
def pointBesideUptoRow : OpenClaim := { program := "ytdcpoeaddhbjbaa", sum := "28261aa327a5f1c5a5105178aa1128567c567d328090eb773c3d66796b3ad79c", func := "redline/redlinelaw07.PointBeside", spec := "pointBeside", unfollowed := true, recurses := true, loops := true, apart := false, narrowed := true }
def PointBesideUptoSaid : Prop := pointBesideUptoRow.holds Try.pinned (OpenSpec.upto pointBesideSpec)

/-- 'redlinelaw05.TreeOrder', WHERE WHAT IT READS IS OF BULK AT MOST 1048576: true; the input reads as it did. -/
def treeOrderUptoRow : OpenClaim := { program := "ytdcpoeaddhbjbaa", sum := "28261aa327a5f1c5a5105178aa1128567c567d328090eb773c3d66796b3ad79c", func := "redline/redlinelaw05.TreeOrder", spec := "treeOrder", unfollowed := true, recurses := true, loops := true, apart := false, narrowed := true }
def TreeOrderUptoSaid : Prop := treeOrderUptoRow.holds Try.pinned (OpenSpec.upto treeOrderSpec)

/-- 'redlinelaw05.TreeDoes', WHERE WHAT IT READS IS OF BULK AT MOST 1048576: true; the input reads as it did. -/
def treeDoesUptoRow : OpenClaim := { program := "ytdcpoeaddhbjbaa", sum := "28261aa327a5f1c5a5105178aa1128567c567d328090eb773c3d66796b3ad79c", func := "redline/redlinelaw05.TreeDoes", spec := "treeDoes", inPlace := ["slices.overlaps[redline/api.Node]"], unfollowed := true, recurses := true, loops := true, apart := false, narrowed := true }
def TreeDoesUptoSaid : Prop := treeDoesUptoRow.holds Try.pinned (OpenSpec.upto treeDoesSpec)

/-- 'redlinelaw05.TreeBack', WHERE WHAT IT READS IS OF BULK AT MOST 1048576: true; the input reads as it did. -/
def treeBackUptoRow : OpenClaim := { program := "ytdcpoeaddhbjbaa", sum := "28261aa327a5f1c5a5105178aa1128567c567d328090eb773c3d66796b3ad79c", func := "redline/redlinelaw05.TreeBack", spec := "treeBack", inPlace := ["slices.overlaps[redline/api.Node]"], unfollowed := true, recurses := true, loops := true, apart := false, narrowed := true }
def TreeBackUptoSaid : Prop := treeBackUptoRow.holds Try.pinned (OpenSpec.upto treeBackSpec)

/-- 'redlinelaw05.TreeSizes', WHERE WHAT IT READS IS OF BULK AT MOST 1048576: true; the input reads as it did. -/
def treeSizesUptoRow : OpenClaim := { program := "ytdcpoeaddhbjbaa", sum := "28261aa327a5f1c5a5105178aa1128567c567d328090eb773c3d66796b3ad79c", func := "redline/redlinelaw05.TreeSizes", spec := "treeSizes", inPlace := ["slices.overlaps[redline/api.Node]"], unfollowed := true, recurses := true, loops := true, apart := false, narrowed := true }
def TreeSizesUptoSaid : Prop := treeSizesUptoRow.holds Try.pinned (OpenSpec.upto treeSizesSpec)

end Rows
end Go.Proofs.Ytdcpoeaddhbjbaa
