/-
  NARROWER THAN 'FOR EVERY INPUT', by the rows' own cells (each row's printed sentence says how): BackDoes: loops · BackForm: loops · BackAll: loops · BackParts: loops · BackTwice: loops · BackPaths: loops.
  DERIVED. THE GIVEN ROWS OF THIS SEAT. 6 by the template 'for every input the law returns true; each argument reads behind the call as it read before'; 0 by the template 'total and deterministic' (their statements: YtcbljiiomnhbjaaTotals.lean).
  GIVEN WITH THE SEED: the statements are not yours to turn. If you find one false, say at which input.
  Laid BY PROGRAM, IN A SANDBOX (cutbox-rows.mjs): the forced cells as the released guide's own fill.sh prints them over the translation c657c393e384b637… (all of the seat's roots in one cut). By AI agents, Wed Nov 11 2026. No macro, syntax, notation, axiom, sorry.
-/
import Derived.Test.YtcbljiiomnhbjaaChecked
import GoSem.Claim
import GoSem.ClaimJoined
import GoSem.ClaimMapViews
import Derived.JoinedTies
import Derived.KernelRfl
namespace Go.Proofs.Ytcbljiiomnhbjaa
/- THE CELL 'sum', in the pinned program and in every row, IS THE sha256 OF THE DUMP (.gsa) THAT YtcbljiiomnhbjaaProg.lean LOADS. Nothing in Lean hashes anything: it is a label: what it is worth is what the hold of that sum in a sandbox is worth. -/
noncomputable def Try.pinned : Pinned := { name := "ytcbljiiomnhbjaa", sum := "c657c393e384b6379f8637c3306bc73e64c29e29671f881160554bc2cb8cb35e", checked := Try.checked }
namespace Rows
def none {H : Type} : Left H := { results := [], args := [] }

/-- 'redlinelaw11.BackDoes': WHATEVER THE INPUT: true; the input reads as it did. -/
def backDoesSpec : ChangeSpec := { name := "backDoes", fn := fun _ => fun
  | [d] => { results := [.lit (.bool true)], args := [d] }
  | _ => none }
def backDoesRow : OpenClaim := { program := "ytcbljiiomnhbjaa", sum := "c657c393e384b6379f8637c3306bc73e64c29e29671f881160554bc2cb8cb35e", func := "redline/redlinelaw11.BackDoes", spec := "backDoes", unfollowed := true, recurses := true, loops := true, apart := false }
def BackDoesSaid : Prop := backDoesRow.holds Try.pinned (OpenSpec.ofChange backDoesSpec)

/-- ITS FALSE NEIGHBOUR: 'it returns false'. Refute it at one input. -/
def backDoesWrong : ChangeSpec := { name := "backDoes", fn := fun _ => fun
  | [d] => { results := [.lit (.bool false)], args := [d] }
  | _ => none }
def BackDoesWrongFalsely : Prop := backDoesRow.holds Try.pinned (OpenSpec.ofChange backDoesWrong)

/-- 'redlinelaw11.BackForm': WHATEVER THE INPUT: true; the input reads as it did. -/
def backFormSpec : ChangeSpec := { name := "backForm", fn := fun _ => fun
  | [d1, d2, d3, d4, d5] => { results := [.lit (.bool true)], args := [d1, d2, d3, d4, d5] }
  | _ => none }
def backFormRow : OpenClaim := { program := "ytcbljiiomnhbjaa", sum := "c657c393e384b6379f8637c3306bc73e64c29e29671f881160554bc2cb8cb35e", func := "redline/redlinelaw11.BackForm", spec := "backForm", unfollowed := true, recurses := true, loops := true, apart := false }
def BackFormSaid : Prop := backFormRow.holds Try.pinned (OpenSpec.ofChange backFormSpec)

/-- ITS FALSE NEIGHBOUR: 'it returns false'. Refute it at one input. -/
def backFormWrong : ChangeSpec := { name := "backForm", fn := fun _ => fun
  | [d1, d2, d3, d4, d5] => { results := [.lit (.bool false)], args := [d1, d2, d3, d4, d5] }
  | _ => none }
def BackFormWrongFalsely : Prop := backFormRow.holds Try.pinned (OpenSpec.ofChange backFormWrong)

/-- 'redlinelaw11.BackAll': WHATEVER THE INPUT: true; the input reads as it did. -/
def backAllSpec : ChangeSpec := { name := "backAll", fn := fun _ => fun
  | [d] => { results := [.lit (.bool true)], args := [d] }
  | _ => none }
def backAllRow : OpenClaim := { program := "ytcbljiiomnhbjaa", sum := "c657c393e384b6379f8637c3306bc73e64c29e29671f881160554bc2cb8cb35e", func := "redline/redlinelaw11.BackAll", spec := "backAll", unfollowed := true, recurses := true, loops := true, apart := false }
def BackAllSaid : Prop := backAllRow.holds Try.pinned (OpenSpec.ofChange backAllSpec)

/-- ITS FALSE NEIGHBOUR: 'it returns false'. Refute it at one input. -/
def backAllWrong : ChangeSpec := { name := "backAll", fn := fun _ => fun
  | [d] => { results := [.lit (.bool false)], args := [d] }
  | _ => none }
def BackAllWrongFalsely : Prop := backAllRow.holds Try.pinned (OpenSpec.ofChange backAllWrong)

/-- 'redlinelaw11.BackParts': WHATEVER THE INPUT: true; the input reads as it did. -/
def backPartsSpec : ChangeSpec := { name := "backParts", fn := fun _ => fun
  | [d1, d2] => { results := [.lit (.bool true)], args := [d1, d2] }
  | _ => none }
def backPartsRow : OpenClaim := { program := "ytcbljiiomnhbjaa", sum := "c657c393e384b6379f8637c3306bc73e64c29e29671f881160554bc2cb8cb35e", func := "redline/redlinelaw11.BackParts", spec := "backParts", unfollowed := true, recurses := true, loops := true, apart := false }
def BackPartsSaid : Prop := backPartsRow.holds Try.pinned (OpenSpec.ofChange backPartsSpec)

/-- ITS FALSE NEIGHBOUR: 'it returns false'. Refute it at one input. -/
def backPartsWrong : ChangeSpec := { name := "backParts", fn := fun _ => fun
  | [d1, d2] => { results := [.lit (.bool false)], args := [d1, d2] }
  | _ => none }
def BackPartsWrongFalsely : Prop := backPartsRow.holds Try.pinned (OpenSpec.ofChange backPartsWrong)

/-- 'redlinelaw11.BackTwice': WHATEVER THE INPUT: true; the input reads as it did. -/
def backTwiceSpec : ChangeSpec := { name := "backTwice", fn := fun _ => fun
  | [d] => { results := [.lit (.bool true)], args := [d] }
  | _ => none }
def backTwiceRow : OpenClaim := { program := "ytcbljiiomnhbjaa", sum := "c657c393e384b6379f8637c3306bc73e64c29e29671f881160554bc2cb8cb35e", func := "redline/redlinelaw11.BackTwice", spec := "backTwice", unfollowed := true, recurses := true, loops := true, apart := false }
def BackTwiceSaid : Prop := backTwiceRow.holds Try.pinned (OpenSpec.ofChange backTwiceSpec)

/-- ITS FALSE NEIGHBOUR: 'it returns false'. Refute it at one input. -/
def backTwiceWrong : ChangeSpec := { name := "backTwice", fn := fun _ => fun
  | [d] => { results := [.lit (.bool false)], args := [d] }
  | _ => none }
def BackTwiceWrongFalsely : Prop := backTwiceRow.holds Try.pinned (OpenSpec.ofChange backTwiceWrong)

/-- 'redlinelaw11.BackPaths': WHATEVER THE INPUT: true; the input reads as it did. -/
def backPathsSpec : ChangeSpec := { name := "backPaths", fn := fun _ => fun
  | [d1, d2] => { results := [.lit (.bool true)], args := [d1, d2] }
  | _ => none }
def backPathsRow : OpenClaim := { program := "ytcbljiiomnhbjaa", sum := "c657c393e384b6379f8637c3306bc73e64c29e29671f881160554bc2cb8cb35e", func := "redline/redlinelaw11.BackPaths", spec := "backPaths", unfollowed := true, recurses := true, loops := true, apart := false }
def BackPathsSaid : Prop := backPathsRow.holds Try.pinned (OpenSpec.ofChange backPathsSpec)

/-- ITS FALSE NEIGHBOUR: 'it returns false'. Refute it at one input. -/
def backPathsWrong : ChangeSpec := { name := "backPaths", fn := fun _ => fun
  | [d1, d2] => { results := [.lit (.bool false)], args := [d1, d2] }
  | _ => none }
def BackPathsWrongFalsely : Prop := backPathsRow.holds Try.pinned (OpenSpec.ofChange backPathsWrong)

/- THE SECOND FORM. 'bulk': how many values and letters a reading holds, each counted each time it is reached (what is shared counts as often as it is met; a slice's spare places count too). A statement '..UptoSaid' is the law's where the arguments, and the package variables that the reading takes, are together of bulk at most 1048576: NARROWER than '..Said'. Prove '..Said' where nothing that the law and all that it calls make is longer than what came in: it says more and counts as full. Else prove '..UptoSaid'. A law counts once. -/
mutual
def uptoBulk {H : Type} : DataW H → Nat
  | .lit (.string bytes) => bytes.length + 1
  | .lit _ => 1
  | .nil => 1
  | .ptr d => uptoBulk d + 1
  | .slice elems spare => uptoBulkAll elems + uptoBulkAll spare + 1
  | .agg parts => uptoBulkAll parts + 1
  | .iface _ d => uptoBulk d + 1
  | .map entries => uptoBulkEntries entries + 1
  | .held _ => 1
def uptoBulkAll {H : Type} : List (DataW H) → Nat
  | [] => 0
  | d :: r => uptoBulk d + uptoBulkAll r
def uptoBulkEntries {H : Type} : List (Lit × DataW H) → Nat
  | [] => 0
  | x :: r => uptoBulkEntry x + uptoBulkEntries r
def uptoBulkEntry {H : Type} : Lit × DataW H → Nat
  | (.string bytes, d) => bytes.length + uptoBulk d + 1
  | (_, d) => uptoBulk d + 1
 end
def uptoSmall : (H : Type) → List (DataW H) → Bool := fun _ ds => decide (uptoBulkAll ds ≤ 1048576)
def OpenSpec.upto (s : _root_.Go.ChangeSpec) : _root_.Go.OpenSpec := { _root_.Go.OpenSpec.ofChange s with cond := some uptoSmall }

/-- 'redlinelaw11.BackDoes', WHERE WHAT IT READS IS OF BULK AT MOST 1048576: true; the input reads as it did. -/
def backDoesUptoRow : OpenClaim := { program := "ytcbljiiomnhbjaa", sum := "c657c393e384b6379f8637c3306bc73e64c29e29671f881160554bc2cb8cb35e", func := "redline/redlinelaw11.BackDoes", spec := "backDoes", unfollowed := true, recurses := true, loops := true, apart := false, narrowed := true }
def BackDoesUptoSaid : Prop := backDoesUptoRow.holds Try.pinned (OpenSpec.upto backDoesSpec)

/-- 'redlinelaw11.BackForm', WHERE WHAT IT READS IS OF BULK AT MOST 1048576: true; the input reads as it did. -/
def backFormUptoRow : OpenClaim := { program := "ytcbljiiomnhbjaa", sum := "c657c393e384b6379f8637c3306bc73e64c29e29671f881160554bc2cb8cb35e", func := "redline/redlinelaw11.BackForm", spec := "backForm", unfollowed := true, recurses := true, loops := true, apart := false, narrowed := true }
def BackFormUptoSaid : Prop := backFormUptoRow.holds Try.pinned (OpenSpec.upto backFormSpec)

/-- 'redlinelaw11.BackAll', WHERE WHAT IT READS IS OF BULK AT MOST 1048576: true; the input reads as it did. -/
def backAllUptoRow : OpenClaim := { program := "ytcbljiiomnhbjaa", sum := "c657c393e384b6379f8637c3306bc73e64c29e29671f881160554bc2cb8cb35e", func := "redline/redlinelaw11.BackAll", spec := "backAll", unfollowed := true, recurses := true, loops := true, apart := false, narrowed := true }
def BackAllUptoSaid : Prop := backAllUptoRow.holds Try.pinned (OpenSpec.upto backAllSpec)

/-- 'redlinelaw11.BackParts', WHERE WHAT IT READS IS OF BULK AT MOST 1048576: true; the input reads as it did. -/
def backPartsUptoRow : OpenClaim := { program := "ytcbljiiomnhbjaa", sum := "c657c393e384b6379f8637c3306bc73e64c29e29671f881160554bc2cb8cb35e", func := "redline/redlinelaw11.BackParts", spec := "backParts", unfollowed := true, recurses := true, loops := true, apart := false, narrowed := true }
def BackPartsUptoSaid : Prop := backPartsUptoRow.holds Try.pinned (OpenSpec.upto backPartsSpec)

/-- 'redlinelaw11.BackTwice', WHERE WHAT IT READS IS OF BULK AT MOST 1048576: true; the input reads as it did. -/
def backTwiceUptoRow : OpenClaim := { program := "ytcbljiiomnhbjaa", sum := "c657c393e384b6379f8637c3306bc73e64c29e29671f881160554bc2cb8cb35e", func := "redline/redlinelaw11.BackTwice", spec := "backTwice", unfollowed := true, recurses := true, loops := true, apart := false, narrowed := true }
def BackTwiceUptoSaid : Prop := backTwiceUptoRow.holds Try.pinned (OpenSpec.upto backTwiceSpec)

/-- 'redlinelaw11.BackPaths', WHERE WHAT IT READS IS OF BULK AT MOST 1048576: true; the input reads as it did. -/
def backPathsUptoRow : OpenClaim := { program := "ytcbljiiomnhbjaa", sum := "c657c393e384b6379f8637c3306bc73e64c29e29671f881160554bc2cb8cb35e", func := "redline/redlinelaw11.BackPaths", spec := "backPaths", unfollowed := true, recurses := true, loops := true, apart := false, narrowed := true }
def BackPathsUptoSaid : Prop := backPathsUptoRow.holds Try.pinned (OpenSpec.upto backPathsSpec)

end Rows
end Go.Proofs.Ytcbljiiomnhbjaa
