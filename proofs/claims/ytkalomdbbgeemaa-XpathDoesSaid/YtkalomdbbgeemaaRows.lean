/-
  NARROWER THAN 'FOR EVERY INPUT', by the rows' own cells (each row's printed sentence says how): XpathDoes: loops · XpathStays: loops · XpathOrder: loops.
  DERIVED. THE GIVEN ROWS OF THIS SEAT. 11 by the template 'for every input the law returns true; each argument reads behind the call as it read before'; 0 by the template 'total and deterministic' (their statements: YtkalomdbbgeemaaTotals.lean).
  GIVEN WITH THE SEED: the statements are not yours to turn. If you find one false, say at which input.
  Laid BY PROGRAM, IN A SANDBOX (cutbox-rows.mjs): the forced cells as the released guide's own fill.sh prints them over the translation 2c3ec375ec9a161d… (all of the seat's roots in one cut). By AI agents, Wed Nov 11 2026. No macro, syntax, notation, axiom, sorry.
-/
import Derived.Test.YtkalomdbbgeemaaChecked
import GoSem.Claim
import GoSem.ClaimJoined
import GoSem.ClaimMapViews
import Derived.JoinedTies
import Derived.KernelRfl
namespace Go.Proofs.Ytkalomdbbgeemaa
/- THE CELL 'sum', in the pinned program and in every row, IS THE sha256 OF THE DUMP (.gsa) THAT YtkalomdbbgeemaaProg.lean LOADS. Nothing in Lean hashes anything: it is a label: what it is worth is what the hold of that sum in a sandbox is worth. -/
noncomputable def Try.pinned : Pinned := { name := "ytkalomdbbgeemaa", sum := "2c3ec375ec9a161dceb7956eafaf45ee3f320316230f6e92948281e4b19a5e24", checked := Try.checked }
namespace Rows
def none {H : Type} : Left H := { results := [], args := [] }

/-- 'redlinelaw02.TrailLevels': WHATEVER THE INPUT: true; the input reads as it did. -/
def trailLevelsSpec : ChangeSpec := { name := "trailLevels", fn := fun _ => fun
  | [d1, d2] => { results := [.lit (.bool true)], args := [d1, d2] }
  | _ => none }
def trailLevelsRow : OpenClaim := { program := "ytkalomdbbgeemaa", sum := "2c3ec375ec9a161dceb7956eafaf45ee3f320316230f6e92948281e4b19a5e24", func := "redline/redlinelaw02.TrailLevels", spec := "trailLevels", apart := false }
def TrailLevelsSaid : Prop := trailLevelsRow.holds Try.pinned (OpenSpec.ofChange trailLevelsSpec)

/-- ITS FALSE NEIGHBOUR: 'it returns false'. Refute it at one input. -/
def trailLevelsWrong : ChangeSpec := { name := "trailLevels", fn := fun _ => fun
  | [d1, d2] => { results := [.lit (.bool false)], args := [d1, d2] }
  | _ => none }
def TrailLevelsWrongFalsely : Prop := trailLevelsRow.holds Try.pinned (OpenSpec.ofChange trailLevelsWrong)

/-- 'redlinelaw02.TrailMoves': WHATEVER THE INPUT: true; the input reads as it did. -/
def trailMovesSpec : ChangeSpec := { name := "trailMoves", fn := fun _ => fun
  | [d1, d2] => { results := [.lit (.bool true)], args := [d1, d2] }
  | _ => none }
def trailMovesRow : OpenClaim := { program := "ytkalomdbbgeemaa", sum := "2c3ec375ec9a161dceb7956eafaf45ee3f320316230f6e92948281e4b19a5e24", func := "redline/redlinelaw02.TrailMoves", spec := "trailMoves", apart := false }
def TrailMovesSaid : Prop := trailMovesRow.holds Try.pinned (OpenSpec.ofChange trailMovesSpec)

/-- ITS FALSE NEIGHBOUR: 'it returns false'. Refute it at one input. -/
def trailMovesWrong : ChangeSpec := { name := "trailMoves", fn := fun _ => fun
  | [d1, d2] => { results := [.lit (.bool false)], args := [d1, d2] }
  | _ => none }
def TrailMovesWrongFalsely : Prop := trailMovesRow.holds Try.pinned (OpenSpec.ofChange trailMovesWrong)

/-- 'redlinelaw02.TrailOrder': WHATEVER THE INPUT: true; the input reads as it did. -/
def trailOrderSpec : ChangeSpec := { name := "trailOrder", fn := fun _ => fun
  | [d1, d2, d3] => { results := [.lit (.bool true)], args := [d1, d2, d3] }
  | _ => none }
def trailOrderRow : OpenClaim := { program := "ytkalomdbbgeemaa", sum := "2c3ec375ec9a161dceb7956eafaf45ee3f320316230f6e92948281e4b19a5e24", func := "redline/redlinelaw02.TrailOrder", spec := "trailOrder", apart := false }
def TrailOrderSaid : Prop := trailOrderRow.holds Try.pinned (OpenSpec.ofChange trailOrderSpec)

/-- ITS FALSE NEIGHBOUR: 'it returns false'. Refute it at one input. -/
def trailOrderWrong : ChangeSpec := { name := "trailOrder", fn := fun _ => fun
  | [d1, d2, d3] => { results := [.lit (.bool false)], args := [d1, d2, d3] }
  | _ => none }
def TrailOrderWrongFalsely : Prop := trailOrderRow.holds Try.pinned (OpenSpec.ofChange trailOrderWrong)

/-- 'redlinelaw02.TrailBack': WHATEVER THE INPUT: true; the input reads as it did. -/
def trailBackSpec : ChangeSpec := { name := "trailBack", fn := fun _ => fun
  | [d] => { results := [.lit (.bool true)], args := [d] }
  | _ => none }
def trailBackRow : OpenClaim := { program := "ytkalomdbbgeemaa", sum := "2c3ec375ec9a161dceb7956eafaf45ee3f320316230f6e92948281e4b19a5e24", func := "redline/redlinelaw02.TrailBack", spec := "trailBack", apart := false }
def TrailBackSaid : Prop := trailBackRow.holds Try.pinned (OpenSpec.ofChange trailBackSpec)

/-- ITS FALSE NEIGHBOUR: 'it returns false'. Refute it at one input. -/
def trailBackWrong : ChangeSpec := { name := "trailBack", fn := fun _ => fun
  | [d] => { results := [.lit (.bool false)], args := [d] }
  | _ => none }
def TrailBackWrongFalsely : Prop := trailBackRow.holds Try.pinned (OpenSpec.ofChange trailBackWrong)

/-- 'redlinelaw02.TrailTells': WHATEVER THE INPUT: true; the input reads as it did. -/
def trailTellsSpec : ChangeSpec := { name := "trailTells", fn := fun _ => fun
  | [d1, d2] => { results := [.lit (.bool true)], args := [d1, d2] }
  | _ => none }
def trailTellsRow : OpenClaim := { program := "ytkalomdbbgeemaa", sum := "2c3ec375ec9a161dceb7956eafaf45ee3f320316230f6e92948281e4b19a5e24", func := "redline/redlinelaw02.TrailTells", spec := "trailTells", unfollowed := true, recurses := true, apart := false }
def TrailTellsSaid : Prop := trailTellsRow.holds Try.pinned (OpenSpec.ofChange trailTellsSpec)

/-- ITS FALSE NEIGHBOUR: 'it returns false'. Refute it at one input. -/
def trailTellsWrong : ChangeSpec := { name := "trailTells", fn := fun _ => fun
  | [d1, d2] => { results := [.lit (.bool false)], args := [d1, d2] }
  | _ => none }
def TrailTellsWrongFalsely : Prop := trailTellsRow.holds Try.pinned (OpenSpec.ofChange trailTellsWrong)

/-- 'redlinelaw08.XpathDoes': WHATEVER THE INPUT: true; the input reads as it did. -/
def xpathDoesSpec : ChangeSpec := { name := "xpathDoes", fn := fun _ => fun
  | [d1, d2] => { results := [.lit (.bool true)], args := [d1, d2] }
  | _ => none }
def xpathDoesRow : OpenClaim := { program := "ytkalomdbbgeemaa", sum := "2c3ec375ec9a161dceb7956eafaf45ee3f320316230f6e92948281e4b19a5e24", func := "redline/redlinelaw08.XpathDoes", spec := "xpathDoes", unfollowed := true, recurses := true, loops := true, apart := false }
def XpathDoesSaid : Prop := xpathDoesRow.holds Try.pinned (OpenSpec.ofChange xpathDoesSpec)

/-- ITS FALSE NEIGHBOUR: 'it returns false'. Refute it at one input. -/
def xpathDoesWrong : ChangeSpec := { name := "xpathDoes", fn := fun _ => fun
  | [d1, d2] => { results := [.lit (.bool false)], args := [d1, d2] }
  | _ => none }
def XpathDoesWrongFalsely : Prop := xpathDoesRow.holds Try.pinned (OpenSpec.ofChange xpathDoesWrong)

/-- 'redlinelaw08.XpathInsert': WHATEVER THE INPUT: true; the input reads as it did. -/
def xpathInsertSpec : ChangeSpec := { name := "xpathInsert", fn := fun _ => fun
  | [d1, d2] => { results := [.lit (.bool true)], args := [d1, d2] }
  | _ => none }
def xpathInsertRow : OpenClaim := { program := "ytkalomdbbgeemaa", sum := "2c3ec375ec9a161dceb7956eafaf45ee3f320316230f6e92948281e4b19a5e24", func := "redline/redlinelaw08.XpathInsert", spec := "xpathInsert", unfollowed := true, recurses := true, apart := false }
def XpathInsertSaid : Prop := xpathInsertRow.holds Try.pinned (OpenSpec.ofChange xpathInsertSpec)

/-- ITS FALSE NEIGHBOUR: 'it returns false'. Refute it at one input. -/
def xpathInsertWrong : ChangeSpec := { name := "xpathInsert", fn := fun _ => fun
  | [d1, d2] => { results := [.lit (.bool false)], args := [d1, d2] }
  | _ => none }
def XpathInsertWrongFalsely : Prop := xpathInsertRow.holds Try.pinned (OpenSpec.ofChange xpathInsertWrong)

/-- 'redlinelaw08.XpathMove': WHATEVER THE INPUT: true; the input reads as it did. -/
def xpathMoveSpec : ChangeSpec := { name := "xpathMove", fn := fun _ => fun
  | [d1, d2, d3] => { results := [.lit (.bool true)], args := [d1, d2, d3] }
  | _ => none }
def xpathMoveRow : OpenClaim := { program := "ytkalomdbbgeemaa", sum := "2c3ec375ec9a161dceb7956eafaf45ee3f320316230f6e92948281e4b19a5e24", func := "redline/redlinelaw08.XpathMove", spec := "xpathMove", unfollowed := true, recurses := true, apart := false }
def XpathMoveSaid : Prop := xpathMoveRow.holds Try.pinned (OpenSpec.ofChange xpathMoveSpec)

/-- ITS FALSE NEIGHBOUR: 'it returns false'. Refute it at one input. -/
def xpathMoveWrong : ChangeSpec := { name := "xpathMove", fn := fun _ => fun
  | [d1, d2, d3] => { results := [.lit (.bool false)], args := [d1, d2, d3] }
  | _ => none }
def XpathMoveWrongFalsely : Prop := xpathMoveRow.holds Try.pinned (OpenSpec.ofChange xpathMoveWrong)

/-- 'redlinelaw08.XpathStays': WHATEVER THE INPUT: true; the input reads as it did. -/
def xpathStaysSpec : ChangeSpec := { name := "xpathStays", fn := fun _ => fun
  | [d1, d2] => { results := [.lit (.bool true)], args := [d1, d2] }
  | _ => none }
def xpathStaysRow : OpenClaim := { program := "ytkalomdbbgeemaa", sum := "2c3ec375ec9a161dceb7956eafaf45ee3f320316230f6e92948281e4b19a5e24", func := "redline/redlinelaw08.XpathStays", spec := "xpathStays", unfollowed := true, recurses := true, loops := true, apart := false }
def XpathStaysSaid : Prop := xpathStaysRow.holds Try.pinned (OpenSpec.ofChange xpathStaysSpec)

/-- ITS FALSE NEIGHBOUR: 'it returns false'. Refute it at one input. -/
def xpathStaysWrong : ChangeSpec := { name := "xpathStays", fn := fun _ => fun
  | [d1, d2] => { results := [.lit (.bool false)], args := [d1, d2] }
  | _ => none }
def XpathStaysWrongFalsely : Prop := xpathStaysRow.holds Try.pinned (OpenSpec.ofChange xpathStaysWrong)

/-- 'redlinelaw08.XpathSplit': WHATEVER THE INPUT: true; the input reads as it did. -/
def xpathSplitSpec : ChangeSpec := { name := "xpathSplit", fn := fun _ => fun
  | [d1, d2, d3] => { results := [.lit (.bool true)], args := [d1, d2, d3] }
  | _ => none }
def xpathSplitRow : OpenClaim := { program := "ytkalomdbbgeemaa", sum := "2c3ec375ec9a161dceb7956eafaf45ee3f320316230f6e92948281e4b19a5e24", func := "redline/redlinelaw08.XpathSplit", spec := "xpathSplit", unfollowed := true, recurses := true, apart := false }
def XpathSplitSaid : Prop := xpathSplitRow.holds Try.pinned (OpenSpec.ofChange xpathSplitSpec)

/-- ITS FALSE NEIGHBOUR: 'it returns false'. Refute it at one input. -/
def xpathSplitWrong : ChangeSpec := { name := "xpathSplit", fn := fun _ => fun
  | [d1, d2, d3] => { results := [.lit (.bool false)], args := [d1, d2, d3] }
  | _ => none }
def XpathSplitWrongFalsely : Prop := xpathSplitRow.holds Try.pinned (OpenSpec.ofChange xpathSplitWrong)

/-- 'redlinelaw08.XpathOrder': WHATEVER THE INPUT: true; the input reads as it did. -/
def xpathOrderSpec : ChangeSpec := { name := "xpathOrder", fn := fun _ => fun
  | [d1, d2, d3] => { results := [.lit (.bool true)], args := [d1, d2, d3] }
  | _ => none }
def xpathOrderRow : OpenClaim := { program := "ytkalomdbbgeemaa", sum := "2c3ec375ec9a161dceb7956eafaf45ee3f320316230f6e92948281e4b19a5e24", func := "redline/redlinelaw08.XpathOrder", spec := "xpathOrder", unfollowed := true, recurses := true, loops := true, apart := false }
def XpathOrderSaid : Prop := xpathOrderRow.holds Try.pinned (OpenSpec.ofChange xpathOrderSpec)

/-- ITS FALSE NEIGHBOUR: 'it returns false'. Refute it at one input. -/
def xpathOrderWrong : ChangeSpec := { name := "xpathOrder", fn := fun _ => fun
  | [d1, d2, d3] => { results := [.lit (.bool false)], args := [d1, d2, d3] }
  | _ => none }
def XpathOrderWrongFalsely : Prop := xpathOrderRow.holds Try.pinned (OpenSpec.ofChange xpathOrderWrong)

/- THE SECOND FORM. 'bulk': how many values and letters a reading holds, each counted each time it is reached (what is shared counts as often as it is met; a slice's spare places count too). A statement '..UptoSaid' is the law's where the arguments, and the package variables that the reading takes, are together of bulk at most 1048576: NARROWER than '..Said'. Prove '..Said' where nothing that the law and all that it calls make is longer than what came in: it says more and counts as full. Else prove '..UptoSaid'. A law counts once. -/
mutual
def uptoBulk {H : Type} : DataW H → Nat
  | .lit (.string bytes) => bytes.length + 1
  | .lit _ => 1
  | .nil => 1
  | .ptr d => uptoBulk d + 1
  | .slice elems spare => uptoBulkAll elems + uptoBulkAll spare + 1
  | .agg parts => uptoBulkAll parts + 1
  | .iface _ d => uptoBulk d + 1
  | .map entries => uptoBulkEntries entries + 1
  | .held _ => 1
def uptoBulkAll {H : Type} : List (DataW H) → Nat
  | [] => 0
  | d :: r => uptoBulk d + uptoBulkAll r
def uptoBulkEntries {H : Type} : List (Lit × DataW H) → Nat
  | [] => 0
  | x :: r => uptoBulkEntry x + uptoBulkEntries r
def uptoBulkEntry {H : Type} : Lit × DataW H → Nat
  | (.string bytes, d) => bytes.length + uptoBulk d + 1
  | (_, d) => uptoBulk d + 1
 end
def uptoSmall : (H : Type) → List (DataW H) → Bool := fun _ ds => decide (uptoBulkAll ds ≤ 1048576)
def OpenSpec.upto (s : _root_.Go.ChangeSpec) : _root_.Go.OpenSpec := { _root_.Go.OpenSpec.ofChange s with cond := some uptoSmall }

/-- 'redlinelaw02.TrailLevels', WHERE WHAT IT READS IS OF BULK AT MOST 1048576: true; the input reads as it did. -/
def trailLevelsUptoRow : OpenClaim := { program := "ytkalomdbbgeemaa", sum := "2c3ec375ec9a161dceb7956eafaf45ee3f320316230f6e92948281e4b19a5e24", func := "redline/redlinelaw02.TrailLevels", spec := "trailLevels", apart := false, narrowed := true }
def TrailLevelsUptoSaid : Prop := trailLevelsUptoRow.holds Try.pinned (OpenSpec.upto trailLevelsSpec)

/-- 'redlinelaw02.TrailMoves', WHERE WHAT IT READS IS OF BULK AT MOST 1048576: true; the input reads as it did. -/
def trailMovesUptoRow : OpenClaim := { program := "ytkalomdbbgeemaa", sum := "2c3ec375ec9a161dceb7956eafaf45ee3f320316230f6e92948281e4b19a5e24", func := "redline/redlinelaw02.TrailMoves", spec := "trailMoves", apart := false, narrowed := true }
def TrailMovesUptoSaid : Prop := trailMovesUptoRow.holds Try.pinned (OpenSpec.upto trailMovesSpec)

/-- 'redlinelaw02.TrailOrder', WHERE WHAT IT READS IS OF BULK AT MOST 1048576: true; the input reads as it did. -/
def trailOrderUptoRow : OpenClaim := { program := "ytkalomdbbgeemaa", sum := "2c3ec375ec9a161dceb7956eafaf45ee3f320316230f6e92948281e4b19a5e24", func := "redline/redlinelaw02.TrailOrder", spec := "trailOrder", apart := false, narrowed := true }
def TrailOrderUptoSaid : Prop := trailOrderUptoRow.holds Try.pinned (OpenSpec.upto trailOrderSpec)

/-- 'redlinelaw02.TrailBack', WHERE WHAT IT READS IS OF BULK AT MOST 1048576: true; the input reads as it did. -/
def trailBackUptoRow : OpenClaim := { program := "ytkalomdbbgeemaa", sum := "2c3ec375ec9a161dceb7956eafaf45ee3f320316230f6e92948281e4b19a5e24", func := "redline/redlinelaw02.TrailBack", spec := "trailBack", apart := false, narrowed := true }
def TrailBackUptoSaid : Prop := trailBackUptoRow.holds Try.pinned (OpenSpec.upto trailBackSpec)

/-- 'redlinelaw02.TrailTells', WHERE WHAT IT READS IS OF BULK AT MOST 1048576: true; the input reads as it did. -/
def trailTellsUptoRow : OpenClaim := { program := "ytkalomdbbgeemaa", sum := "2c3ec375ec9a161dceb7956eafaf45ee3f320316230f6e92948281e4b19a5e24", func := "redline/redlinelaw02.TrailTells", spec := "trailTells", unfollowed := true, recurses := true, apart := false, narrowed := true }
def TrailTellsUptoSaid : Prop := trailTellsUptoRow.holds Try.pinned (OpenSpec.upto trailTellsSpec)

/-- 'redlinelaw08.XpathDoes', WHERE WHAT IT READS IS OF BULK AT MOST 1048576: true; the input reads as it did. -/
def xpathDoesUptoRow : OpenClaim := { program := "ytkalomdbbgeemaa", sum := "2c3ec375ec9a161dceb7956eafaf45ee3f320316230f6e92948281e4b19a5e24", func := "redline/redlinelaw08.XpathDoes", spec := "xpathDoes", unfollowed := true, recurses := true, loops := true, apart := false, narrowed := true }
def XpathDoesUptoSaid : Prop := xpathDoesUptoRow.holds Try.pinned (OpenSpec.upto xpathDoesSpec)

/-- 'redlinelaw08.XpathInsert', WHERE WHAT IT READS IS OF BULK AT MOST 1048576: true; the input reads as it did. -/
def xpathInsertUptoRow : OpenClaim := { program := "ytkalomdbbgeemaa", sum := "2c3ec375ec9a161dceb7956eafaf45ee3f320316230f6e92948281e4b19a5e24", func := "redline/redlinelaw08.XpathInsert", spec := "xpathInsert", unfollowed := true, recurses := true, apart := false, narrowed := true }
def XpathInsertUptoSaid : Prop := xpathInsertUptoRow.holds Try.pinned (OpenSpec.upto xpathInsertSpec)

/-- 'redlinelaw08.XpathMove', WHERE WHAT IT READS IS OF BULK AT MOST 1048576: true; the input reads as it did. -/
def xpathMoveUptoRow : OpenClaim := { program := "ytkalomdbbgeemaa", sum := "2c3ec375ec9a161dceb7956eafaf45ee3f320316230f6e92948281e4b19a5e24", func := "redline/redlinelaw08.XpathMove", spec := "xpathMove", unfollowed := true, recurses := true, apart := false, narrowed := true }
def XpathMoveUptoSaid : Prop := xpathMoveUptoRow.holds Try.pinned (OpenSpec.upto xpathMoveSpec)

/-- 'redlinelaw08.XpathStays', WHERE WHAT IT READS IS OF BULK AT MOST 1048576: true; the input reads as it did. -/
def xpathStaysUptoRow : OpenClaim := { program := "ytkalomdbbgeemaa", sum := "2c3ec375ec9a161dceb7956eafaf45ee3f320316230f6e92948281e4b19a5e24", func := "redline/redlinelaw08.XpathStays", spec := "xpathStays", unfollowed := true, recurses := true, loops := true, apart := false, narrowed := true }
def XpathStaysUptoSaid : Prop := xpathStaysUptoRow.holds Try.pinned (OpenSpec.upto xpathStaysSpec)

/-- 'redlinelaw08.XpathSplit', WHERE WHAT IT READS IS OF BULK AT MOST 1048576: true; the input reads as it did. -/
def xpathSplitUptoRow : OpenClaim := { program := "ytkalomdbbgeemaa", sum := "2c3ec375ec9a161dceb7956eafaf45ee3f320316230f6e92948281e4b19a5e24", func := "redline/redlinelaw08.XpathSplit", spec := "xpathSplit", unfollowed := true, recurses := true, apart := false, narrowed := true }
def XpathSplitUptoSaid : Prop := xpathSplitUptoRow.holds Try.pinned (OpenSpec.upto xpathSplitSpec)

/-- 'redlinelaw08.XpathOrder', WHERE WHAT IT READS IS OF BULK AT MOST 1048576: true; the input reads as it did. -/
def xpathOrderUptoRow : OpenClaim := { program := "ytkalomdbbgeemaa", sum := "2c3ec375ec9a161dceb7956eafaf45ee3f320316230f6e92948281e4b19a5e24", func := "redline/redlinelaw08.XpathOrder", spec := "xpathOrder", unfollowed := true, recurses := true, loops := true, apart := false, narrowed := true }
def XpathOrderUptoSaid : Prop := xpathOrderUptoRow.holds Try.pinned (OpenSpec.upto xpathOrderSpec)

end Rows
end Go.Proofs.Ytkalomdbbgeemaa
