/- An operation's value, whole. Plain Lean: what a kind's letters are. -/
import Derived.Test.YtcbljiiomnhbjaaSel
import Derived.Test.YtcbljiiomnhbjaaSameN
import Derived.Test.YtcbljiiomnhbjaaBHas
namespace Go.Proofs.Ytcbljiiomnhbjaa
set_option maxRecDepth 100000
open Go.RowKit

/-- A selection, as read: whether it is, and two points. -/
abbrev SelM := Bool × (List Int × Int) × (List Int × Int)
def noSel : SelM := (false, ([], 0), ([], 0))
/-- The tree of nothing. -/
def noT : Tree := .mk false [] [] []
/-- An operation, as read. -/
structure OpF where
  kind : Int
  path : List Int
  dest : List Int
  pos : Int
  node : Tree
  old : List (ByteArray × ByteArray)
  new : List (ByteArray × ByteArray)
  text : List Int
  from_ : SelM
  into : SelM
abbrev Props := List (ByteArray × ByteArray)

/-- The cells of an operation. -/
def opC (k : Int) (a1 : Option Addr) (n1 c1 : Nat) (a2 : Option Addr) (n2 c2 : Nat) (pos : Int) (l : Bool) (b1 : Option Addr) (m1 d1 : Nat) (b2 : Option Addr) (m2 d2 : Nat) (b3 : Option Addr) (m3 d3 : Nat) (a5 : Option Addr) (n5 c5 : Nat) (a6 : Option Addr) (n6 c6 : Nat) (a7 : Option Addr) (n7 c7 : Nat)
    (fi : Bool) (f1 : Option Addr) (g1 h1 : Nat) (fa : Int) (f2 : Option Addr) (g2 h2 : Nat) (fb : Int) (ii : Bool) (i1 : Option Addr) (j1 k1 : Nat) (ia : Int) (i2 : Option Addr) (j2 k2 : Nat) (ib : Int) : List Value :=
  [.int .i64 k, .slice a1 n1 c1, .slice a2 n2 c2, .int .i64 pos, .bool l, .slice b1 m1 d1, .slice b2 m2 d2, .slice b3 m3 d3, .slice a5 n5 c5, .slice a6 n6 c6, .slice a7 n7 c7,
    .bool fi, .slice f1 g1 h1, .int .i64 fa, .slice f2 g2 h2, .int .i64 fb, .bool ii, .slice i1 j1 k1, .int .i64 ia, .slice i2 j2 k2, .int .i64 ib]
/-- What the slices of an operation's cells read as. -/
structure OpRd (w : World) (o : OpF) (v1 v2 : Value) (nc : List Value) (v5 v6 v7 f1 f2 i1 i2 : Value) : Prop where
  path : Ints w v1 o.path
  dest : Ints w v2 o.dest
  node : NodeAt Any w nc o.node
  old : PropsAt Any w v5 o.old
  new : PropsAt Any w v6 o.new
  text : TextAt Any w v7 o.text
  fa : Ints w f1 o.from_.2.1.1
  fb : Ints w f2 o.from_.2.2.1
  ia : Ints w i1 o.into.2.1.1
  ib : Ints w i2 o.into.2.2.1
theorem OpRd.later {w w' : World} {o : OpF} {v1 v2 : Value} {nc : List Value} {v5 v6 v7 f1 f2 i1 i2 : Value} (h : OpRd w o v1 v2 nc v5 v6 v7 f1 f2 i1 i2) (hb : Below w.heap.size w w') : OpRd w' o v1 v2 nc v5 v6 v7 f1 f2 i1 i2 :=
  ⟨h.path.below hb (Nat.le_refl _), h.dest.below hb (Nat.le_refl _), h.node.later hb (Nat.le_refl _), h.old.later hb (Nat.le_refl _), h.new.later hb (Nat.le_refl _), h.text.later hb (Nat.le_refl _), h.fa.below hb (Nat.le_refl _), h.fb.below hb (Nat.le_refl _), h.ia.below hb (Nat.le_refl _), h.ib.below hb (Nat.le_refl _)⟩
/-- An operation's value. -/
def OpV (w : World) (v : Value) (o : OpF) : Prop :=
  ∃ a1 c1 a2 c2 b1 m1 d1 b2 m2 d2 b3 m3 d3 a5 c5 a6 c6 a7 c7 f1 g1 h1 f2 g2 h2 i1 j1 k1 i2 j2 k2,
    v = .agg (List.toArray (opC o.kind a1 o.path.length c1 a2 o.dest.length c2 o.pos o.node.leaf b1 m1 d1 b2 m2 d2 b3 m3 d3 a5 o.old.length c5 a6 o.new.length c6 a7 o.text.length c7 o.from_.1 f1 g1 h1 o.from_.2.1.2 f2 g2 h2 o.from_.2.2.2 o.into.1 i1 j1 k1 o.into.2.1.2 i2 j2 k2 o.into.2.2.2)) ∧
    OpRd w o (.slice a1 o.path.length c1) (.slice a2 o.dest.length c2) [.bool o.node.leaf, .slice b1 m1 d1, .slice b2 m2 d2, .slice b3 m3 d3] (.slice a5 o.old.length c5) (.slice a6 o.new.length c6) (.slice a7 o.text.length c7) (.slice f1 g1 h1) (.slice f2 g2 h2) (.slice i1 j1 k1) (.slice i2 j2 k2)

/-- Which fields are not zero. -/
noncomputable def flagsX (o : OpF) : List Bool :=
  [decide (0 < o.path.length), decide (0 < o.dest.length), decide (o.pos ≠ 0), !eqT o.node noT, decide (0 < o.old.length), decide (0 < o.new.length), decide (0 < o.text.length),
    !sselB o.from_.1 o.from_.2.1.1 o.from_.2.1.2 o.from_.2.2.1 o.from_.2.2.2 false [] 0 [] 0, !sselB o.into.1 o.into.2.1.1 o.into.2.1.2 o.into.2.2.1 o.into.2.2.2 false [] 0 [] 0]
def letters : List UInt8 := [112, 116, 97, 110, 111, 119, 120, 115, 115]
/-- The letters of those fields. -/
def setU : List UInt8 → List Bool → List UInt8
  | x :: xs, true :: bs => x :: setU xs bs
  | _ :: xs, false :: bs => setU xs bs
  | _, _ => []
noncomputable def setX (o : OpF) : List UInt8 := setU letters (flagsX o)
/-- Whether an operation has the fields of its kind. -/
noncomputable def formX (o : OpF) : Int := if 1 ≤ o.kind ∧ o.kind ≤ 9 then (if ∀ x ∈ setX o, x ∈ hasS o.kind then 0 else 1) else 1
end Go.Proofs.Ytcbljiiomnhbjaa
