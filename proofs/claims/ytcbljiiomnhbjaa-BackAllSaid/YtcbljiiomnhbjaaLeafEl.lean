/- Walks of redlineref04.Leaf, Elem. -/
import Derived.Test.YtcbljiiomnhbjaaLast
import Derived.Laws.IdiomStrings
namespace Go.Proofs.Ytcbljiiomnhbjaa
set_option maxRecDepth 100000
open Go.RowKit

/-- What a function leaves that makes a tree. -/
def Made (S : Nat → Prop) (t : Tree) (w : World) (e : Ending) (w' : World) : Prop := ∃ (l : Bool) (a1 : Option Addr) (n1 c1 : Nat) (a2 : Option Addr) (n2 c2 : Nat) (a3 : Option Addr) (n3 c3 : Nat), e = .returned (.agg #[.bool l, .slice a1 n1 c1, .slice a2 n2 c2, .slice a3 n3 c3]) ∧
    NodeAt S w' [.bool l, .slice a1 n1 c1, .slice a2 n2 c2, .slice a3 n3 c3] t ∧ Below w.heap.size w w'

theorem runes_at (w : World) (B cap : Nat) (rs : List Int) (h : rs.length ≤ cap) (hm : cap ≤ maxLen) (hs : rs.length ≤ 1000000) (hB : B ≤ w.heap.size) :
    TextAt (fun b => B ≤ b) (w.alloc (.cells ((rs.map (Value.int .i32)).toArray ++ Array.replicate (cap - rs.length) (.int .i32 0)) 21)) (.slice (some ⟨w.heap.size, 0, none⟩) rs.length cap) rs := by
  refine ⟨_, cap, by rw [List.length_map], by simpa using h, hm, by simp; omega, ?_, fun _ => ⟨w.heap.size, 0, rfl, fun j hj => ⟨hB, ?_⟩⟩⟩
  · intro e he
    obtain ⟨x, _, rfl⟩ := List.mem_map.1 he
    rfl
  · simp only [List.length_map] at hj
    intro k u hu
    have : (rs.map runeCells).getD j [] = [.int .i32 (rs[j])] := by simp [hj, runeCells]
    rw [this] at hu
    have hk : k = 0 := by
      have := (List.getElem?_eq_some_iff.1 hu).1
      simpa using this
    subst hk
    simp only [List.getElem?_cons_zero, Option.some.injEq] at hu
    subst hu
    rw [cell_of_row _ w.heap.size _ _ _ (0, 0) (heap_alloc_new w _)]
    simp [Array.getElem?_append, hj]

/-- The name of the property that tells an element's type. -/
def typeS : ByteArray := ⟨#[116, 121, 112, 101]⟩

end Go.Proofs.Ytcbljiiomnhbjaa
