/- Words on boxes of nodes: their leaf, their children's number, their size. -/
import Derived.Test.YtdcpoeaddhbjbaaMade5
import Derived.Test.YtdcpoeaddhbjbaaSizeN
namespace Go.Proofs.Ytdcpoeaddhbjbaa
set_option maxRecDepth 100000
open Go.RowKit

theorem BoxN.leaf {w : World} {g : Nat} {l : Bool} {x1 x2 x3 : Value} {t : Tree} (h : BoxN w g (.bool l) x1 x2 x3 t) : l = t.leaf := by
  obtain ⟨_, _, _, _, he, _⟩ := h.2.open_
  simp only [List.cons.injEq, Value.bool.injEq] at he
  exact he.1
theorem BoxN.kids {w : World} {g n c : Nat} {a : Option Addr} {x0 x1 x2 : Value} {t : Tree} (h : BoxN w g x0 x1 x2 (.slice a n c) t) : n = t.kids.length := by
  obtain ⟨_, _, _, es, he, _, _, hk, hl, _⟩ := h.2.open_
  simp only [List.cons.injEq] at he
  obtain ⟨-, -, -, rfl, -⟩ := he
  obtain ⟨a', c', h2⟩ := hk.slice
  simp only [Value.slice.injEq] at h2
  omega
theorem sizeL {W : World} {g : Nat} {x0 x1 x2 x3 : Value} {t : Tree} {n : Int} (h : BoxN W g x0 x1 x2 x3 t) (hs : szT t ≤ 4000000) (hn : (szT t : Int) = n) : ∀ w', Below W.heap.size W w' → Calls Try.prog 52 #[.agg #[x0, x1, x2, x3]] w' fun e w2 => e = .returned (.int .i64 n) ∧ Below w'.heap.size w' w2 := fun w' hb => by
  rw [← hn]
  exact size_any Any t _ w' (h.later hb).2 hs
theorem sz_ge (t : Tree) : sizeT t ≤ szT t := by have := size_text t; omega
end Go.Proofs.Ytdcpoeaddhbjbaa
