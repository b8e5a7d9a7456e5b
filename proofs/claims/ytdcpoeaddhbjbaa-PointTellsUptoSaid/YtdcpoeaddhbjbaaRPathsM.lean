/- Words on memory for the walk of redlineref05.paths: a list of paths whose row is the call's own and whose paths may be older; two of them one behind the other. -/
import Derived.Test.YtdcpoeaddhbjbaaListAll
import Derived.Test.YtdcpoeaddhbjbaaXpath2
import Derived.Test.YtdcpoeaddhbjbaaDelP
namespace Go.Proofs.Ytdcpoeaddhbjbaa
set_option maxRecDepth 100000
open Go.RowKit

/-- A list of paths: its row in a block from R on, its paths in blocks from B on. -/
def OwnR (w : World) (R B : Nat) (v : Value) (xss : List (List Int)) : Prop :=
  ∃ vs, w.ownsRow R 27 1 v xss.length vs ∧ ∀ j, j < xss.length → Own w B (vs.getD j (.slice none 0 0)) (xss.getD j [])
theorem OwnR.ownL {w : World} {R B : Nat} {v : Value} {xss : List (List Int)} (h : OwnR w R B v xss) (hB : B ≤ R) : OwnL w B v xss := by
  obtain ⟨vs, h1, h2⟩ := h
  exact ⟨vs, row_mono h1 hB, h2⟩
theorem OwnR.nil (w : World) (R B : Nat) : OwnR w R B (.slice none 0 0) [] := ⟨[], World.ownsRow_nil _ _ _ _, fun j hj => by simp at hj⟩
theorem OwnR.later {w w' : World} {R B : Nat} {v : Value} {xss : List (List Int)} (h : OwnR w R B v xss) (hb : Below w.heap.size w w') : OwnR w' R B v xss := by
  obtain ⟨vs, h1, h2⟩ := h
  exact ⟨vs, row_below h1 hb (Nat.le_refl _), fun j hj => (h2 j hj).below hb (Nat.le_refl _)⟩
/-- Kept where only a row of another type grows. -/
theorem own_grown {w w3 : World} {B R n : Nat} {v u : Value} {vs : List Value} {x : List Int} (h : Own w B u x) (hr : w.ownsRow R 27 1 v n vs) (hg : w.grownBy w3 v.ownBlock) : Own w3 B u x := by
  refine ⟨row_keep h.1 fun b hb => hg.block b (h.1.lt b hb).2 fun hv => ?_, h.2⟩
  obtain ⟨c1, e1⟩ := row_type h.1 b hb
  obtain ⟨c2, e2⟩ := row_type hr b hv.symm
  rw [e1] at e2
  simp at e2
/-- One list behind the other. -/
theorem OwnR.app {w w3 : World} {R R' B n m : Nat} {v v' u : Value} {xs ys : List (List Int)} {vs us : List Value} (h1 : w.ownsRow R 27 1 v xs.length vs) (h2 : ∀ j, j < xs.length → Own w B (vs.getD j (.slice none 0 0)) (xs.getD j []))
    (k1 : w.ownsRow R' 27 1 u ys.length us) (k2 : ∀ j, j < ys.length → Own w B (us.getD j (.slice none 0 0)) (ys.getD j [])) (hn : n = xs.length) (hm : m = ys.length)
    (hown : w3.ownsRow R 27 1 v' (n + m) (vs ++ us)) (hg : w.grownBy w3 v.ownBlock) : OwnR w3 R B v' (xs ++ ys) := by
  subst hn hm
  have l1 : vs.length = xs.length := by simpa using h1.1
  have l2 : us.length = ys.length := by simpa using k1.1
  refine ⟨vs ++ us, by rw [List.length_append]; exact hown, fun j hj => ?_⟩
  rw [List.length_append] at hj
  by_cases hlt : j < xs.length
  · have e1 : (vs ++ us).getD j (.slice none 0 0) = vs.getD j (.slice none 0 0) := by simp [List.getD, List.getElem?_append, l1, hlt]
    have e2 : (xs ++ ys).getD j [] = xs.getD j [] := by simp [List.getD, List.getElem?_append, hlt]
    rw [e1, e2]
    exact own_grown (h2 j hlt) h1 hg
  · have e1 : (vs ++ us).getD j (.slice none 0 0) = us.getD (j - xs.length) (.slice none 0 0) := by simp [List.getD, List.getElem?_append, l1, hlt]
    have e2 : (xs ++ ys).getD j [] = ys.getD (j - xs.length) [] := by simp [List.getD, List.getElem?_append, hlt]
    rw [e1, e2]
    exact own_grown (k2 _ (by omega)) h1 hg
/-- The cells of a list's row, as what is appended. -/
theorem row_src {w : World} {R n : Nat} {a : Option Addr} {m c : Nat} {us : List Value} (h : w.ownsRow R 27 1 (.slice a m c) n us) : n = m ∧ (∀ ad, a = some ad → ∀ j u, us[j]? = some u → w.cell? (ad.add j) = some u) ∧ (a = none → m = 0 ∧ c = 0) := by
  obtain ⟨hl, h⟩ := h
  rcases h with ⟨he, h0⟩ | ⟨g, cap, cur, he, _, hg, hn, hm, hs, ht⟩
  · simp only [Value.slice.injEq] at he
    obtain ⟨rfl, rfl, rfl⟩ := he
    exact ⟨h0, (fun ad h => nomatch h), fun _ => ⟨rfl, rfl⟩⟩
  · simp only [Value.slice.injEq] at he
    obtain ⟨rfl, rfl, rfl⟩ := he
    refine ⟨rfl, (fun ad had j u hj => ?_), fun h => nomatch h⟩
    obtain rfl := Option.some.inj had
    have hjl := (List.getElem?_eq_some_iff.1 hj).1
    rw [Addr.add_lit, cell_of_row w g (0 + j) cur _ (0, 0) hg, Nat.zero_add]
    rw [← ht, List.getElem?_take, if_pos (by omega)] at hj
    simpa using hj
theorem row_slice {w : World} {R n : Nat} {v : Value} {us : List Value} (h : w.ownsRow R 27 1 v n us) : ∃ a m c, v = .slice a m c := by
  rcases h.2 with ⟨rfl, _⟩ | ⟨g, cap, cur, rfl, _⟩
  · exact ⟨_, _, _, rfl⟩
  · exact ⟨_, _, _, rfl⟩
/-- Slices of ints take a cell each. -/
theorem row_one {w : World} {R B : Nat} {v : Value} {ys : List (List Int)} {us : List Value} (h : w.ownsRow R 27 1 v ys.length us) (h2 : ∀ j, j < ys.length → Own w B (us.getD j (.slice none 0 0)) (ys.getD j [])) : ∀ u ∈ us, u.oneCell' = true := by
  intro u hu
  obtain ⟨j, hj, rfl⟩ := List.getElem_of_mem hu
  have hl : us.length = ys.length := by simpa using h.1
  obtain ⟨a, m, c, he⟩ := (h2 j (by omega)).ints.slice3
  have e : us.getD j (.slice none 0 0) = us[j] := by simp [hj]
  rw [e] at he
  rw [he]
  rfl
end Go.Proofs.Ytdcpoeaddhbjbaa
