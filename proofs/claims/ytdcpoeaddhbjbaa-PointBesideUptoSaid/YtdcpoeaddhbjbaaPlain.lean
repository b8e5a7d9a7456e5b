/- Plain Lean: paths as lists of integers, and what stands above, left, ahead. No program in sight. -/
import Derived.Handy
namespace Go.Proofs.Ytdcpoeaddhbjbaa
set_option maxRecDepth 100000

/-- How many numbers both begin with. -/
def cpre : List Int → List Int → Nat
  | x :: xs, y :: ys => if x = y then cpre xs ys + 1 else 0
  | _, _ => 0

/-- Do the first k elements agree? -/
def agree (xs ys : List Int) (k : Nat) : Prop := ∀ j, j < k → xs.getD j 0 = ys.getD j 0

theorem agree_zero (xs ys : List Int) : agree xs ys 0 := fun j hj => by omega
theorem agree_succ {xs ys : List Int} {k : Nat} (h : agree xs ys k) (h1 : k < xs.length) (h2 : k < ys.length) (he : xs[k] = ys[k]) : agree xs ys (k + 1) := by
  intro j hj
  by_cases hjk : j = k
  · subst hjk
    simp [h1, h2, he]
  · exact h j (by omega)
theorem agree_eq {xs ys : List Int} (hl : xs.length = ys.length) (h : agree xs ys xs.length) : xs = ys := by
  apply List.ext_getElem hl
  intro i h1 h2
  have := h i h1
  simpa [h1, h2] using this
theorem agree_tail {x y : Int} {xs ys : List Int} {k : Nat} (h : agree (x :: xs) (y :: ys) (k + 1)) : x = y ∧ agree xs ys k := by
  refine ⟨by simpa using h 0 (by omega), fun j hj => ?_⟩
  simpa using h (j + 1) (by omega)

theorem cpre_le : ∀ xs ys : List Int, cpre xs ys ≤ xs.length ∧ cpre xs ys ≤ ys.length
  | [], ys => by simp [cpre]
  | x :: xs, [] => by simp [cpre]
  | x :: xs, y :: ys => by
    have := cpre_le xs ys
    simp only [cpre]
    split <;> simp <;> omega
theorem cpre_agree : ∀ xs ys : List Int, agree xs ys (cpre xs ys)
  | [], ys => by simpa [cpre] using agree_zero _ _
  | x :: xs, [] => by simpa [cpre] using agree_zero _ _
  | x :: xs, y :: ys => by
    have ih := cpre_agree xs ys
    simp only [cpre]
    split
    · rename_i h
      subst h
      intro j hj
      cases j with
      | zero => rfl
      | succ j => simpa using ih j (by omega)
    · exact agree_zero _ _
theorem cpre_ge : ∀ (xs ys : List Int) (k : Nat), agree xs ys k → k ≤ xs.length → k ≤ ys.length → k ≤ cpre xs ys
  | _, _, 0, _, _, _ => Nat.zero_le _
  | [], _, k + 1, _, h, _ => by simp at h
  | x :: xs, [], k + 1, _, _, h => by simp at h
  | x :: xs, y :: ys, k + 1, h, h1, h2 => by
    obtain ⟨rfl, ht⟩ := agree_tail h
    have := cpre_ge xs ys k ht (by simpa using h1) (by simpa using h2)
    simp [cpre]
    omega
theorem cpre_diff : ∀ (xs ys : List Int) (h1 : cpre xs ys < xs.length) (h2 : cpre xs ys < ys.length), xs[cpre xs ys] ≠ ys[cpre xs ys] := by
  intro xs ys h1 h2 he
  have := cpre_ge xs ys (cpre xs ys + 1) (agree_succ (cpre_agree xs ys) h1 h2 he) h1 h2
  omega
/-- At the first place at which they differ. -/
theorem cpre_of_diff {xs ys : List Int} {k : Nat} (h : agree xs ys k) (h1 : k < xs.length) (h2 : k < ys.length) (hne : xs[k] ≠ ys[k]) : cpre xs ys = k := by
  have a := cpre_ge xs ys k h (by omega) (by omega)
  have b := cpre_agree xs ys
  rcases Nat.lt_or_ge k (cpre xs ys) with hlt | hge
  · have := b k hlt
    simp [h1, h2] at this
    exact absurd this hne
  · omega
/-- No place at which they differ. -/
theorem cpre_of_end {xs ys : List Int} (h : agree xs ys (min xs.length ys.length)) : cpre xs ys = min xs.length ys.length := by
  have a := cpre_ge xs ys _ h (by omega) (by omega)
  have := cpre_le xs ys
  omega

/-- Is one above the other one? -/
def aboveB (xs ys : List Int) : Bool := decide (xs.length < ys.length) && decide (cpre xs ys = xs.length)
/-- Is one left of the other one? -/
def leftB (xs ys : List Int) : Bool := decide (cpre xs ys + 1 = xs.length) && (decide (cpre xs ys < ys.length) && decide (xs.getD (cpre xs ys) 0 < ys.getD (cpre xs ys) 0))
/-- How they compare. -/
def cmpI : List Int → List Int → Int
  | [], [] => 0
  | [], _ :: _ => -1
  | _ :: _, [] => 1
  | x :: xs, y :: ys => if x < y then -1 else if y < x then 1 else cmpI xs ys

/-- A path's last number. -/
def lastI (xs : List Int) : Int := xs.getD (xs.length - 1) 0
/-- The greatest int. -/
def maxI : Int := 9223372036854775807
/-- The next path, the one ahead; why not. -/
def nextE (xs : List Int) : Int := if xs.length = 0 then 6 else if lastI xs = maxI then 8 else 0
def nextL (xs : List Int) : List Int := if xs.length = 0 then [] else if lastI xs = maxI then [] else xs.set (xs.length - 1) (lastI xs + 1)
def backE (xs : List Int) : Int := if xs.length = 0 then 6 else if lastI xs ≤ 0 then 8 else 0
def backL (xs : List Int) : List Int := if xs.length = 0 then [] else if lastI xs ≤ 0 then [] else xs.set (xs.length - 1) (lastI xs - 1)

end Go.Proofs.Ytdcpoeaddhbjbaa
