/- Walks of package trail: Same, Above, Left. -/
import Derived.Test.YtkalomdbbgeemaaTrail1
namespace Go.Proofs.Ytkalomdbbgeemaa
open Go.RowKit

theorem same_any (xs ys : List Int) (v1 v2 : Value) (w : World) (h1 : Ints w v1 xs) (h2 : Ints w v2 ys) :
    Calls Try.prog 18 #[v1, v2] w fun e w' => e = .returned (.bool (decide (xs = ys))) ∧ Same w w' := by
  go_enter Try.func18, Try.ntmps18
  go_wp2_with fail
  refine (equal_ints xs ys v1 v2 _ h1 h2).mono ?_
  rintro e w' ⟨rfl, hs⟩
  go_wp2
  go_ret
  exact ⟨rfl, hs⟩

theorem above_any (xs ys : List Int) (v1 v2 : Value) (w : World) (h1 : Ints w v1 xs) (h2 : Ints w v2 ys) :
    Calls Try.prog 19 #[v1, v2] w fun e w' => e = .returned (.bool (aboveB xs ys)) ∧ Same w w' := by
  obtain ⟨a1, c1, e1⟩ := h1.slice
  obtain ⟨a2, c2, e2⟩ := h2.slice
  have b1 := h1.len
  have b2 := h2.len
  subst e1 e2
  by_cases hlt : xs.length < ys.length
  · go_enter Try.func19, Try.ntmps19
    go_wp2_with fail
    refine (alike_any xs ys _ _ _ h1 h2).mono ?_
    rintro e w' ⟨rfl, hs⟩
    go_wp2
    go_ret
    refine ⟨ret_bool ?_, hs⟩
    simp [aboveB, hlt]
    rw [Bool.eq_iff_iff]
    simp
    try omega
  · go_enter Try.func19, Try.ntmps19
    go_wp2
    go_ret
    exact ⟨ret_bool (by simp [aboveB, hlt]), Same.refl _⟩

theorem i64_pred (n : Nat) (h : n * 8 ≤ 140737488351232) : IntKind.i64.wrap ((n : Int) - 1) = (n : Int) - 1 := IntWalk.i64_in _ (by omega)

set_option maxHeartbeats 400000 in
theorem left_any (xs ys : List Int) (v1 v2 : Value) (w : World) (h1 : Ints w v1 xs) (h2 : Ints w v2 ys) :
    Calls Try.prog 32 #[v1, v2] w fun e w' => e = .returned (.bool (leftB xs ys)) ∧ Same w w' := by
  have HA := Lib.hid (alike_any xs ys v1 v2 w h1 h2)
  obtain ⟨a1, c1, rfl, l1, b1', o1⟩ := h1.open_
  obtain ⟨a2, c2, rfl, l2, b2', o2⟩ := h2.open_
  clear h1 h2
  obtain ⟨k1, k2⟩ := cpre_le xs ys
  by_cases p1 : cpre xs ys + 1 = xs.length
  · have q1 : ((cpre xs ys : Int) == (xs.length : Int) - 1) = true := by rw [beq_iff_eq]; omega
    by_cases p2 : cpre xs ys < ys.length
    · have q2 : decide (cpre xs ys < ys.length) = true := by simpa using p2
      obtain ⟨b1, f1, rfl, e1⟩ := o1 (by omega)
      obtain ⟨b2, f2, rfl, e2⟩ := o2 (by omega)
      have d1 := e1 (cpre xs ys) (by omega)
      have d2 := e2 (cpre xs ys) (by omega)
      have HL : Hid (leftB xs ys = decide (xs.getD (cpre xs ys) 0 < ys.getD (cpre xs ys) 0)) := by
        show leftB xs ys = _
        simp [leftB, p1, p2]
      have p3 : cpre xs ys < xs.length := by omega
      clear e1 e2 o1 o2 p1
      generalize cpre xs ys = c at *
      go_enter Try.func32, Try.ntmps32
      go_wp2_with fail
      refine HA.out.mono ?_
      rintro e w' ⟨rfl, hs⟩
      have g1 := (hs.cell _).trans d1
      have g2 := (hs.cell _).trans d2
      clear d1 d2
      go_wp2
      have hw := i64_pred xs.length b1'
      go_quiet (fail)
      clear hw
      go_wp2
      go_ret
      exact ⟨ret_bool (by rw [HL.out]; simp [List.getD, p2, p3]), hs.drewN _⟩
    · have q2 : decide (cpre xs ys < ys.length) = false := by simpa using p2
      have HL : Hid (leftB xs ys = false) := by
        show leftB xs ys = _
        simp [leftB, p2]
      clear o1 o2 p1
      generalize cpre xs ys = c at *
      go_enter Try.func32, Try.ntmps32
      go_wp2_with fail
      refine HA.out.mono ?_
      rintro e w' ⟨rfl, hs⟩
      go_wp2
      have hw := i64_pred xs.length b1'
      go_quiet (fail)
      clear hw
      go_wp2
      go_ret
      exact ⟨ret_bool (by rw [HL.out]), hs.drewN _⟩
  · have q1 : ((cpre xs ys : Int) == (xs.length : Int) - 1) = false := by rw [beq_eq_false_iff_ne]; omega
    have HL : Hid (leftB xs ys = false) := by
      show leftB xs ys = _
      simp [leftB, p1]
    clear o1 o2 p1
    generalize cpre xs ys = c at *
    go_enter Try.func32, Try.ntmps32
    go_wp2_with fail
    refine HA.out.mono ?_
    rintro e w' ⟨rfl, hs⟩
    go_wp2
    have hw := i64_pred xs.length b1'
    go_quiet (fail)
    clear hw
    go_wp2
    go_ret
    exact ⟨ret_bool (by rw [HL.out]), hs.drewN _⟩
end Go.Proofs.Ytkalomdbbgeemaa
