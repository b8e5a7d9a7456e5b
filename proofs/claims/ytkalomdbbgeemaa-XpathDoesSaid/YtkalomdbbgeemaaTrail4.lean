/- Walks of package trail: beside, Next, Back. -/
import Derived.Test.YtkalomdbbgeemaaTrail3
namespace Go.Proofs.Ytkalomdbbgeemaa
open Go.RowKit

theorem I64.last {xs : List Int} (h : I64 xs) (hp : 0 < xs.length) : -9223372036854775808 ≤ lastI xs ∧ lastI xs ≤ 9223372036854775807 := by
  refine h _ ?_
  simp only [lastI, List.getD]
  rw [List.getElem?_eq_getElem (by omega)]
  exact List.getElem_mem _

set_option maxHeartbeats 400000 in
theorem beside_next (xs : List Int) (v : Value) (w : World) (h : Ints w v xs) (h64 : I64 xs) :
    Calls Try.prog 46 #[v, .int .i64 1] w (Two (nextL xs) (nextE xs) w) := by
  have HC := Lib.hid (clone_ints xs v w h)
  obtain ⟨a1, c1, rfl, l1, _, b1, _⟩ := id h
  clear h
  by_cases h0 : xs.length = 0
  · have q : (((xs.length : Nat) : Int) == 0) = true := by simp [h0]
    have HE : Hid (nextE xs = 6) := by show nextE xs = 6; rw [nextE, if_pos h0]
    have HL : Hid (nextL xs = []) := by show nextL xs = []; rw [nextL, if_pos h0]
    clear h0 h64
    go_enter Try.func46, Try.ntmps46
    go_wp2
    go_ret2
    exact Two.nil HL.out HE.out.symm (Below.refl _ _)
  · have q : (((xs.length : Nat) : Int) == 0) = false := by rw [beq_eq_false_iff_ne]; omega
    have p : 0 < xs.length := by omega
    obtain ⟨m1, m2⟩ := h64.last p
    by_cases hm : lastI xs = maxI
    · have HE : Hid (nextE xs = 8) := by show nextE xs = 8; rw [nextE, if_neg h0, if_pos hm]
      have HL : Hid (nextL xs = []) := by show nextL xs = []; rw [nextL, if_neg h0, if_pos hm]
      have q2 : (lastI xs == 9223372036854775807) = true := by rw [beq_iff_eq]; exact hm
      clear h0 h64 hm m1 m2
      go_enter Try.func46, Try.ntmps46
      go_wp2_with fail
      refine HC.out.mono ?_
      rintro e w2 ⟨v', rfl, ho, hb⟩
      obtain ⟨g, cap, rfl, hcap, hg1, hg2, hcell, hfr, hset⟩ := ho.at_ (xs.length - 1) (by omega)
      have hcell2 : w2.cell? ⟨g, xs.length - 1, none⟩ = some (.int .i64 (lastI xs)) := hcell
      clear hcell hset ho
      go_wp2
      go_ret2
      exact Two.nil HL.out HE.out.symm hb
    · have HE : Hid (nextE xs = 0) := by show nextE xs = 0; rw [nextE, if_neg h0, if_neg hm]
      have HL : Hid (nextL xs = xs.set (xs.length - 1) (lastI xs + 1)) := by show nextL xs = _; rw [nextL, if_neg h0, if_neg hm]
      have q2 : (lastI xs == 9223372036854775807) = false := by rw [beq_eq_false_iff_ne]; exact hm
      have hw : IntKind.i64.wrap (lastI xs + 1) = lastI xs + 1 := IntWalk.i64_in _ (by unfold maxI at hm; omega)
      clear h0 h64 hm m1 m2
      go_enter Try.func46, Try.ntmps46
      go_wp2_with fail
      refine HC.out.mono ?_
      rintro e w2 ⟨v', rfl, ho, hb⟩
      obtain ⟨g, cap, rfl, hcap, hg1, hg2, hcell, hfr, hset⟩ := ho.at_ (xs.length - 1) (by omega)
      have hcell2 : w2.cell? ⟨g, xs.length - 1, none⟩ = some (.int .i64 (lastI xs)) := hcell
      have HS := Lib.hid (hset (lastI xs + 1))
      clear hcell hset ho
      go_wp2
      go_ret2
      exact Two.mk (by rw [HL.out]; exact HS.out.1) HE.out.symm (hb.trans HS.out.2)

set_option maxHeartbeats 400000 in
theorem beside_back (xs : List Int) (v : Value) (w : World) (h : Ints w v xs) (h64 : I64 xs) :
    Calls Try.prog 46 #[v, .int .i64 (-1)] w (Two (backL xs) (backE xs) w) := by
  have HC := Lib.hid (clone_ints xs v w h)
  obtain ⟨a1, c1, rfl, l1, _, b1, _⟩ := id h
  clear h
  by_cases h0 : xs.length = 0
  · have q : (((xs.length : Nat) : Int) == 0) = true := by simp [h0]
    have HE : Hid (backE xs = 6) := by show backE xs = 6; rw [backE, if_pos h0]
    have HL : Hid (backL xs = []) := by show backL xs = []; rw [backL, if_pos h0]
    clear h0 h64
    go_enter Try.func46, Try.ntmps46
    go_wp2
    go_ret2
    exact Two.nil HL.out HE.out.symm (Below.refl _ _)
  · have q : (((xs.length : Nat) : Int) == 0) = false := by rw [beq_eq_false_iff_ne]; omega
    have p : 0 < xs.length := by omega
    obtain ⟨m1, m2⟩ := h64.last p
    by_cases hm : lastI xs ≤ 0
    · have HE : Hid (backE xs = 8) := by show backE xs = 8; rw [backE, if_neg h0, if_pos hm]
      have HL : Hid (backL xs = []) := by show backL xs = []; rw [backL, if_neg h0, if_pos hm]
      have q2 : decide (lastI xs ≤ 0) = true := by simpa using hm
      clear h0 h64 hm m1 m2
      go_enter Try.func46, Try.ntmps46
      go_wp2_with fail
      refine HC.out.mono ?_
      rintro e w2 ⟨v', rfl, ho, hb⟩
      obtain ⟨g, cap, rfl, hcap, hg1, hg2, hcell, hfr, hset⟩ := ho.at_ (xs.length - 1) (by omega)
      have hcell2 : w2.cell? ⟨g, xs.length - 1, none⟩ = some (.int .i64 (lastI xs)) := hcell
      clear hcell hset ho
      go_wp2
      go_ret2
      exact Two.nil HL.out HE.out.symm hb
    · have HE : Hid (backE xs = 0) := by show backE xs = 0; rw [backE, if_neg h0, if_neg hm]
      have HL : Hid (backL xs = xs.set (xs.length - 1) (lastI xs - 1)) := by show backL xs = _; rw [backL, if_neg h0, if_neg hm]
      have q2 : decide (lastI xs ≤ 0) = false := by simpa using hm
      have hw : IntKind.i64.wrap (lastI xs + -1) = lastI xs - 1 := IntWalk.i64_in _ (by omega)
      clear h0 h64 hm m1 m2
      go_enter Try.func46, Try.ntmps46
      go_wp2_with fail
      refine HC.out.mono ?_
      rintro e w2 ⟨v', rfl, ho, hb⟩
      obtain ⟨g, cap, rfl, hcap, hg1, hg2, hcell, hfr, hset⟩ := ho.at_ (xs.length - 1) (by omega)
      have hcell2 : w2.cell? ⟨g, xs.length - 1, none⟩ = some (.int .i64 (lastI xs)) := hcell
      have HS := Lib.hid (hset (lastI xs - 1))
      clear hcell hset ho
      go_wp2
      go_ret2
      exact Two.mk (by rw [HL.out]; exact HS.out.1) HE.out.symm (hb.trans HS.out.2)

theorem next_any (xs : List Int) (v : Value) (w : World) (h : Ints w v xs) (h64 : I64 xs) :
    Calls Try.prog 23 #[v] w (Two (nextL xs) (nextE xs) w) := by
  go_enter Try.func23, Try.ntmps23
  go_wp2_with fail
  refine (beside_next xs v _ h h64).mono ?_
  rintro e w2 ⟨v', rfl, ho, hb⟩
  go_wp2
  go_ret2
  exact ⟨v', rfl, ho, hb⟩

theorem back_any (xs : List Int) (v : Value) (w : World) (h : Ints w v xs) (h64 : I64 xs) :
    Calls Try.prog 25 #[v] w (Two (backL xs) (backE xs) w) := by
  go_enter Try.func25, Try.ntmps25
  go_wp2_with fail
  refine (beside_back xs v _ h h64).mono ?_
  rintro e w2 ⟨v', rfl, ho, hb⟩
  go_wp2
  go_ret2
  exact ⟨v', rfl, ho, hb⟩

end Go.Proofs.Ytkalomdbbgeemaa
