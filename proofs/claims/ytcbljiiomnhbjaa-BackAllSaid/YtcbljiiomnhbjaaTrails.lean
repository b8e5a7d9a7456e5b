/- Walks of package trail: alike, Same, Above, Left, Common. Walks of package trail: Same, Above, Left. Walks of package trail: Common, Parent, beside, Next, Back. Walks of package trail: beside, Next, Back. Walks of package trail: Levels. Walks of package redlineref02: Copy, Parent, Next, Back. -/
import Derived.Test.YtcbljiiomnhbjaaClone
import Derived.Test.YtcbljiiomnhbjaaRow
namespace Go.Proofs.Ytcbljiiomnhbjaa
set_option maxRecDepth 100000
open Go.RowKit

/- Walks of package trail: alike, Same, Above, Left, Common. -/
set_option maxHeartbeats 400000 in
theorem alike_any (xs ys : List Int) (v1 v2 : Value) (w : World) (h1 : Ints w v1 xs) (h2 : Ints w v2 ys) :
    Calls Try.prog 71 #[v1, v2] w fun e w' => e = .returned (.int .i64 (cpre xs ys)) ∧ Same w w' := by
  obtain ⟨a1, c1, rfl, l1, b1, o1⟩ := h1.open_
  obtain ⟨a2, c2, rfl, l2, b2, o2⟩ := h2.open_
  clear h1 h2
  rcases Nat.lt_or_ge ys.length xs.length with hle | hle
  all_goals
    go_enter Try.func71, Try.ntmps71
    go_wp2
    go_loopw [11] (fun i wr => ∃ k : Nat, k ≤ xs.length ∧ k ≤ ys.length ∧ i = .int .i64 k ∧ agree xs ys k ∧ Same w wr) (fun i _ => xs.length - (intOf i).toNat)
    case atStart => exact ⟨0, Nat.zero_le _, Nat.zero_le _, rfl, agree_zero _ _, Same.refl _⟩
    case round =>
      obtain ⟨k, hk, hk2, rfl, hag, hs⟩ := hrel
      by_cases hlt : k < xs.length ∧ k < ys.length
      · obtain ⟨hlt, hlt2⟩ := hlt
        obtain ⟨p1, f1, rfl, e1⟩ := o1 (by omega)
        obtain ⟨p2, f2, rfl, e2⟩ := o2 (by omega)
        have d1 := (hs.cell ⟨p1, f1 + k, none⟩).trans (e1 k hlt)
        have d2 := (hs.cell ⟨p2, f2 + k, none⟩).trans (e2 k hlt2)
        clear e1 e2 o1 o2
        go_wp2
        go_quiet (fail)
        go_wp2
        · have hne2 : (xs[k] != ys[k]) = true := by assumption
          go_ret
          exact ⟨ret_int (by rw [cpre_of_diff hag hlt hlt2 (by simpa using hne2)]), hs.drewN _⟩
        · have heq : (xs[k] != ys[k]) = false := by assumption
          go_roundw
          case rel => exact ⟨k + 1, by omega, by omega, by go_num, agree_succ hag hlt hlt2 (by simpa using heq), hs.drewN _⟩
          case measure => simp [intOf]; omega
      · have hnl : min xs.length ys.length = k := by omega
        have HK := Lib.hid hnl
        have g1 : ¬ k < min xs.length ys.length := by omega
        clear o1 o2 hnl
        go_wp2
        go_ret
        refine ⟨ret_int ?_, hs⟩
        rw [cpre_of_end (by rw [HK.out]; exact hag)]
        omega

/- Walks of package trail: Same, Above, Left. -/
theorem same_any (xs ys : List Int) (v1 v2 : Value) (w : World) (h1 : Ints w v1 xs) (h2 : Ints w v2 ys) :
    Calls Try.prog 24 #[v1, v2] w fun e w' => e = .returned (.bool (decide (xs = ys))) ∧ Same w w' := by
  go_enter Try.func24, Try.ntmps24
  go_wp2_with fail
  refine (equal_ints xs ys v1 v2 _ h1 h2).mono ?_
  rintro e w' ⟨rfl, hs⟩
  go_wp2
  go_ret
  exact ⟨rfl, hs⟩

theorem above_any (xs ys : List Int) (v1 v2 : Value) (w : World) (h1 : Ints w v1 xs) (h2 : Ints w v2 ys) :
    Calls Try.prog 63 #[v1, v2] w fun e w' => e = .returned (.bool (aboveB xs ys)) ∧ Same w w' := by
  obtain ⟨a1, c1, e1⟩ := h1.slice
  obtain ⟨a2, c2, e2⟩ := h2.slice
  have b1 := h1.len
  have b2 := h2.len
  subst e1 e2
  by_cases hlt : xs.length < ys.length
  · go_enter Try.func63, Try.ntmps63
    go_wp2_with fail
    refine (alike_any xs ys _ _ _ h1 h2).mono ?_
    rintro e w' ⟨rfl, hs⟩
    go_wp2
    go_ret
    refine ⟨ret_bool ?_, hs⟩
    simp [aboveB, hlt]
    rw [Bool.eq_iff_iff]
    simp
    try omega
  · go_enter Try.func63, Try.ntmps63
    go_wp2
    go_ret
    exact ⟨ret_bool (by simp [aboveB, hlt]), Same.refl _⟩

theorem i64_pred (n : Nat) (h : n * 8 ≤ 140737488351232) : IntKind.i64.wrap ((n : Int) - 1) = (n : Int) - 1 := IntWalk.i64_in _ (by omega)

set_option maxHeartbeats 400000 in
theorem left_any (xs ys : List Int) (v1 v2 : Value) (w : World) (h1 : Ints w v1 xs) (h2 : Ints w v2 ys) :
    Calls Try.prog 64 #[v1, v2] w fun e w' => e = .returned (.bool (leftB xs ys)) ∧ Same w w' := by
  have HA := Lib.hid (alike_any xs ys v1 v2 w h1 h2)
  obtain ⟨a1, c1, rfl, l1, b1', o1⟩ := h1.open_
  obtain ⟨a2, c2, rfl, l2, b2', o2⟩ := h2.open_
  clear h1 h2
  obtain ⟨k1, k2⟩ := cpre_le xs ys
  by_cases p1 : cpre xs ys + 1 = xs.length
  · have q1 : ((cpre xs ys : Int) == (xs.length : Int) - 1) = true := by rw [beq_iff_eq]; omega
    by_cases p2 : cpre xs ys < ys.length
    · have q2 : decide (cpre xs ys < ys.length) = true := by simpa using p2
      obtain ⟨b1, f1, rfl, e1⟩ := o1 (by omega)
      obtain ⟨b2, f2, rfl, e2⟩ := o2 (by omega)
      have d1 := e1 (cpre xs ys) (by omega)
      have d2 := e2 (cpre xs ys) (by omega)
      have HL : Hid (leftB xs ys = decide (xs.getD (cpre xs ys) 0 < ys.getD (cpre xs ys) 0)) := by
        show leftB xs ys = _
        simp [leftB, p1, p2]
      have p3 : cpre xs ys < xs.length := by omega
      clear e1 e2 o1 o2 p1
      generalize cpre xs ys = c at *
      go_enter Try.func64, Try.ntmps64
      go_wp2_with fail
      refine HA.out.mono ?_
      rintro e w' ⟨rfl, hs⟩
      have g1 := (hs.cell _).trans d1
      have g2 := (hs.cell _).trans d2
      clear d1 d2
      go_wp2
      have hw := i64_pred xs.length b1'
      go_quiet (fail)
      clear hw
      go_wp2
      go_ret
      exact ⟨ret_bool (by rw [HL.out]; simp [List.getD, p2, p3]), hs.drewN _⟩
    · have q2 : decide (cpre xs ys < ys.length) = false := by simpa using p2
      have HL : Hid (leftB xs ys = false) := by
        show leftB xs ys = _
        simp [leftB, p2]
      clear o1 o2 p1
      generalize cpre xs ys = c at *
      go_enter Try.func64, Try.ntmps64
      go_wp2_with fail
      refine HA.out.mono ?_
      rintro e w' ⟨rfl, hs⟩
      go_wp2
      have hw := i64_pred xs.length b1'
      go_quiet (fail)
      clear hw
      go_wp2
      go_ret
      exact ⟨ret_bool (by rw [HL.out]), hs.drewN _⟩
  · have q1 : ((cpre xs ys : Int) == (xs.length : Int) - 1) = false := by rw [beq_eq_false_iff_ne]; omega
    have HL : Hid (leftB xs ys = false) := by
      show leftB xs ys = _
      simp [leftB, p1]
    clear o1 o2 p1
    generalize cpre xs ys = c at *
    go_enter Try.func64, Try.ntmps64
    go_wp2_with fail
    refine HA.out.mono ?_
    rintro e w' ⟨rfl, hs⟩
    go_wp2
    have hw := i64_pred xs.length b1'
    go_quiet (fail)
    clear hw
    go_wp2
    go_ret
    exact ⟨ret_bool (by rw [HL.out]), hs.drewN _⟩

/- Walks of package trail: Common, Parent, beside, Next, Back. -/
theorem Ints.take {w : World} {a : Option Addr} {n cap k : Nat} {xs : List Int} (h : Ints w (.slice a n cap) xs) (hk : k ≤ xs.length) : Ints w (.slice a k cap) (xs.take k) := by
  obtain ⟨a', cap', he, h1, hm, h2, h4⟩ := h
  simp only [Value.slice.injEq] at he
  obtain ⟨rfl, rfl, rfl⟩ := he
  have hl : (xs.take k).length = k := by simp; omega
  refine ⟨a, cap, by rw [hl], by omega, hm, by omega, fun hp => ?_⟩
  obtain ⟨b, off, rfl, hc⟩ := h4 hp
  refine ⟨b, off, rfl, fun j hj => ?_⟩
  rw [hc j (by omega)]
  have : j < k := by omega
  simp [this]

/-- A result of two: a slice of ints of the call's own, and an error's number. -/
def Two (xs : List Int) (n : Int) (w : World) (e : Ending) (w' : World) : Prop :=
  ∃ v', e = .returned (.tuple #[v', .int .i64 n]) ∧ Own w' w.heap.size v' xs ∧ Below w.heap.size w w'

theorem Two.nil {xs : List Int} {n m : Int} {w w' : World} (hx : xs = []) (hn : m = n) (hb : Below w.heap.size w w') : Two xs n w (.returned (.tuple #[.slice none 0 0, .int .i64 m])) w' := by
  subst hx hn
  exact ⟨_, rfl, Own.nil _ _, hb⟩
theorem Two.mk {xs : List Int} {n m : Int} {w w' : World} {v : Value} (h : Own w' w.heap.size v xs) (hn : m = n) (hb : Below w.heap.size w w') : Two xs n w (.returned (.tuple #[v, .int .i64 m])) w' := by
  subst hn
  exact ⟨_, rfl, h, hb⟩

/-- A path's parent. -/
def parentL (xs : List Int) : List Int := xs.take (xs.length - 1)
def parentE (xs : List Int) : Int := if xs.length = 0 then 6 else 0

/-- A slice of the call's own, an element of it: where it lies, what a store into it does. -/
theorem Own.at_ {w : World} {B : Nat} {v : Value} {xs : List Int} (h : Own w B v xs) (i : Nat) (hi : i < xs.length) :
    ∃ g cap, v = .slice (some ⟨g, 0, none⟩) xs.length cap ∧ xs.length ≤ cap ∧ B ≤ g ∧ g < w.heap.size ∧ w.cell? ⟨g, i, none⟩ = some (.int .i64 (xs.getD i 0)) ∧ w.frozen? ⟨g, i, none⟩ = false ∧
      ∀ x : Int, Own (w.setCell ⟨g, i, none⟩ (.int .i64 x)) B v (xs.set i x) ∧ Below B w (w.setCell ⟨g, i, none⟩ (.int .i64 x)) := by
  obtain ⟨⟨hl, h⟩, hb⟩ := id h
  rcases h with ⟨rfl, h0⟩ | ⟨g, cap, cur, rfl, hB, hg, hn, hm, hs, ht⟩
  · omega
  · have hic : i < cur.size := by omega
    have hcur : cur.toList[i]? = some (.int .i64 (xs.getD i 0)) := by
      have : (cur.toList.take (xs.length * 1))[i]? = (xs.map (Value.int .i64))[i]? := by rw [ht]
      rw [List.getElem?_take, if_pos (by omega)] at this
      rw [this]
      simp [hi]
    have hgl := lt_of_block hg
    refine ⟨g, cap, rfl, hn, hB, hgl, ?_, ?_, fun x => ⟨⟨⟨by simp, .inr ⟨g, cap, cur.setIfInBounds i (.int .i64 x), by simp, hB, ?_, by simpa using hn, hm, by simpa using hs, ?_⟩⟩, by simpa using hb⟩, ?_⟩⟩
    · rw [cell_of_row w g i cur _ (0, 0) hg]
      simpa using hcur
    · simp [World.frozen?, hg]
    · show (w.heap.modify g _)[g]? = _
      have h' : w.heap[g] = .cells cur 3 (0, 0) := by simpa [Array.getElem?_eq_getElem hgl] using hg
      rw [Array.getElem?_eq_getElem (by simpa using hgl), Array.getElem_modify_self, h']
      rfl
    · simp only [Array.toList_setIfInBounds, List.length_set, List.map_set, ← ht]
      rw [List.take_set]
    · exact (Below.refl B w).setCell (p := ⟨g, i, none⟩) hB _

/- Walks of package trail: beside, Next, Back. -/
theorem I64.last {xs : List Int} (h : I64 xs) (hp : 0 < xs.length) : -9223372036854775808 ≤ lastI xs ∧ lastI xs ≤ 9223372036854775807 := by
  refine h _ ?_
  simp only [lastI, List.getD]
  rw [List.getElem?_eq_getElem (by omega)]
  exact List.getElem_mem _

set_option maxHeartbeats 400000 in
theorem beside_next (xs : List Int) (v : Value) (w : World) (h : Ints w v xs) (h64 : I64 xs) :
    Calls Try.prog 54 #[v, .int .i64 1] w (Two (nextL xs) (nextE xs) w) := by
  have HC := Lib.hid (clone_ints xs v w h)
  obtain ⟨a1, c1, rfl, l1, _, b1, _⟩ := id h
  clear h
  by_cases h0 : xs.length = 0
  · have q : (((xs.length : Nat) : Int) == 0) = true := by simp [h0]
    have HE : Hid (nextE xs = 6) := by show nextE xs = 6; rw [nextE, if_pos h0]
    have HL : Hid (nextL xs = []) := by show nextL xs = []; rw [nextL, if_pos h0]
    clear h0 h64
    go_enter Try.func54, Try.ntmps54
    go_wp2
    go_ret2
    exact Two.nil HL.out HE.out.symm (Below.refl _ _)
  · have q : (((xs.length : Nat) : Int) == 0) = false := by rw [beq_eq_false_iff_ne]; omega
    have p : 0 < xs.length := by omega
    obtain ⟨m1, m2⟩ := h64.last p
    by_cases hm : lastI xs = maxI
    · have HE : Hid (nextE xs = 8) := by show nextE xs = 8; rw [nextE, if_neg h0, if_pos hm]
      have HL : Hid (nextL xs = []) := by show nextL xs = []; rw [nextL, if_neg h0, if_pos hm]
      have q2 : (lastI xs == 9223372036854775807) = true := by rw [beq_iff_eq]; exact hm
      clear h0 h64 hm m1 m2
      go_enter Try.func54, Try.ntmps54
      go_wp2_with fail
      refine HC.out.mono ?_
      rintro e w2 ⟨v', rfl, ho, hb⟩
      obtain ⟨g, cap, rfl, hcap, hg1, hg2, hcell, hfr, hset⟩ := ho.at_ (xs.length - 1) (by omega)
      have hcell2 : w2.cell? ⟨g, xs.length - 1, none⟩ = some (.int .i64 (lastI xs)) := hcell
      clear hcell hset ho
      go_wp2
      go_ret2
      exact Two.nil HL.out HE.out.symm hb
    · have HE : Hid (nextE xs = 0) := by show nextE xs = 0; rw [nextE, if_neg h0, if_neg hm]
      have HL : Hid (nextL xs = xs.set (xs.length - 1) (lastI xs + 1)) := by show nextL xs = _; rw [nextL, if_neg h0, if_neg hm]
      have q2 : (lastI xs == 9223372036854775807) = false := by rw [beq_eq_false_iff_ne]; exact hm
      have hw : IntKind.i64.wrap (lastI xs + 1) = lastI xs + 1 := IntWalk.i64_in _ (by unfold maxI at hm; omega)
      clear h0 h64 hm m1 m2
      go_enter Try.func54, Try.ntmps54
      go_wp2_with fail
      refine HC.out.mono ?_
      rintro e w2 ⟨v', rfl, ho, hb⟩
      obtain ⟨g, cap, rfl, hcap, hg1, hg2, hcell, hfr, hset⟩ := ho.at_ (xs.length - 1) (by omega)
      have hcell2 : w2.cell? ⟨g, xs.length - 1, none⟩ = some (.int .i64 (lastI xs)) := hcell
      have HS := Lib.hid (hset (lastI xs + 1))
      clear hcell hset ho
      go_wp2
      go_ret2
      exact Two.mk (by rw [HL.out]; exact HS.out.1) HE.out.symm (hb.trans HS.out.2)

set_option maxHeartbeats 400000 in
theorem beside_back (xs : List Int) (v : Value) (w : World) (h : Ints w v xs) (h64 : I64 xs) :
    Calls Try.prog 54 #[v, .int .i64 (-1)] w (Two (backL xs) (backE xs) w) := by
  have HC := Lib.hid (clone_ints xs v w h)
  obtain ⟨a1, c1, rfl, l1, _, b1, _⟩ := id h
  clear h
  by_cases h0 : xs.length = 0
  · have q : (((xs.length : Nat) : Int) == 0) = true := by simp [h0]
    have HE : Hid (backE xs = 6) := by show backE xs = 6; rw [backE, if_pos h0]
    have HL : Hid (backL xs = []) := by show backL xs = []; rw [backL, if_pos h0]
    clear h0 h64
    go_enter Try.func54, Try.ntmps54
    go_wp2
    go_ret2
    exact Two.nil HL.out HE.out.symm (Below.refl _ _)
  · have q : (((xs.length : Nat) : Int) == 0) = false := by rw [beq_eq_false_iff_ne]; omega
    have p : 0 < xs.length := by omega
    obtain ⟨m1, m2⟩ := h64.last p
    by_cases hm : lastI xs ≤ 0
    · have HE : Hid (backE xs = 8) := by show backE xs = 8; rw [backE, if_neg h0, if_pos hm]
      have HL : Hid (backL xs = []) := by show backL xs = []; rw [backL, if_neg h0, if_pos hm]
      have q2 : decide (lastI xs ≤ 0) = true := by simpa using hm
      clear h0 h64 hm m1 m2
      go_enter Try.func54, Try.ntmps54
      go_wp2_with fail
      refine HC.out.mono ?_
      rintro e w2 ⟨v', rfl, ho, hb⟩
      obtain ⟨g, cap, rfl, hcap, hg1, hg2, hcell, hfr, hset⟩ := ho.at_ (xs.length - 1) (by omega)
      have hcell2 : w2.cell? ⟨g, xs.length - 1, none⟩ = some (.int .i64 (lastI xs)) := hcell
      clear hcell hset ho
      go_wp2
      go_ret2
      exact Two.nil HL.out HE.out.symm hb
    · have HE : Hid (backE xs = 0) := by show backE xs = 0; rw [backE, if_neg h0, if_neg hm]
      have HL : Hid (backL xs = xs.set (xs.length - 1) (lastI xs - 1)) := by show backL xs = _; rw [backL, if_neg h0, if_neg hm]
      have q2 : decide (lastI xs ≤ 0) = false := by simpa using hm
      have hw : IntKind.i64.wrap (lastI xs + -1) = lastI xs - 1 := IntWalk.i64_in _ (by omega)
      clear h0 h64 hm m1 m2
      go_enter Try.func54, Try.ntmps54
      go_wp2_with fail
      refine HC.out.mono ?_
      rintro e w2 ⟨v', rfl, ho, hb⟩
      obtain ⟨g, cap, rfl, hcap, hg1, hg2, hcell, hfr, hset⟩ := ho.at_ (xs.length - 1) (by omega)
      have hcell2 : w2.cell? ⟨g, xs.length - 1, none⟩ = some (.int .i64 (lastI xs)) := hcell
      have HS := Lib.hid (hset (lastI xs - 1))
      clear hcell hset ho
      go_wp2
      go_ret2
      exact Two.mk (by rw [HL.out]; exact HS.out.1) HE.out.symm (hb.trans HS.out.2)

theorem next_any (xs : List Int) (v : Value) (w : World) (h : Ints w v xs) (h64 : I64 xs) :
    Calls Try.prog 28 #[v] w (Two (nextL xs) (nextE xs) w) := by
  go_enter Try.func28, Try.ntmps28
  go_wp2_with fail
  refine (beside_next xs v _ h h64).mono ?_
  rintro e w2 ⟨v', rfl, ho, hb⟩
  go_wp2
  go_ret2
  exact ⟨v', rfl, ho, hb⟩

theorem back_any (xs : List Int) (v : Value) (w : World) (h : Ints w v xs) (h64 : I64 xs) :
    Calls Try.prog 29 #[v] w (Two (backL xs) (backE xs) w) := by
  go_enter Try.func29, Try.ntmps29
  go_wp2_with fail
  refine (beside_back xs v _ h h64).mono ?_
  rintro e w2 ⟨v', rfl, ho, hb⟩
  go_wp2
  go_ret2
  exact ⟨v', rfl, ho, hb⟩

/- Walks of package trail: Levels. -/
theorem info_ints : (Try.prog.info? 22).map (fun i => (i.zero, i.size, i.bytes)) = some (some (.slice none 0 0), 1, 24) := by kernel_rfl

theorem Own.below {w w' : World} {B C : Nat} {v : Value} {xs : List Int} (h : Own w B v xs) (hb : Below C w w') (hC : w.heap.size ≤ C) : Own w' B v xs := ⟨row_below h.1 hb hC, h.2⟩
theorem Own.mono {w : World} {B C : Nat} {v : Value} {xs : List Int} (h : Own w B v xs) (hC : C ≤ B) : Own w C v xs := ⟨row_mono h.1 hC, h.2⟩
theorem Own.setBelow {w : World} {B : Nat} {v : Value} {xs : List Int} (h : Own w B v xs) {a : Addr} (ha : a.block < B) (u : Value) : Own (w.setCell a u) B v xs := ⟨ownsRow_setCell_below h.1 ha u, h.2⟩

/-- A slice of slices of ints, all of the call's own. -/
def OwnL (w : World) (B : Nat) (v : Value) (xss : List (List Int)) : Prop :=
  ∃ vs : List Value, w.ownsRow B 22 1 v xss.length vs ∧ ∀ j, j < xss.length → Own w B (vs.getD j (.slice none 0 0)) (xss.getD j [])

/-- A path's levels. -/
def levelsL (xs : List Int) : List (List Int) := (List.range (xs.length + 1)).map fun i => xs.take i

/-- What holds behind k rounds. -/
def LevRel (w wr : World) (xs : List Int) (k : Nat) : Prop :=
  ∃ vs : List Value, wr.ownsRow w.heap.size 22 1 (.slice (some ⟨w.heap.size, 0, none⟩) (xs.length + 1) (xs.length + 1)) (xs.length + 1) vs ∧
    (∀ j, j < k → Own wr (w.heap.size + 1) (vs.getD j (.slice none 0 0)) (xs.take j)) ∧ w.heap.size < wr.heap.size ∧ Below w.heap.size w wr

theorem LevRel.step {w wr w2 : World} {xs : List Int} {k : Nat} {v : Value} (h : LevRel w wr xs k) (hk : k < xs.length + 1) (ho : Own w2 wr.heap.size v (xs.take k)) (hb : Below wr.heap.size wr w2) :
    LevRel w (w2.setCell ⟨w.heap.size, k, none⟩ v) xs (k + 1) := by
  obtain ⟨vs, h1, h2, h3, h4⟩ := h
  obtain ⟨g, cap, hv, hcap, hg1, hg2, hcell, hfr, hset⟩ := row_at (row_below h1 hb (Nat.le_refl _)) k hk
  simp only [Value.slice.injEq, Option.some.injEq, Addr.mk.injEq] at hv
  obtain ⟨⟨rfl, _⟩, _, rfl⟩ := hv
  have hs := hb.size
  have hvl : vs.length = xs.length + 1 := by simpa using h1.1
  refine ⟨vs.set k v, (hset v).1, fun j hj => ?_, by simpa [World.setCell] using Nat.lt_of_lt_of_le h3 hs, (h4.trans (hb.mono (Nat.le_of_lt h3))).trans (hset v).2⟩
  by_cases hjk : j = k
  · subst hjk
    rw [show (vs.set j v).getD j (.slice none 0 0) = v from by simp [List.getD, show j < vs.length by omega]]
    exact (ho.mono h3).setBelow (a := ⟨w.heap.size, j, none⟩) (Nat.lt_succ_self _) v
  · rw [show (vs.set k v).getD j (.slice none 0 0) = vs.getD j (.slice none 0 0) from by simp [List.getD, show ¬ k = j by omega]]
    exact ((h2 j (by omega)).below hb (Nat.le_refl _)).setBelow (a := ⟨w.heap.size, k, none⟩) (Nat.lt_succ_self _) v

theorem LevRel.done {w wr : World} {xs : List Int} (h : LevRel w wr xs (xs.length + 1)) :
    OwnL wr w.heap.size (.slice (some ⟨w.heap.size, 0, none⟩) (xs.length + 1) (xs.length + 1)) (levelsL xs) ∧ Below w.heap.size w wr := by
  obtain ⟨vs, h1, h2, h3, h4⟩ := h
  refine ⟨⟨vs, by simpa [levelsL] using h1, fun j hj => ?_⟩, h4⟩
  have hj' : j < xs.length + 1 := by simpa [levelsL] using hj
  rw [show (levelsL xs).getD j [] = xs.take j from by simp [levelsL, List.getD, hj']]
  exact (h2 j hj').mono (Nat.le_succ _)

theorem Ints.src {w : World} {a : Option Addr} {n cap : Nat} {xs : List Int} (h : Ints w (.slice a n cap) xs) :
    xs.length = n ∧ (a = none → n = 0 ∧ cap = 0) ∧ ∀ ad, a = some ad → ∀ j u, (xs.map (Value.int .i64))[j]? = some u → w.cell? (ad.add j) = some u := by
  obtain ⟨a', cap', he, l1, hm, hb, ho⟩ := h
  simp only [Value.slice.injEq] at he
  obtain ⟨rfl, rfl, rfl⟩ := he
  refine ⟨rfl, fun hn => ?_, fun ad had j u hu => ?_⟩
  · subst hn
    rcases Nat.eq_zero_or_pos cap with h0 | hp
    · exact ⟨by omega, h0⟩
    · obtain ⟨b, off, hbo, _⟩ := ho hp
      cases hbo
  · have hj : j < xs.length := by simpa using (List.getElem?_eq_some_iff.1 hu).1
    obtain ⟨b, off, rfl, hc⟩ := ho (by omega)
    obtain rfl := Option.some.inj had
    rw [Addr.add_lit, hc j hj]
    simpa [hj] using hu

theorem ints_one (xs : List Int) : ∀ u ∈ xs.map (Value.int .i64), u.oneCell' = true := by
  intro u hu
  obtain ⟨x, _, rfl⟩ := List.mem_map.1 hu
  rfl

set_option maxHeartbeats 400000 in
theorem rcopy_any (xs : List Int) (v : Value) (w : World) (h : Ints w v xs) :
    Calls Try.prog 55 #[v] w fun e w' => ∃ v', e = .returned v' ∧ Own w' w.heap.size v' xs ∧ Below w.heap.size w w' := by
  obtain ⟨a, cap, rfl⟩ := h.slice
  have HB := Lib.hid h.len
  obtain ⟨_, s2, s3⟩ := h.src
  have H2 := Lib.hid s2; have H3 := Lib.hid s3
  have H1 : Hid ((xs.map (Value.int .i64)).length = xs.length * 1) := by show _ = _; simp
  have H5 : Hid (0 + xs.length ≤ maxLen) := by show _ ≤ _; have := HB.out; unfold maxLen; omega
  have H6 : Hid ((0 + xs.length) * 8 ≤ 140737488355328) := by show _ ≤ _; have := HB.out; omega
  clear s2 s3 h
  obtain ⟨i0, hi, hz0, hz1, hz2⟩ := info_parts info_int
  have HI := Lib.hid hi; have HZ0 := Lib.hid hz0; have HZ1 := Lib.hid hz1; have HZ2 := Lib.hid hz2
  clear hi hz0 hz1 hz2
  go_enter Try.func55, Try.ntmps55
  go_wp2_with (at_builtin; refine wpList_append_any _ rfl _ _ 22 rfl w.heap.size 3 i0 (.int .i64 0) 1 8 Try.underlying22 HI.out HZ0.out HZ1.out HZ2.out rfl (by decide) _ 0 [] rfl (World.ownsRow_nil _ _ _ _) a xs.length cap (xs.map (Value.int .i64)) rfl H1.out H2.out H3.out (ints_one xs) H5.out H6.out (Nat.le_refl _) ?_)
  intro v' w1 hown hgrow
  go_wp2
  go_ret
  refine ⟨v', rfl, ⟨by simpa using hown, HB.out⟩, ?_⟩
  exact (Below.refl _ w).grown hgrow (Nat.le_refl _) (by intro k hk; simp [Value.ownBlock] at hk)

set_option maxHeartbeats 400000 in
theorem rnext_any (xs : List Int) (v : Value) (w : World) (h : Ints w v xs) (h64 : I64 xs) :
    Calls Try.prog 31 #[v] w (Two (nextL xs) (nextE xs) w) := by
  have HC := Lib.hid (rcopy_any xs v w h)
  obtain ⟨a1, c1, rfl, l1, _, b1, _⟩ := id h
  clear h
  by_cases h0 : xs.length = 0
  · have q : (((xs.length : Nat) : Int) == 0) = true := by simp [h0]
    have HE : Hid (nextE xs = 6) := by show nextE xs = 6; rw [nextE, if_pos h0]
    have HL : Hid (nextL xs = []) := by show nextL xs = []; rw [nextL, if_pos h0]
    clear h0 h64
    go_enter Try.func31, Try.ntmps31
    go_wp2
    go_ret2
    exact Two.nil HL.out HE.out.symm (Below.refl _ _)
  · have q : (((xs.length : Nat) : Int) == 0) = false := by rw [beq_eq_false_iff_ne]; omega
    have p : 0 < xs.length := by omega
    obtain ⟨m1, m2⟩ := h64.last p
    by_cases hm : lastI xs = maxI
    · have HE : Hid (nextE xs = 8) := by show nextE xs = 8; rw [nextE, if_neg h0, if_pos hm]
      have HL : Hid (nextL xs = []) := by show nextL xs = []; rw [nextL, if_neg h0, if_pos hm]
      have q2 : (lastI xs == 9223372036854775807) = true := by rw [beq_iff_eq]; exact hm
      clear h0 h64 hm m1 m2
      go_enter Try.func31, Try.ntmps31
      go_wp2_with fail
      refine HC.out.mono ?_
      rintro e w2 ⟨v', rfl, ho, hb⟩
      obtain ⟨g, cap, rfl, hcap, hg1, hg2, hcell, hfr, hset⟩ := ho.at_ (xs.length - 1) (by omega)
      have hcell2 : w2.cell? ⟨g, xs.length - 1, none⟩ = some (.int .i64 (lastI xs)) := hcell
      clear hcell hset ho
      go_wp2
      go_ret2
      exact Two.nil HL.out HE.out.symm hb
    · have HE : Hid (nextE xs = 0) := by show nextE xs = 0; rw [nextE, if_neg h0, if_neg hm]
      have HL : Hid (nextL xs = xs.set (xs.length - 1) (lastI xs + 1)) := by show nextL xs = _; rw [nextL, if_neg h0, if_neg hm]
      have q2 : (lastI xs == 9223372036854775807) = false := by rw [beq_eq_false_iff_ne]; exact hm
      have hw : IntKind.i64.wrap (lastI xs + 1) = lastI xs + 1 := IntWalk.i64_in _ (by unfold maxI at hm; omega)
      clear h0 h64 hm m1 m2
      go_enter Try.func31, Try.ntmps31
      go_wp2_with fail
      refine HC.out.mono ?_
      rintro e w2 ⟨v', rfl, ho, hb⟩
      obtain ⟨g, cap, rfl, hcap, hg1, hg2, hcell, hfr, hset⟩ := ho.at_ (xs.length - 1) (by omega)
      have hcell2 : w2.cell? ⟨g, xs.length - 1, none⟩ = some (.int .i64 (lastI xs)) := hcell
      have HS := Lib.hid (hset (lastI xs + 1))
      clear hcell hset ho
      go_wp2
      go_ret2
      exact Two.mk (by rw [HL.out]; exact HS.out.1) HE.out.symm (hb.trans HS.out.2)

set_option maxHeartbeats 400000 in
theorem rback_any (xs : List Int) (v : Value) (w : World) (h : Ints w v xs) (h64 : I64 xs) :
    Calls Try.prog 30 #[v] w (Two (backL xs) (backE xs) w) := by
  have HC := Lib.hid (rcopy_any xs v w h)
  obtain ⟨a1, c1, rfl, l1, _, b1, _⟩ := id h
  clear h
  by_cases h0 : xs.length = 0
  · have q : (((xs.length : Nat) : Int) == 0) = true := by simp [h0]
    have HE : Hid (backE xs = 6) := by show backE xs = 6; rw [backE, if_pos h0]
    have HL : Hid (backL xs = []) := by show backL xs = []; rw [backL, if_pos h0]
    clear h0 h64
    go_enter Try.func30, Try.ntmps30
    go_wp2
    go_ret2
    exact Two.nil HL.out HE.out.symm (Below.refl _ _)
  · have q : (((xs.length : Nat) : Int) == 0) = false := by rw [beq_eq_false_iff_ne]; omega
    have p : 0 < xs.length := by omega
    obtain ⟨m1, m2⟩ := h64.last p
    by_cases hm : lastI xs ≤ 0
    · have HE : Hid (backE xs = 8) := by show backE xs = 8; rw [backE, if_neg h0, if_pos hm]
      have HL : Hid (backL xs = []) := by show backL xs = []; rw [backL, if_neg h0, if_pos hm]
      have q2 : decide (lastI xs ≤ 0) = true := by simpa using hm
      clear h0 h64 hm m1 m2
      go_enter Try.func30, Try.ntmps30
      go_wp2_with fail
      refine HC.out.mono ?_
      rintro e w2 ⟨v', rfl, ho, hb⟩
      obtain ⟨g, cap, rfl, hcap, hg1, hg2, hcell, hfr, hset⟩ := ho.at_ (xs.length - 1) (by omega)
      have hcell2 : w2.cell? ⟨g, xs.length - 1, none⟩ = some (.int .i64 (lastI xs)) := hcell
      clear hcell hset ho
      go_wp2
      go_ret2
      exact Two.nil HL.out HE.out.symm hb
    · have HE : Hid (backE xs = 0) := by show backE xs = 0; rw [backE, if_neg h0, if_neg hm]
      have HL : Hid (backL xs = xs.set (xs.length - 1) (lastI xs - 1)) := by show backL xs = _; rw [backL, if_neg h0, if_neg hm]
      have q2 : decide (lastI xs ≤ 0) = false := by simpa using hm
      have hw : IntKind.i64.wrap (lastI xs - 1) = lastI xs - 1 := IntWalk.i64_in _ (by omega)
      clear h0 h64 hm m1 m2
      go_enter Try.func30, Try.ntmps30
      go_wp2_with fail
      refine HC.out.mono ?_
      rintro e w2 ⟨v', rfl, ho, hb⟩
      obtain ⟨g, cap, rfl, hcap, hg1, hg2, hcell, hfr, hset⟩ := ho.at_ (xs.length - 1) (by omega)
      have hcell2 : w2.cell? ⟨g, xs.length - 1, none⟩ = some (.int .i64 (lastI xs)) := hcell
      have HS := Lib.hid (hset (lastI xs - 1))
      clear hcell hset ho
      go_wp2
      go_ret2
      exact Two.mk (by rw [HL.out]; exact HS.out.1) HE.out.symm (hb.trans HS.out.2)
end Go.Proofs.Ytcbljiiomnhbjaa
