/- Walks of slices.ContainsFunc at []int (a closure without captures), of trail.Check, and of redlineref02's Check and Compare. -/
import Derived.Test.YtkalomdbbgeemaaRef02a
namespace Go.Proofs.Ytkalomdbbgeemaa
open Go.RowKit

/-- What slices.IndexFunc tells. -/
def idxF (pr : Int → Bool) (xs : List Int) : Int := if xs.any pr then (xs.findIdx pr : Int) else -1

theorem idx_hit {pr : Int → Bool} {xs : List Int} {k : Nat} (h : ∀ j, j < k → pr (xs.getD j 0) = false) (hk : k < xs.length) (hp : pr (xs.getD k 0) = true) : idxF pr xs = k := by
  have hk' : pr xs[k] = true := by simpa [hk] using hp
  have ha : xs.any pr = true := List.any_eq_true.2 ⟨xs[k], List.getElem_mem _, hk'⟩
  rw [idxF, if_pos ha]
  have : xs.findIdx pr = k := by
    rw [List.findIdx_eq hk]
    refine ⟨hk', fun j hj => ?_⟩
    have := h j hj
    simpa [show j < xs.length by omega] using this
  rw [this]
theorem idx_none {pr : Int → Bool} {xs : List Int} (h : ∀ j, j < xs.length → pr (xs.getD j 0) = false) : idxF pr xs = -1 := by
  have ha : xs.any pr = false := by
    rw [List.any_eq_false]
    intro x hx
    obtain ⟨j, hj, rfl⟩ := List.getElem_of_mem hx
    have := h j hj
    simpa [hj] using this
  rw [idxF, if_neg (by simp [ha])]
theorem idx_any (pr : Int → Bool) (xs : List Int) : decide (0 ≤ idxF pr xs) = xs.any pr := by
  unfold idxF
  cases xs.any pr <;> simp

/-- A predicate's contract. -/
def PredC (F : Nat) (pr : Int → Bool) : Prop :=
  (∀ (x : Int) (W : World), (callFunc F #[.int .i64 x]).run Try.prog W = .ok (.enter F #[.int .i64 x]) W) ∧
  ∀ (x : Int) (W : World), Calls Try.prog F #[.int .i64 x] W fun e W' => e = .returned (.bool (pr x)) ∧ W = W'

set_option maxHeartbeats 400000 in
theorem index_func (F : Nat) (pr : Int → Bool) (hF : PredC F pr) (xs : List Int) (v : Value) (w : World) (h : Ints w v xs) :
    Calls Try.prog 58 #[v, .func (.func F) #[] #[]] w fun e w' => e = .returned (.int .i64 (idxF pr xs)) ∧ w = w' := by
  obtain ⟨hcf, hC⟩ := hF
  have HPC := Lib.hid hC
  obtain ⟨a, c, rfl, l1, b1, o1⟩ := h.open_
  clear h hC
  go_enter Try.func58, Try.ntmps58
  go_wp2
  go_loop [8] (fun i => ∃ k : Nat, k ≤ xs.length ∧ i = .int .i64 k ∧ Hid (∀ j, j < k → pr (xs.getD j 0) = false)) (fun i => xs.length - (intOf i).toNat)
  case atStart => exact ⟨0, Nat.zero_le _, rfl, by intro j hj; omega⟩
  case round =>
    obtain ⟨k, hk, rfl, HR⟩ := hrel
    by_cases hlt : k < xs.length
    · obtain ⟨b, off, rfl, hc⟩ := o1 (by omega)
      have hck := hc k hlt
      clear hc o1
      generalize hx : xs.getD k 0 = x at *
      have HX := Lib.hid hx
      clear hx
      go_wp2_with fail
      refine (HPC.out x _).mono ?_
      rintro e w' ⟨rfl, rfl⟩
      go_wp2
      · have hp : pr x = true := by assumption
        go_ret
        exact ⟨ret_int (by rw [idx_hit HR.out hlt (by rw [HX.out]; exact hp)]), rfl⟩
      · have hp : pr x = false := by assumption
        go_round
        case rel =>
          refine ⟨k + 1, by omega, by go_num, ?_⟩
          intro j hj
          by_cases hjk : j = k
          · subst hjk; rw [HX.out]; exact hp
          · exact HR.out j (by omega)
        case measure => simp [intOf]; omega
    · have hkn : k = xs.length := by omega
      subst hkn
      clear hlt hk o1
      go_wp2
      go_ret
      exact ⟨ret_int (by rw [idx_none HR.out]), rfl⟩

theorem contains_func (F : Nat) (pr : Int → Bool) (hF : PredC F pr) (xs : List Int) (v : Value) (w : World) (h : Ints w v xs) :
    Calls Try.prog 48 #[v, .func (.func F) #[] #[]] w fun e w' => e = .returned (.bool (xs.any pr)) ∧ w = w' := by
  go_enter Try.func48, Try.ntmps48
  go_wp2_with fail
  refine (index_func F pr hF xs v _ h).mono ?_
  rintro e w' ⟨rfl, rfl⟩
  go_wp2
  go_ret
  exact ⟨ret_bool (idx_any pr xs), rfl⟩

/-- Whether a path may be. -/
def checkE (xs : List Int) : Int := if xs.any (fun x => decide (x < 0)) then 5 else 0

theorem neg_pred : PredC 49 (fun x => decide (x < 0)) := by
  refine ⟨fun x W => by kernel_rfl, fun x W => ?_⟩
  go_enter Try.func49, Try.ntmps49
  go_wp2
  go_ret
  exact ⟨rfl, rfl⟩

theorem check_any (xs : List Int) (v : Value) (w : World) (h : Ints w v xs) :
    Calls Try.prog 33 #[v] w fun e w' => e = .returned (.int .i64 (checkE xs)) ∧ w = w' := by
  have HC := Lib.hid (contains_func _ _ neg_pred xs v w h)
  cases hb : xs.any (fun x => decide (x < 0))
  · have HE : Hid (checkE xs = 0) := by show _ = _; rw [checkE, hb]; rfl
    rw [hb] at HC
    clear hb
    go_enter Try.func33, Try.ntmps33
    go_wp2_with fail
    refine HC.out.mono ?_
    rintro e w' ⟨rfl, rfl⟩
    go_wp2
    go_ret
    exact ⟨ret_int HE.out.symm, rfl⟩
  · have HE : Hid (checkE xs = 5) := by show _ = _; rw [checkE, hb]; rfl
    rw [hb] at HC
    clear hb
    go_enter Try.func33, Try.ntmps33
    go_wp2_with fail
    refine HC.out.mono ?_
    rintro e w' ⟨rfl, rfl⟩
    go_wp2
    go_ret
    exact ⟨ret_int HE.out.symm, rfl⟩

theorem checkE_hit {xs : List Int} {k : Nat} (hk : k < xs.length) (hx : xs.getD k 0 < 0) : checkE xs = 5 := by
  have hk' : xs[k] < 0 := by simpa [hk] using hx
  rw [checkE, if_pos (List.any_eq_true.2 ⟨xs[k], List.getElem_mem _, by simpa using hk'⟩)]
theorem checkE_none {xs : List Int} (h : ∀ j, j < xs.length → 0 ≤ xs.getD j 0) : checkE xs = 0 := by
  rw [checkE, if_neg]
  intro ha
  obtain ⟨x, hx, hp⟩ := List.any_eq_true.1 ha
  obtain ⟨j, hj, rfl⟩ := List.getElem_of_mem hx
  have := h j hj
  simp [hj] at this hp
  omega

set_option maxHeartbeats 400000 in
theorem rcheck_any (xs : List Int) (v : Value) (w : World) (h : Ints w v xs) :
    Calls Try.prog 34 #[v] w fun e w' => e = .returned (.int .i64 (checkE xs)) ∧ w = w' := by
  obtain ⟨a, c, rfl, l1, b1, o1⟩ := h.open_
  clear h
  go_enter Try.func34, Try.ntmps34
  go_wp2
  go_loop [7] (fun i => ∃ k : Nat, k ≤ xs.length ∧ i = .int .i64 k ∧ Hid (∀ j, j < k → 0 ≤ xs.getD j 0)) (fun i => xs.length - (intOf i).toNat)
  case atStart => exact ⟨0, Nat.zero_le _, rfl, by intro j hj; omega⟩
  case round =>
    obtain ⟨k, hk, rfl, HR⟩ := hrel
    by_cases hlt : k < xs.length
    · obtain ⟨b, off, rfl, hc⟩ := o1 (by omega)
      have hck := hc k hlt
      clear hc o1
      generalize hx : xs.getD k 0 = x at *
      have HX := Lib.hid hx
      clear hx
      by_cases hneg : x < 0
      · go_wp2
        go_ret
        exact ⟨ret_int (by rw [checkE_hit hlt (by rw [HX.out]; exact hneg)]), rfl⟩
      · go_wp2
        go_round
        case rel =>
          refine ⟨k + 1, by omega, by go_num, ?_⟩
          intro j hj
          by_cases hjk : j = k
          · subst hjk; rw [HX.out]; omega
          · exact HR.out j (by omega)
        case measure => simp [intOf]; omega
    · have hkn : k = xs.length := by omega
      subst hkn
      clear hlt hk o1
      go_wp2
      go_ret
      exact ⟨ret_int (by rw [checkE_none HR.out]), rfl⟩

set_option maxHeartbeats 800000 in
theorem rcompare_any (xs ys : List Int) (v1 v2 : Value) (w : World) (h1 : Ints w v1 xs) (h2 : Ints w v2 ys) :
    Calls Try.prog 35 #[v1, v2] w fun e w' => e = .returned (.int .i64 (cmpI xs ys)) ∧ Same w w' := by
  obtain ⟨a1, c1, rfl, l1, b1, o1⟩ := h1.open_
  obtain ⟨a2, c2, rfl, l2, b2, o2⟩ := h2.open_
  clear h1 h2
  go_enter Try.func35, Try.ntmps35
  go_wp2
  go_loopw [8] (fun i wr => ∃ k : Nat, k ≤ xs.length ∧ k ≤ ys.length ∧ i = .int .i64 k ∧ agree xs ys k ∧ Same w wr) (fun i _ => xs.length - (intOf i).toNat)
  case atStart => exact ⟨0, Nat.zero_le _, Nat.zero_le _, rfl, agree_zero _ _, Same.refl _⟩
  case round =>
    obtain ⟨k, hk, hk2, rfl, hag, hs⟩ := hrel
    have HAG := Lib.hid hag
    clear hag
    by_cases hlt : k < xs.length
    · obtain ⟨p1, f1, rfl, e1⟩ := o1 (by omega)
      have d1 := (hs.cell _).trans (e1 k hlt)
      by_cases hlt2 : k < ys.length
      · obtain ⟨p2, f2, rfl, e2⟩ := o2 (by omega)
        have d2 := (hs.cell _).trans (e2 k hlt2)
        have qk : ((k : Int) == (ys.length : Int)) = false := by rw [beq_eq_false_iff_ne]; omega
        have HX : Hid (xs.getD k 0 = xs[k]) := by show _ = _; simp [hlt]
        have HY : Hid (ys.getD k 0 = ys[k]) := by show _ = _; simp [hlt2]
        clear e1 e2 o1 o2
        rw [HX.out] at d1
        rw [HY.out] at d2
        by_cases q1 : xs[k] < ys[k]
        · have HF : Hid (cmpI xs ys = -1) := by show _ = _; rw [cmpI_diff HAG.out hlt hlt2 (by rw [cmp3, if_pos q1]; decide), cmp3, if_pos q1]
          go_wp2
          go_quiet (fail)
          go_wp2
          go_ret
          exact ⟨ret_int HF.out.symm, hs.drewN _⟩
        · by_cases q2 : ys[k] < xs[k]
          · have HF : Hid (cmpI xs ys = 1) := by show _ = _; rw [cmpI_diff HAG.out hlt hlt2 (by rw [cmp3, if_neg q1, if_pos q2]; decide), cmp3, if_neg q1, if_pos q2]
            go_wp2
            go_quiet (fail)
            go_wp2
            go_quiet (fail)
            go_wp2
            go_ret
            exact ⟨ret_int HF.out.symm, (hs.drewN _).drewN _⟩
          · have HE := agree_succ HAG.out hlt hlt2 (by omega)
            have HE' := Lib.hid HE
            clear HE
            go_wp2
            go_quiet (fail)
            go_wp2
            go_quiet (fail)
            go_wp2
            go_roundw
            case rel => exact ⟨k + 1, by omega, by omega, by go_num, HE'.out, hs.drewN _⟩
            case measure => simp [intOf]; omega
      · have hky : k = ys.length := by omega
        have HF := Lib.hid (cmpI_longer HAG.out hlt hky)
        have qk : ((k : Int) == (ys.length : Int)) = true := by rw [beq_iff_eq]; omega
        clear e1 o1 o2 hky
        go_wp2
        go_ret
        exact ⟨ret_int HF.out.symm, hs⟩
    · have hkn : k = xs.length := by omega
      subst hkn
      have HE := Lib.hid (cmpI_end HAG.out hk2)
      clear hlt o1 o2 hk
      by_cases hl : xs.length < ys.length
      · go_wp2
        go_ret
        exact ⟨ret_int (by rw [HE.out, if_pos hl]), hs⟩
      · go_wp2
        go_ret
        exact ⟨ret_int (by rw [HE.out, if_neg hl]), hs⟩
end Go.Proofs.Ytkalomdbbgeemaa
