/- Walks of package xpath: small, stands, shift, inserted; of redlineref08: Small, by; of redlineref02: With. -/
import Derived.Test.YtkalomdbbgeemaaRef02b
import Derived.Test.YtkalomdbbgeemaaRef02d
namespace Go.Proofs.Ytkalomdbbgeemaa
open Go.RowKit

/-- Are all numbers 0 to 2^20? -/
def bigB (x : Int) : Bool := decide (x < 0) || decide (1048576 < x)
def smallB (xs : List Int) : Bool := !xs.any bigB

theorem smallB_iff {xs : List Int} : smallB xs = true ↔ ∀ x ∈ xs, 0 ≤ x ∧ x ≤ 1048576 := by
  simp only [smallB, Bool.not_eq_true', List.any_eq_false, bigB, Bool.or_eq_true, decide_eq_true_eq]
  constructor
  · intro h x hx; have := h x hx; omega
  · intro h x hx; have := h x hx; omega

theorem big_pred : PredC 59 bigB := by
  refine ⟨fun x W => by kernel_rfl, fun x W => ?_⟩
  by_cases h : x < 0
  · go_enter Try.func59, Try.ntmps59
    go_wp2
    go_ret
    exact ⟨ret_bool (by simp [bigB, h]), rfl⟩
  · by_cases h2 : 1048576 < x
    · go_enter Try.func59, Try.ntmps59
      go_wp2
      go_ret
      exact ⟨ret_bool (by simp [bigB, h2]), rfl⟩
    · go_enter Try.func59, Try.ntmps59
      go_wp2
      go_ret
      refine ⟨ret_bool ?_, rfl⟩
      simp [bigB]
      try omega

theorem small_any (xs : List Int) (v : Value) (w : World) (h : Ints w v xs) :
    Calls Try.prog 50 #[v] w fun e w' => e = .returned (.bool (smallB xs)) ∧ w = w' := by
  have HC := Lib.hid (contains_func _ _ big_pred xs v w h)
  go_enter Try.func50, Try.ntmps50
  go_wp2_with fail
  refine HC.out.mono ?_
  rintro e w' ⟨rfl, rfl⟩
  go_wp2
  go_ret
  exact ⟨rfl, rfl⟩

theorem smallB_hit {xs : List Int} {k : Nat} (hk : k < xs.length) (hx : bigB (xs.getD k 0) = true) : smallB xs = false := by
  have hk' : bigB xs[k] = true := by simpa [hk] using hx
  simp only [smallB, Bool.not_eq_false']
  exact List.any_eq_true.2 ⟨xs[k], List.getElem_mem _, hk'⟩
theorem smallB_none {xs : List Int} (h : ∀ j, j < xs.length → bigB (xs.getD j 0) = false) : smallB xs = true := by
  simp only [smallB, Bool.not_eq_true', List.any_eq_false]
  intro x hx
  obtain ⟨j, hj, rfl⟩ := List.getElem_of_mem hx
  have := h j hj
  simpa [hj] using this

set_option maxHeartbeats 400000 in
theorem rsmall_any (xs : List Int) (v : Value) (w : World) (h : Ints w v xs) :
    Calls Try.prog 42 #[v] w fun e w' => e = .returned (.bool (smallB xs)) ∧ w = w' := by
  obtain ⟨a, c, rfl, l1, b1, o1⟩ := h.open_
  clear h
  go_enter Try.func42, Try.ntmps42
  go_wp2
  go_loop [7] (fun i => ∃ k : Nat, k ≤ xs.length ∧ i = .int .i64 k ∧ Hid (∀ j, j < k → bigB (xs.getD j 0) = false)) (fun i => xs.length - (intOf i).toNat)
  case atStart => exact ⟨0, Nat.zero_le _, rfl, by intro j hj; omega⟩
  case round =>
    obtain ⟨k, hk, rfl, HR⟩ := hrel
    by_cases hlt : k < xs.length
    · obtain ⟨b, off, rfl, hc⟩ := o1 (by omega)
      have hck := hc k hlt
      clear hc o1
      generalize hx : xs.getD k 0 = x at *
      have HX := Lib.hid hx
      clear hx
      by_cases h1 : x < 0
      · go_wp2
        go_ret
        exact ⟨ret_bool (by rw [smallB_hit hlt (by rw [HX.out]; simp [bigB, h1])]), rfl⟩
      · by_cases h2 : 1048576 < x
        · go_wp2
          go_ret
          exact ⟨ret_bool (by rw [smallB_hit hlt (by rw [HX.out]; simp [bigB, h2])]), rfl⟩
        · have HB : Hid (bigB x = false) := by show _ = _; simp [bigB]; omega
          go_wp2
          go_round
          case rel =>
            refine ⟨k + 1, by omega, by go_num, ?_⟩
            intro j hj
            by_cases hjk : j = k
            · subst hjk; rw [HX.out]; exact HB.out
            · exact HR.out j (by omega)
          case measure => simp [intOf]; omega
    · have hkn : k = xs.length := by omega
      subst hkn
      clear hlt hk o1
      go_wp2
      go_ret
      exact ⟨ret_bool (by rw [smallB_none HR.out]), rfl⟩

/-- How q stands to p: 0 apart, 1 left, 2 above, 3 the same. -/
def standsN (q p : List Int) : Int := if q.length = 0 then 0 else if q = p then 3 else if aboveB q p = true then 2 else if leftB q p = true then 1 else 0

theorem stands_any (xs ys : List Int) (v1 v2 : Value) (w : World) (h1 : Ints w v1 xs) (h2 : Ints w v2 ys) :
    Calls Try.prog 51 #[v1, v2] w fun e w' => e = .returned (.int .i64 (standsN xs ys)) ∧ Same w w' := by
  obtain ⟨a1, c1, rfl⟩ := h1.slice
  by_cases h0 : xs.length = 0
  · have q : (((xs.length : Nat) : Int) == 0) = true := by simp [h0]
    have HF : Hid (standsN xs ys = 0) := by show _ = _; rw [standsN, if_pos h0]
    clear h0
    go_enter Try.func51, Try.ntmps51
    go_wp2
    go_ret
    exact ⟨ret_int HF.out.symm, Same.refl _⟩
  · have q : (((xs.length : Nat) : Int) == 0) = false := by rw [beq_eq_false_iff_ne]; omega
    have H0 := Lib.hid h0
    clear h0
    by_cases hs : xs = ys
    · have HF : Hid (standsN xs ys = 3) := by show _ = _; rw [standsN, if_neg H0.out, if_pos hs]
      have qs : decide (xs = ys) = true := by simpa using hs
      clear hs
      go_enter Try.func51, Try.ntmps51
      go_wp2_with fail
      refine (same_any _ _ _ _ _ h1 h2).mono ?_
      rintro e w1 ⟨rfl, hs1⟩
      rw [qs]
      go_wp2
      go_ret
      exact ⟨ret_int HF.out.symm, hs1⟩
    · have qs : decide (xs = ys) = false := by simpa using hs
      have HS := Lib.hid hs
      clear hs
      cases ha : aboveB xs ys
      · cases hl : leftB xs ys
        · have HF : Hid (standsN xs ys = 0) := by show _ = _; rw [standsN, if_neg H0.out, if_neg HS.out, if_neg (by simp [ha]), if_neg (by simp [hl])]
          go_enter Try.func51, Try.ntmps51
          go_wp2_with fail
          refine (same_any _ _ _ _ _ h1 h2).mono ?_
          rintro e w1 ⟨rfl, hs1⟩
          rw [qs]
          go_wp2_with fail
          refine (above_any _ _ _ _ _ (h1.same hs1) (h2.same hs1)).mono ?_
          rintro e w2 ⟨rfl, hs2⟩
          rw [ha]
          go_wp2_with fail
          refine (left_any _ _ _ _ _ ((h1.same hs1).same hs2) ((h2.same hs1).same hs2)).mono ?_
          rintro e w3 ⟨rfl, hs3⟩
          rw [hl]
          go_wp2
          go_ret
          exact ⟨ret_int HF.out.symm, (hs1.trans hs2).trans hs3⟩
        · have HF : Hid (standsN xs ys = 1) := by show _ = _; rw [standsN, if_neg H0.out, if_neg HS.out, if_neg (by simp [ha]), if_pos hl]
          go_enter Try.func51, Try.ntmps51
          go_wp2_with fail
          refine (same_any _ _ _ _ _ h1 h2).mono ?_
          rintro e w1 ⟨rfl, hs1⟩
          rw [qs]
          go_wp2_with fail
          refine (above_any _ _ _ _ _ (h1.same hs1) (h2.same hs1)).mono ?_
          rintro e w2 ⟨rfl, hs2⟩
          rw [ha]
          go_wp2_with fail
          refine (left_any _ _ _ _ _ ((h1.same hs1).same hs2) ((h2.same hs1).same hs2)).mono ?_
          rintro e w3 ⟨rfl, hs3⟩
          rw [hl]
          go_wp2
          go_ret
          exact ⟨ret_int HF.out.symm, (hs1.trans hs2).trans hs3⟩
      · have HF : Hid (standsN xs ys = 2) := by show _ = _; rw [standsN, if_neg H0.out, if_neg HS.out, if_pos ha]
        go_enter Try.func51, Try.ntmps51
        go_wp2_with fail
        refine (same_any _ _ _ _ _ h1 h2).mono ?_
        rintro e w1 ⟨rfl, hs1⟩
        rw [qs]
        go_wp2_with fail
        refine (above_any _ _ _ _ _ (h1.same hs1) (h2.same hs1)).mono ?_
        rintro e w2 ⟨rfl, hs2⟩
        rw [ha]
        go_wp2
        go_ret
        exact ⟨ret_int HF.out.symm, hs1.trans hs2⟩

/-- A path whose number at a place is so much more. -/
def shiftL (xs : List Int) (i : Nat) (n : Int) : List Int := xs.set i (xs.getD i 0 + n)

set_option maxHeartbeats 400000 in
theorem shift_any (xs : List Int) (v : Value) (i : Nat) (n : Int) (w : World) (h : Ints w v xs) (hi : i < xs.length) (hr : -9223372036854775808 ≤ xs.getD i 0 + n ∧ xs.getD i 0 + n ≤ 9223372036854775807) :
    Calls Try.prog 53 #[v, .int .i64 i, .int .i64 n] w fun e w' => ∃ v', e = .returned v' ∧ Own w' w.heap.size v' (shiftL xs i n) ∧ Below w.heap.size w w' := by
  have hw : IntKind.i64.wrap (xs.getD i 0 + n) = xs.getD i 0 + n := IntWalk.i64_in _ hr
  have HW := Lib.hid hw
  clear hw hr
  obtain ⟨X, hX⟩ : ∃ X, xs.getD i 0 = X := ⟨_, rfl⟩
  rw [hX] at HW
  have HL : Hid (shiftL xs i n = xs.set i (X + n)) := by show _ = _; rw [shiftL, hX]
  have HX := Lib.hid hX
  clear hX
  go_enter Try.func53, Try.ntmps53
  go_wp2_with fail
  refine (clone_ints xs v _ h).mono ?_
  rintro e w1 ⟨v', rfl, ho, hb⟩
  obtain ⟨g, cap, rfl, hcap, hg1, hg2, hcell, hfr, hset⟩ := ho.at_ i hi
  rw [HX.out] at hcell
  have HS := Lib.hid (hset (X + n))
  have hw := HW.out
  clear hset ho
  go_wp2
  go_ret
  exact ⟨_, rfl, by rw [HL.out]; exact HS.out.1, hb.trans HS.out.2⟩

/-- A path behind a node was put in at q. -/
def insL (xs q : List Int) : List Int := if standsN q xs = 0 then xs else shiftL xs (q.length - 1) 1

theorem stands_len {q p : List Int} (h : standsN q p ≠ 0) : 0 < q.length ∧ q.length ≤ p.length := by
  unfold standsN at h
  split at h
  · exact absurd rfl h
  · refine ⟨by omega, ?_⟩
    split at h
    · rename_i he; rw [he]; exact Nat.le_refl _
    · split at h
      · rename_i ha; rw [aboveB_iff] at ha; omega
      · split at h
        · rename_i hl
          rw [leftB_iff] at hl
          obtain ⟨k, a, b, _⟩ := hl
          omega
        · exact absurd rfl h

set_option maxHeartbeats 400000 in
theorem inserted_any (xs q : List Int) (v1 v2 : Value) (w : World) (h1 : Ints w v1 xs) (h2 : Ints w v2 q) (hr : ∀ x ∈ xs, -9223372036854775808 ≤ x ∧ x < 9223372036854775807) :
    Calls Try.prog 52 #[v1, v2] w fun e w' => ∃ v', e = .returned v' ∧ Own w' w.heap.size v' (insL xs q) ∧ Below w.heap.size w w' := by
  by_cases hs : standsN q xs = 0
  · have HF : Hid (insL xs q = xs) := by show _ = _; rw [insL, if_pos hs]
    go_enter Try.func52, Try.ntmps52
    go_wp2_with fail
    refine (stands_any _ _ _ _ _ h2 h1).mono ?_
    rintro e w1 ⟨rfl, hs1⟩
    rw [hs]
    have HS := Lib.hid hs
    clear hs
    go_wp2_with fail
    refine (clone_ints xs _ _ (h1.same hs1)).mono ?_
    rintro e w2 ⟨v', rfl, ho, hb⟩
    go_wp2
    go_ret
    rw [hs1.size] at ho hb
    exact ⟨_, rfl, by rw [HF.out]; exact ho, (hs1.below _).trans hb⟩
  · obtain ⟨l1, l2⟩ := stands_len hs
    have HF : Hid (insL xs q = shiftL xs (q.length - 1) 1) := by show _ = _; rw [insL, if_neg hs]
    have qs : (standsN q xs == 0) = false := by rw [beq_eq_false_iff_ne]; exact hs
    have HS := Lib.hid hs
    obtain ⟨a2, c2, rfl⟩ := h2.slice
    have b2 := h2.len
    have hx : -9223372036854775808 ≤ xs.getD (q.length - 1) 0 ∧ xs.getD (q.length - 1) 0 < 9223372036854775807 := by
      have hlt : q.length - 1 < xs.length := by omega
      have := hr _ (List.getElem_mem hlt)
      simpa [List.getD, hlt] using this
    have HX := Lib.hid hx
    clear hs hr hx
    go_enter Try.func52, Try.ntmps52
    go_wp2_with fail
    refine (stands_any _ _ _ _ _ h2 h1).mono ?_
    rintro e w1 ⟨rfl, hs1⟩
    go_wp2_with fail
    rw [show ((q.length : Int) - 1) = ((q.length - 1 : Nat) : Int) from by omega]
    refine (shift_any xs _ (q.length - 1) 1 _ (h1.same hs1) (by omega) (by have := HX.out; omega)).mono ?_
    rintro e w2 ⟨v', rfl, ho, hb⟩
    go_wp2
    go_ret
    rw [hs1.size] at ho hb
    exact ⟨_, rfl, by rw [HF.out]; exact ho, (hs1.below _).trans hb⟩

set_option maxHeartbeats 400000 in
theorem rby_any (xs q : List Int) (v1 v2 : Value) (n : Int) (w : World) (h1 : Ints w v1 xs) (h2 : Ints w v2 q) (h0 : 0 < q.length) (hi : q.length ≤ xs.length) (hr : -9223372036854775808 ≤ xs.getD (q.length - 1) 0 + n ∧ xs.getD (q.length - 1) 0 + n ≤ 9223372036854775807) :
    Calls Try.prog 55 #[v1, v2, .int .i64 n] w fun e w' => ∃ v', e = .returned v' ∧ Own w' w.heap.size v' (shiftL xs (q.length - 1) n) ∧ Below w.heap.size w w' := by
  obtain ⟨a2, c2, rfl⟩ := h2.slice
  have b2 := h2.len
  have hw : IntKind.i64.wrap (xs.getD (q.length - 1) 0 + n) = xs.getD (q.length - 1) 0 + n := IntWalk.i64_in _ hr
  obtain ⟨X, hX⟩ : ∃ X, xs.getD (q.length - 1) 0 = X := ⟨_, rfl⟩
  rw [hX] at hw
  have HW := Lib.hid hw
  have HL : Hid (shiftL xs (q.length - 1) n = xs.set (q.length - 1) (X + n)) := by show _ = _; rw [shiftL, hX]
  have HX := Lib.hid hX
  clear hX hw hr
  go_enter Try.func55, Try.ntmps55
  go_wp2_with fail
  refine (rcopy_any xs v1 _ h1).mono ?_
  rintro e w1 ⟨v', rfl, ho, hb⟩
  obtain ⟨g, cap, rfl, hcap, hg1, hg2, hcell, hfr, hset⟩ := ho.at_ (q.length - 1) (by omega)
  rw [HX.out] at hcell
  have HS := Lib.hid (hset (X + n))
  have hw := HW.out
  clear hset ho
  go_wp2
  go_ret
  exact ⟨_, rfl, by rw [HL.out]; exact HS.out.1, hb.trans HS.out.2⟩
end Go.Proofs.Ytkalomdbbgeemaa
