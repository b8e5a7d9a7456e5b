/- Walks of Go's cmp.Compare at int, slices.Compare at []int, and of trail.Compare. Walks of package redlineref02: Same, Above, Left, Check, Compare; and of slices.ContainsFunc, trail.Check. Walks of slices.ContainsFunc at []int (a closure without captures), of trail.Check, and of redlineref02's Check and Compare. Walks of package redlinelaw02's own helpers: live, short. Walks of package redlineref02: Common, Levels, SameAll. Walks of package xpath: small, stands, shift, inserted; of redlineref08: Small, by; of redlineref02: With. -/
import Derived.Test.YtcbljiiomnhbjaaTrails
import Derived.Test.YtcbljiiomnhbjaaPlainAll
namespace Go.Proofs.Ytcbljiiomnhbjaa
set_option maxRecDepth 100000
open Go.RowKit

/- Walks of Go's cmp.Compare at int, slices.Compare at []int, and of trail.Compare. -/
theorem cmp_int (x y : Int) (w : World) : Calls Try.prog 77 #[.int .i64 x, .int .i64 y] w fun e w' => e = .returned (.int .i64 (cmp3 x y)) ∧ w = w' := by
  by_cases h1 : x < y
  · have HF : Hid (cmp3 x y = -1) := by show cmp3 x y = -1; rw [cmp3, if_pos h1]
    go_enter Try.func77, Try.ntmps77
    go_wp2
    go_ret
    exact ⟨by rw [HF.out]; rfl, rfl⟩
  · by_cases h2 : y < x
    · have HF : Hid (cmp3 x y = 1) := by show cmp3 x y = 1; rw [cmp3, if_neg h1, if_pos h2]
      go_enter Try.func77, Try.ntmps77
      go_wp2
      go_ret
      exact ⟨by rw [HF.out]; rfl, rfl⟩
    · have HF : Hid (cmp3 x y = 0) := by show cmp3 x y = 0; rw [cmp3, if_neg h1, if_neg h2]
      go_enter Try.func77, Try.ntmps77
      go_wp2
      go_ret
      exact ⟨by rw [HF.out]; rfl, rfl⟩

set_option maxHeartbeats 800000 in
theorem compare_ints (xs ys : List Int) (v1 v2 : Value) (w : World) (h1 : Ints w v1 xs) (h2 : Ints w v2 ys) :
    Calls Try.prog 78 #[v1, v2] w fun e w' => e = .returned (.int .i64 (cmpI xs ys)) ∧ w = w' := by
  obtain ⟨a1, c1, rfl, l1, b1, o1⟩ := h1.open_
  obtain ⟨a2, c2, rfl, l2, b2, o2⟩ := h2.open_
  clear h1 h2
  go_enter Try.func78, Try.ntmps78
  go_wp2
  go_loop [11] (fun i => ∃ k : Nat, k ≤ xs.length ∧ k ≤ ys.length ∧ i = .int .i64 k ∧ agree xs ys k) (fun i => xs.length - (intOf i).toNat)
  case atStart => exact ⟨0, Nat.zero_le _, Nat.zero_le _, rfl, agree_zero _ _⟩
  case round =>
    obtain ⟨k, hk, hk2, rfl, hag⟩ := hrel
    by_cases hlt : k < xs.length
    · obtain ⟨p1, f1, rfl, e1⟩ := o1 (by omega)
      have d1 := e1 k hlt
      by_cases hlt2 : k < ys.length
      · obtain ⟨p2, f2, rfl, e2⟩ := o2 (by omega)
        have d2 := e2 k hlt2
        clear e1 e2 o1 o2
        go_wp2_with fail
        refine (cmp_int _ _ _).mono ?_
        rintro e w' ⟨rfl, rfl⟩
        go_wp2
        · have hne : (cmp3 xs[k] ys[k] != 0) = true := by assumption
          go_ret
          exact ⟨ret_int (by rw [cmpI_diff hag hlt hlt2 (by simpa using hne)]), rfl⟩
        · have heq : (cmp3 xs[k] ys[k] != 0) = false := by assumption
          go_round
          case rel => exact ⟨k + 1, by omega, by omega, by go_num, agree_succ hag hlt hlt2 (by rw [← cmp3_zero]; simpa using heq)⟩
          case measure => simp [intOf]; omega
      · clear e1 o1 o2
        go_wp2
        go_ret
        exact ⟨ret_int (by rw [cmpI_longer hag hlt (by omega)]), rfl⟩
    · have hkn : k = xs.length := by omega
      subst hkn
      have HE := Lib.hid (cmpI_end hag hk2)
      clear hlt o1 o2 hk
      by_cases hl : xs.length < ys.length
      · go_wp2
        go_ret
        exact ⟨ret_int (by rw [HE.out, if_pos hl]), rfl⟩
      · go_wp2
        go_ret
        exact ⟨ret_int (by rw [HE.out, if_neg hl]), rfl⟩

theorem compare_any (xs ys : List Int) (v1 v2 : Value) (w : World) (h1 : Ints w v1 xs) (h2 : Ints w v2 ys) :
    Calls Try.prog 76 #[v1, v2] w fun e w' => e = .returned (.int .i64 (cmpI xs ys)) ∧ w = w' := by
  go_enter Try.func76, Try.ntmps76
  go_wp2_with fail
  refine (compare_ints xs ys v1 v2 _ h1 h2).mono ?_
  rintro e w' ⟨rfl, rfl⟩
  go_wp2
  go_ret
  exact ⟨rfl, rfl⟩

/- Walks of package redlineref02: Same, Above, Left, Check, Compare; and of slices.ContainsFunc, trail.Check. -/
set_option maxHeartbeats 400000 in
theorem rsame_any (xs ys : List Int) (v1 v2 : Value) (w : World) (h1 : Ints w v1 xs) (h2 : Ints w v2 ys) :
    Calls Try.prog 32 #[v1, v2] w fun e w' => e = .returned (.bool (decide (xs = ys))) ∧ Same w w' := by
  obtain ⟨a1, c1, rfl, l1, b1, o1⟩ := h1.open_
  obtain ⟨a2, c2, rfl, l2, b2, o2⟩ := h2.open_
  clear h1 h2
  by_cases hl : xs.length = ys.length
  · have hne : (((xs.length : Nat) : Int) != ((ys.length : Nat) : Int)) = false := by simp [hl]
    have HL := Lib.hid hl
    clear hl
    go_enter Try.func32, Try.ntmps32
    go_wp2
    go_loopw [13] (fun i wr => ∃ k : Nat, k ≤ xs.length ∧ i = .int .i64 k ∧ agree xs ys k ∧ Same w wr) (fun i _ => xs.length - (intOf i).toNat)
    case atStart => exact ⟨0, Nat.zero_le _, rfl, fun j hj => by omega, Same.refl _⟩
    case round =>
      obtain ⟨k, hk, rfl, hag, hs⟩ := hrel
      by_cases hlt : k < xs.length
      · obtain ⟨p1, f1, rfl, e1⟩ := o1 (by omega)
        obtain ⟨p2, f2, rfl, e2⟩ := o2 (by have := HL.out; omega)
        have d1 := (hs.cell ⟨p1, f1 + k, none⟩).trans (e1 k hlt)
        have d2 := (hs.cell ⟨p2, f2 + k, none⟩).trans (e2 k (by have := HL.out; omega))
        have hlt2 : k < ys.length := by have := HL.out; omega
        clear e1 e2 o1 o2
        go_wp2
        go_quiet (fail)
        go_wp2
        · have hne2 : (xs[k] != ys[k]) = true := by assumption
          go_ret
          refine ⟨ret_bool ?_, hs.drewN _⟩
          rw [eq_comm, decide_eq_false_iff_not]
          rintro rfl
          simp at hne2
        · have heq : (xs[k] != ys[k]) = false := by assumption
          go_roundw
          case rel => exact ⟨k + 1, by omega, by go_num, agree_succ hag hlt hlt2 (by simpa using heq), hs.drewN _⟩
          case measure => simp [intOf]; omega
      · have : k = xs.length := by omega
        subst this
        clear hlt o1 o2
        go_wp2
        go_ret
        exact ⟨ret_bool (by rw [eq_comm, decide_eq_true_eq]; exact agree_eq HL.out hag), hs⟩
  · have hne : (((xs.length : Nat) : Int) != ((ys.length : Nat) : Int)) = true := by simp; omega
    have HL := Lib.hid hl
    clear hl o1 o2
    go_enter Try.func32, Try.ntmps32
    go_wp2
    go_ret
    exact ⟨ret_bool (by rw [eq_comm, decide_eq_false_iff_not]; rintro rfl; exact HL.out rfl), Same.refl _⟩

theorem take_full {xs : List Int} {n : Nat} (h : xs.length = n) : xs.take n = xs := by rw [← h, List.take_length]

theorem left_split {xs ys : List Int} {k : Nat} (hk : xs.length = k + 1) : leftB xs ys = (decide (k < ys.length) && (decide (xs.take k = ys.take k) && decide (xs.getD k 0 < ys.getD k 0))) := by
  rw [Bool.eq_iff_iff, leftB_iff]
  simp only [Bool.and_eq_true, decide_eq_true_eq]
  constructor
  · rintro ⟨j, a, b, c, d⟩
    obtain rfl : j = k := by omega
    exact ⟨b, take_of_agree c (by omega) (by omega), d⟩
  · rintro ⟨a, b, c⟩
    exact ⟨k, hk.symm, a, agree_of_take b, c⟩

/-- What slices.IndexFunc tells. -/
def idxF (pr : Int → Bool) (xs : List Int) : Int := if xs.any pr then (xs.findIdx pr : Int) else -1

theorem idx_hit {pr : Int → Bool} {xs : List Int} {k : Nat} (h : ∀ j, j < k → pr (xs.getD j 0) = false) (hk : k < xs.length) (hp : pr (xs.getD k 0) = true) : idxF pr xs = k := by
  have hk' : pr xs[k] = true := by simpa [hk] using hp
  have ha : xs.any pr = true := List.any_eq_true.2 ⟨xs[k], List.getElem_mem _, hk'⟩
  rw [idxF, if_pos ha]
  have : xs.findIdx pr = k := by
    rw [List.findIdx_eq hk]
    refine ⟨hk', fun j hj => ?_⟩
    have := h j hj
    simpa [show j < xs.length by omega] using this
  rw [this]
theorem idx_none {pr : Int → Bool} {xs : List Int} (h : ∀ j, j < xs.length → pr (xs.getD j 0) = false) : idxF pr xs = -1 := by
  have ha : xs.any pr = false := by
    rw [List.any_eq_false]
    intro x hx
    obtain ⟨j, hj, rfl⟩ := List.getElem_of_mem hx
    have := h j hj
    simpa [hj] using this
  rw [idxF, if_neg (by simp [ha])]
theorem idx_any (pr : Int → Bool) (xs : List Int) : decide (0 ≤ idxF pr xs) = xs.any pr := by
  unfold idxF
  cases xs.any pr <;> simp

/-- A predicate's contract. -/
def PredC (F : Nat) (pr : Int → Bool) : Prop :=
  (∀ (x : Int) (W : World), (callFunc F #[.int .i64 x]).run Try.prog W = .ok (.enter F #[.int .i64 x]) W) ∧
  ∀ (x : Int) (W : World), Calls Try.prog F #[.int .i64 x] W fun e W' => e = .returned (.bool (pr x)) ∧ W = W'

set_option maxHeartbeats 400000 in
theorem index_func (F : Nat) (pr : Int → Bool) (hF : PredC F pr) (xs : List Int) (v : Value) (w : World) (h : Ints w v xs) :
    Calls Try.prog 61 #[v, .func (.func F) #[] #[]] w fun e w' => e = .returned (.int .i64 (idxF pr xs)) ∧ w = w' := by
  obtain ⟨hcf, hC⟩ := hF
  have HPC := Lib.hid hC
  obtain ⟨a, c, rfl, l1, b1, o1⟩ := h.open_
  clear h hC
  go_enter Try.func61, Try.ntmps61
  go_wp2
  go_loop [8] (fun i => ∃ k : Nat, k ≤ xs.length ∧ i = .int .i64 k ∧ Hid (∀ j, j < k → pr (xs.getD j 0) = false)) (fun i => xs.length - (intOf i).toNat)
  case atStart => exact ⟨0, Nat.zero_le _, rfl, by intro j hj; omega⟩
  case round =>
    obtain ⟨k, hk, rfl, HR⟩ := hrel
    by_cases hlt : k < xs.length
    · obtain ⟨b, off, rfl, hc⟩ := o1 (by omega)
      have hck := hc k hlt
      clear hc o1
      generalize hx : xs.getD k 0 = x at *
      have HX := Lib.hid hx
      clear hx
      go_wp2_with fail
      refine (HPC.out x _).mono ?_
      rintro e w' ⟨rfl, rfl⟩
      go_wp2
      · have hp : pr x = true := by assumption
        go_ret
        exact ⟨ret_int (by rw [idx_hit HR.out hlt (by rw [HX.out]; exact hp)]), rfl⟩
      · have hp : pr x = false := by assumption
        go_round
        case rel =>
          refine ⟨k + 1, by omega, by go_num, ?_⟩
          intro j hj
          by_cases hjk : j = k
          · subst hjk; rw [HX.out]; exact hp
          · exact HR.out j (by omega)
        case measure => simp [intOf]; omega
    · have hkn : k = xs.length := by omega
      subst hkn
      clear hlt hk o1
      go_wp2
      go_ret
      exact ⟨ret_int (by rw [idx_none HR.out]), rfl⟩

theorem contains_func (F : Nat) (pr : Int → Bool) (hF : PredC F pr) (xs : List Int) (v : Value) (w : World) (h : Ints w v xs) :
    Calls Try.prog 42 #[v, .func (.func F) #[] #[]] w fun e w' => e = .returned (.bool (xs.any pr)) ∧ w = w' := by
  go_enter Try.func42, Try.ntmps42
  go_wp2_with fail
  refine (index_func F pr hF xs v _ h).mono ?_
  rintro e w' ⟨rfl, rfl⟩
  go_wp2
  go_ret
  exact ⟨ret_bool (idx_any pr xs), rfl⟩

/-- Whether a path may be. -/
def checkE (xs : List Int) : Int := if xs.any (fun x => decide (x < 0)) then 5 else 0

theorem neg_pred : PredC 43 (fun x => decide (x < 0)) := by
  refine ⟨fun x W => by kernel_rfl, fun x W => ?_⟩
  go_enter Try.func43, Try.ntmps43
  go_wp2
  go_ret
  exact ⟨rfl, rfl⟩

theorem check_any (xs : List Int) (v : Value) (w : World) (h : Ints w v xs) :
    Calls Try.prog 22 #[v] w fun e w' => e = .returned (.int .i64 (checkE xs)) ∧ w = w' := by
  have HC := Lib.hid (contains_func _ _ neg_pred xs v w h)
  cases hb : xs.any (fun x => decide (x < 0))
  · have HE : Hid (checkE xs = 0) := by show _ = _; rw [checkE, hb]; rfl
    rw [hb] at HC
    clear hb
    go_enter Try.func22, Try.ntmps22
    go_wp2_with fail
    refine HC.out.mono ?_
    rintro e w' ⟨rfl, rfl⟩
    go_wp2
    go_ret
    exact ⟨ret_int HE.out.symm, rfl⟩
  · have HE : Hid (checkE xs = 5) := by show _ = _; rw [checkE, hb]; rfl
    rw [hb] at HC
    clear hb
    go_enter Try.func22, Try.ntmps22
    go_wp2_with fail
    refine HC.out.mono ?_
    rintro e w' ⟨rfl, rfl⟩
    go_wp2
    go_ret
    exact ⟨ret_int HE.out.symm, rfl⟩

theorem checkE_hit {xs : List Int} {k : Nat} (hk : k < xs.length) (hx : xs.getD k 0 < 0) : checkE xs = 5 := by
  have hk' : xs[k] < 0 := by simpa [hk] using hx
  rw [checkE, if_pos (List.any_eq_true.2 ⟨xs[k], List.getElem_mem _, by simpa using hk'⟩)]
theorem checkE_none {xs : List Int} (h : ∀ j, j < xs.length → 0 ≤ xs.getD j 0) : checkE xs = 0 := by
  rw [checkE, if_neg]
  intro ha
  obtain ⟨x, hx, hp⟩ := List.any_eq_true.1 ha
  obtain ⟨j, hj, rfl⟩ := List.getElem_of_mem hx
  have := h j hj
  simp [hj] at this hp
  omega

theorem Ints.alloc {w : World} {v : Value} {xs : List Int} (h : Ints w v xs) (o : Obj) : Ints (w.alloc o) v xs :=
  h.below ((Below.refl w.heap.size w).alloc (Nat.le_refl _) o) (Nat.le_refl _)

/-- A literal slice of ints. -/
theorem lit_ints (w : World) (c : Array Value) (n g : Nat) (xs : List Int) (hg : w.heap.size = g) (hc : c = (xs.map (Value.int .i64)).toArray) (hn : n = xs.length) (hs : xs.length * 8 ≤ 140737488351232) :
    Ints (w.alloc (.cells c 3)) (.slice (some ⟨g, 0, none⟩) n n) xs := by
  subst hc hn hg
  refine ⟨_, _, rfl, Nat.le_refl _, by unfold maxLen; omega, hs, fun _ => ?_⟩
  refine ⟨w.heap.size, 0, rfl, fun j hj => ?_⟩
  rw [cell_of_row _ w.heap.size (0 + j) _ _ (0, 0) (heap_alloc_new w _)]
  simp [hj]

/-- Slices of ints, in a slice. -/
def IntsL (w : World) (v : Value) (xss : List (List Int)) : Prop :=
  ∃ (a : Option Addr) (cap : Nat) (vs : List Value), v = .slice a xss.length cap ∧ xss.length ≤ cap ∧ cap ≤ maxLen ∧ vs.length = xss.length ∧ xss.length * 24 ≤ 140737488351232 ∧
    (0 < xss.length → ∃ b off, a = some ⟨b, off, none⟩ ∧ ∀ j, j < xss.length → w.cell? ⟨b, off + j, none⟩ = some (vs.getD j (.slice none 0 0))) ∧
    ∀ j, j < xss.length → Ints w (vs.getD j (.slice none 0 0)) (xss.getD j [])

/-- Are all short? -/
def shortB (m : Nat) (xss : List (List Int)) : Bool := xss.all fun xs => decide (xs.length ≤ m)

theorem IntsL.below {B : Nat} {w w' : World} {v : Value} {xss : List (List Int)} (h : IntsL w v xss) (hb : Below B w w') (hB : w.heap.size ≤ B) : IntsL w' v xss := by
  obtain ⟨a, cap, vs, h1, h2, h3, h4, h5, h6, h7⟩ := h
  refine ⟨a, cap, vs, h1, h2, h3, h4, h5, fun hp => ?_, fun j hj => (h7 j hj).below hb hB⟩
  obtain ⟨b, off, rfl, hc⟩ := h6 hp
  refine ⟨b, off, rfl, fun j hj => ?_⟩
  have := hc j hj
  rw [← this]
  exact hb.cell (p := ⟨b, off + j, none⟩) (Nat.lt_of_lt_of_le (World.block_lt_of_cell? w _ this) hB)

theorem OwnL.ints {w : World} {B : Nat} {v : Value} {xss : List (List Int)} (h : OwnL w B v xss) (hs : xss.length * 24 ≤ 140737488351232) : IntsL w v xss := by
  obtain ⟨vs, h1, h2⟩ := h
  have hl : vs.length = xss.length := by simpa using h1.1
  obtain ⟨_, h⟩ := id h1
  rcases h with ⟨rfl, h0⟩ | ⟨g, cap, cur, rfl, _, hg, hn, hm, _, ht⟩
  · exact ⟨none, 0, vs, by rw [h0], by omega, by simp [maxLen], hl, hs, (fun hp => by omega), fun j hj => (h2 j hj).ints⟩
  · refine ⟨_, cap, vs, rfl, hn, hm, hl, hs, fun hp => ⟨g, 0, rfl, fun j hj => ?_⟩, fun j hj => (h2 j hj).ints⟩
    rw [cell_of_row w g (0 + j) cur _ (0, 0) hg]
    have : (cur.toList.take (xss.length * 1))[j]? = vs[j]? := by rw [ht]
    rw [List.getElem?_take, if_pos (by omega)] at this
    rw [show cur[0 + j]? = cur.toList[j]? from by simp, this]
    simp [show j < vs.length by omega]

/-- One of them: the cell where it lies, and what it reads as. -/
theorem IntsL.at_ {w : World} {v : Value} {xss : List (List Int)} (h : IntsL w v xss) (k : Nat) (hk : k < xss.length) :
    ∃ b off cap vk, v = .slice (some ⟨b, off, none⟩) xss.length cap ∧ xss.length ≤ cap ∧ xss.length * 24 ≤ 140737488351232 ∧ w.cell? ⟨b, off + k, none⟩ = some vk ∧ Ints w vk (xss.getD k []) := by
  obtain ⟨a, cap, vs, rfl, h2, h3, h4, h5, h6, h7⟩ := h
  obtain ⟨b, off, rfl, hc⟩ := h6 (by omega)
  exact ⟨b, off, cap, _, rfl, h2, h5, hc k hk, h7 k hk⟩

/- Walks of package redlineref02: Common, Levels, SameAll. -/
theorem one_int (x : Int) : ∀ u ∈ [Value.int .i64 x], u.oneCell' = true := by
  intro u hu
  simp at hu
  subst hu
  rfl
theorem one_sl (a : Option Addr) (n c : Nat) : ∀ u ∈ [Value.slice a n c], u.oneCell' = true := by
  intro u hu
  simp at hu
  subst hu
  rfl

theorem Own.same {w w' : World} {B : Nat} {v : Value} {xs : List Int} (h : Own w B v xs) (hs : Same w w') : Own w' B v xs := ⟨row_same h.1 hs, h.2⟩

theorem take_snoc {xs : List Int} {k : Nat} (h : k < xs.length) : xs.take (k + 1) = xs.take k ++ [xs[k]] := by
  rw [List.take_succ_eq_append_getElem h]

/-- The first k levels. -/
def levK (xs : List Int) (k : Nat) : List (List Int) := (List.range k).map fun i => xs.take i
theorem levK_len (xs : List Int) (k : Nat) : (levK xs k).length = k := by simp [levK]
theorem levK_succ (xs : List Int) (k : Nat) : levK xs (k + 1) = levK xs k ++ [xs.take k] := by simp [levK, List.range_succ]

theorem Own.kept {w w' : World} {B : Nat} {v u : Value} {n : Nat} {xs : List Int} {us : List Value} {C : Nat} (h : Own w B v xs) (hr : w.ownsRow C 22 1 u n us) (hg : w.grownBy w' u.ownBlock) : Own w' B v xs :=
  ⟨h.1.kept hg (row_apart h.1 hr (by decide)), h.2⟩

/-- One more behind a list of the call's own. -/
theorem OwnL.push {wr w2 w3 : World} {B C : Nat} {v v' vk : Value} {xss : List (List Int)} {vs : List Value} {x : List Int} {o : Obj} (h1 : wr.ownsRow B 22 1 v xss.length vs)
    (h2 : ∀ j, j < xss.length → Own wr B (vs.getD j (.slice none 0 0)) (xss.getD j [])) (hb : Below wr.heap.size wr w2) (hk : Own w2 C vk x) (hC : B ≤ C)
    (hown : w3.ownsRow B 22 1 v' (xss.length + 1) (vs ++ [vk])) (hg : (w2.alloc o).grownBy w3 v.ownBlock) : OwnL w3 B v' (xss ++ [x]) := by
  have hvl : vs.length = xss.length := by simpa using h1.1
  have r1 := (row_below h1 hb (Nat.le_refl _)).alloc o
  refine ⟨vs ++ [vk], by simpa using hown, fun j hj => ?_⟩
  rcases Nat.lt_or_ge j xss.length with hl | hl
  · rw [show (vs ++ [vk]).getD j (.slice none 0 0) = vs.getD j (.slice none 0 0) from by simp [List.getD, List.getElem?_append_left (show j < vs.length by omega)],
      show (xss ++ [x]).getD j [] = xss.getD j [] from by simp [List.getD, List.getElem?_append_left hl]]
    have := ((h2 j hl).below hb (Nat.le_refl _))
    exact Own.kept ⟨this.1.alloc o, this.2⟩ r1 hg
  · have hj' : j = xss.length := by simp at hj; omega
    subst hj'
    rw [show (vs ++ [vk]).getD xss.length (.slice none 0 0) = vk from by rw [← hvl]; simp [List.getD],
      show (xss ++ [x]).getD xss.length [] = x from by simp [List.getD]]
    have := hk.mono hC
    exact Own.kept ⟨this.1.alloc o, this.2⟩ r1 hg

theorem agreeL_succ {xss yss : List (List Int)} {k : Nat} (h : ∀ j, j < k → xss.getD j [] = yss.getD j []) (he : xss.getD k [] = yss.getD k []) : ∀ j, j < k + 1 → xss.getD j [] = yss.getD j [] := by
  intro j hj
  by_cases hjk : j = k
  · subst hjk; exact he
  · exact h j (by omega)
theorem agreeL_eq {xss yss : List (List Int)} (hl : xss.length = yss.length) (h : ∀ j, j < xss.length → xss.getD j [] = yss.getD j []) : xss = yss := by
  apply List.ext_getElem hl
  intro i h1 h2
  have := h i h1
  simpa [h1, h2] using this

/-- Are all numbers 0 to 2^20? -/
def bigB (x : Int) : Bool := decide (x < 0) || decide (1048576 < x)
def smallB (xs : List Int) : Bool := !xs.any bigB

theorem smallB_iff {xs : List Int} : smallB xs = true ↔ ∀ x ∈ xs, 0 ≤ x ∧ x ≤ 1048576 := by
  simp only [smallB, Bool.not_eq_true', List.any_eq_false, bigB, Bool.or_eq_true, decide_eq_true_eq]
  constructor
  · intro h x hx; have := h x hx; omega
  · intro h x hx; have := h x hx; omega

theorem big_pred : PredC 62 bigB := by
  refine ⟨fun x W => by kernel_rfl, fun x W => ?_⟩
  by_cases h : x < 0
  · go_enter Try.func62, Try.ntmps62
    go_wp2
    go_ret
    exact ⟨ret_bool (by simp [bigB, h]), rfl⟩
  · by_cases h2 : 1048576 < x
    · go_enter Try.func62, Try.ntmps62
      go_wp2
      go_ret
      exact ⟨ret_bool (by simp [bigB, h2]), rfl⟩
    · go_enter Try.func62, Try.ntmps62
      go_wp2
      go_ret
      refine ⟨ret_bool ?_, rfl⟩
      simp [bigB]
      try omega

theorem small_any (xs : List Int) (v : Value) (w : World) (h : Ints w v xs) :
    Calls Try.prog 44 #[v] w fun e w' => e = .returned (.bool (smallB xs)) ∧ w = w' := by
  have HC := Lib.hid (contains_func _ _ big_pred xs v w h)
  go_enter Try.func44, Try.ntmps44
  go_wp2_with fail
  refine HC.out.mono ?_
  rintro e w' ⟨rfl, rfl⟩
  go_wp2
  go_ret
  exact ⟨rfl, rfl⟩

theorem smallB_hit {xs : List Int} {k : Nat} (hk : k < xs.length) (hx : bigB (xs.getD k 0) = true) : smallB xs = false := by
  have hk' : bigB xs[k] = true := by simpa [hk] using hx
  simp only [smallB, Bool.not_eq_false']
  exact List.any_eq_true.2 ⟨xs[k], List.getElem_mem _, hk'⟩
theorem smallB_none {xs : List Int} (h : ∀ j, j < xs.length → bigB (xs.getD j 0) = false) : smallB xs = true := by
  simp only [smallB, Bool.not_eq_true', List.any_eq_false]
  intro x hx
  obtain ⟨j, hj, rfl⟩ := List.getElem_of_mem hx
  have := h j hj
  simpa [hj] using this

/-- How q stands to p: 0 apart, 1 left, 2 above, 3 the same. -/
def standsN (q p : List Int) : Int := if q.length = 0 then 0 else if q = p then 3 else if aboveB q p = true then 2 else if leftB q p = true then 1 else 0

theorem stands_any (xs ys : List Int) (v1 v2 : Value) (w : World) (h1 : Ints w v1 xs) (h2 : Ints w v2 ys) :
    Calls Try.prog 45 #[v1, v2] w fun e w' => e = .returned (.int .i64 (standsN xs ys)) ∧ Same w w' := by
  obtain ⟨a1, c1, rfl⟩ := h1.slice
  by_cases h0 : xs.length = 0
  · have q : (((xs.length : Nat) : Int) == 0) = true := by simp [h0]
    have HF : Hid (standsN xs ys = 0) := by show _ = _; rw [standsN, if_pos h0]
    clear h0
    go_enter Try.func45, Try.ntmps45
    go_wp2
    go_ret
    exact ⟨ret_int HF.out.symm, Same.refl _⟩
  · have q : (((xs.length : Nat) : Int) == 0) = false := by rw [beq_eq_false_iff_ne]; omega
    have H0 := Lib.hid h0
    clear h0
    by_cases hs : xs = ys
    · have HF : Hid (standsN xs ys = 3) := by show _ = _; rw [standsN, if_neg H0.out, if_pos hs]
      have qs : decide (xs = ys) = true := by simpa using hs
      clear hs
      go_enter Try.func45, Try.ntmps45
      go_wp2_with fail
      refine (same_any _ _ _ _ _ h1 h2).mono ?_
      rintro e w1 ⟨rfl, hs1⟩
      rw [qs]
      go_wp2
      go_ret
      exact ⟨ret_int HF.out.symm, hs1⟩
    · have qs : decide (xs = ys) = false := by simpa using hs
      have HS := Lib.hid hs
      clear hs
      cases ha : aboveB xs ys
      · cases hl : leftB xs ys
        · have HF : Hid (standsN xs ys = 0) := by show _ = _; rw [standsN, if_neg H0.out, if_neg HS.out, if_neg (by simp [ha]), if_neg (by simp [hl])]
          go_enter Try.func45, Try.ntmps45
          go_wp2_with fail
          refine (same_any _ _ _ _ _ h1 h2).mono ?_
          rintro e w1 ⟨rfl, hs1⟩
          rw [qs]
          go_wp2_with fail
          refine (above_any _ _ _ _ _ (h1.same hs1) (h2.same hs1)).mono ?_
          rintro e w2 ⟨rfl, hs2⟩
          rw [ha]
          go_wp2_with fail
          refine (left_any _ _ _ _ _ ((h1.same hs1).same hs2) ((h2.same hs1).same hs2)).mono ?_
          rintro e w3 ⟨rfl, hs3⟩
          rw [hl]
          go_wp2
          go_ret
          exact ⟨ret_int HF.out.symm, (hs1.trans hs2).trans hs3⟩
        · have HF : Hid (standsN xs ys = 1) := by show _ = _; rw [standsN, if_neg H0.out, if_neg HS.out, if_neg (by simp [ha]), if_pos hl]
          go_enter Try.func45, Try.ntmps45
          go_wp2_with fail
          refine (same_any _ _ _ _ _ h1 h2).mono ?_
          rintro e w1 ⟨rfl, hs1⟩
          rw [qs]
          go_wp2_with fail
          refine (above_any _ _ _ _ _ (h1.same hs1) (h2.same hs1)).mono ?_
          rintro e w2 ⟨rfl, hs2⟩
          rw [ha]
          go_wp2_with fail
          refine (left_any _ _ _ _ _ ((h1.same hs1).same hs2) ((h2.same hs1).same hs2)).mono ?_
          rintro e w3 ⟨rfl, hs3⟩
          rw [hl]
          go_wp2
          go_ret
          exact ⟨ret_int HF.out.symm, (hs1.trans hs2).trans hs3⟩
      · have HF : Hid (standsN xs ys = 2) := by show _ = _; rw [standsN, if_neg H0.out, if_neg HS.out, if_pos ha]
        go_enter Try.func45, Try.ntmps45
        go_wp2_with fail
        refine (same_any _ _ _ _ _ h1 h2).mono ?_
        rintro e w1 ⟨rfl, hs1⟩
        rw [qs]
        go_wp2_with fail
        refine (above_any _ _ _ _ _ (h1.same hs1) (h2.same hs1)).mono ?_
        rintro e w2 ⟨rfl, hs2⟩
        rw [ha]
        go_wp2
        go_ret
        exact ⟨ret_int HF.out.symm, hs1.trans hs2⟩

/-- A path whose number at a place is so much more. -/
def shiftL (xs : List Int) (i : Nat) (n : Int) : List Int := xs.set i (xs.getD i 0 + n)

set_option maxHeartbeats 400000 in
theorem shift_any (xs : List Int) (v : Value) (i : Nat) (n : Int) (w : World) (h : Ints w v xs) (hi : i < xs.length) (hr : -9223372036854775808 ≤ xs.getD i 0 + n ∧ xs.getD i 0 + n ≤ 9223372036854775807) :
    Calls Try.prog 48 #[v, .int .i64 i, .int .i64 n] w fun e w' => ∃ v', e = .returned v' ∧ Own w' w.heap.size v' (shiftL xs i n) ∧ Below w.heap.size w w' := by
  have hw : IntKind.i64.wrap (xs.getD i 0 + n) = xs.getD i 0 + n := IntWalk.i64_in _ hr
  have HW := Lib.hid hw
  clear hw hr
  obtain ⟨X, hX⟩ : ∃ X, xs.getD i 0 = X := ⟨_, rfl⟩
  rw [hX] at HW
  have HL : Hid (shiftL xs i n = xs.set i (X + n)) := by show _ = _; rw [shiftL, hX]
  have HX := Lib.hid hX
  clear hX
  go_enter Try.func48, Try.ntmps48
  go_wp2_with fail
  refine (clone_ints xs v _ h).mono ?_
  rintro e w1 ⟨v', rfl, ho, hb⟩
  obtain ⟨g, cap, rfl, hcap, hg1, hg2, hcell, hfr, hset⟩ := ho.at_ i hi
  rw [HX.out] at hcell
  have HS := Lib.hid (hset (X + n))
  have hw := HW.out
  clear hset ho
  go_wp2
  go_ret
  exact ⟨_, rfl, by rw [HL.out]; exact HS.out.1, hb.trans HS.out.2⟩

/-- A path behind a node was put in at q. -/
def insL (xs q : List Int) : List Int := if standsN q xs = 0 then xs else shiftL xs (q.length - 1) 1

theorem stands_len {q p : List Int} (h : standsN q p ≠ 0) : 0 < q.length ∧ q.length ≤ p.length := by
  unfold standsN at h
  split at h
  · exact absurd rfl h
  · refine ⟨by omega, ?_⟩
    split at h
    · rename_i he; rw [he]; exact Nat.le_refl _
    · split at h
      · rename_i ha; rw [aboveB_iff] at ha; omega
      · split at h
        · rename_i hl
          rw [leftB_iff] at hl
          obtain ⟨k, a, b, _⟩ := hl
          omega
        · exact absurd rfl h

set_option maxHeartbeats 400000 in
theorem inserted_any (xs q : List Int) (v1 v2 : Value) (w : World) (h1 : Ints w v1 xs) (h2 : Ints w v2 q) (hr : ∀ x ∈ xs, -9223372036854775808 ≤ x ∧ x < 9223372036854775807) :
    Calls Try.prog 47 #[v1, v2] w fun e w' => ∃ v', e = .returned v' ∧ Own w' w.heap.size v' (insL xs q) ∧ Below w.heap.size w w' := by
  by_cases hs : standsN q xs = 0
  · have HF : Hid (insL xs q = xs) := by show _ = _; rw [insL, if_pos hs]
    go_enter Try.func47, Try.ntmps47
    go_wp2_with fail
    refine (stands_any _ _ _ _ _ h2 h1).mono ?_
    rintro e w1 ⟨rfl, hs1⟩
    rw [hs]
    have HS := Lib.hid hs
    clear hs
    go_wp2_with fail
    refine (clone_ints xs _ _ (h1.same hs1)).mono ?_
    rintro e w2 ⟨v', rfl, ho, hb⟩
    go_wp2
    go_ret
    rw [hs1.size] at ho hb
    exact ⟨_, rfl, by rw [HF.out]; exact ho, (hs1.below _).trans hb⟩
  · obtain ⟨l1, l2⟩ := stands_len hs
    have HF : Hid (insL xs q = shiftL xs (q.length - 1) 1) := by show _ = _; rw [insL, if_neg hs]
    have qs : (standsN q xs == 0) = false := by rw [beq_eq_false_iff_ne]; exact hs
    have HS := Lib.hid hs
    obtain ⟨a2, c2, rfl⟩ := h2.slice
    have b2 := h2.len
    have hx : -9223372036854775808 ≤ xs.getD (q.length - 1) 0 ∧ xs.getD (q.length - 1) 0 < 9223372036854775807 := by
      have hlt : q.length - 1 < xs.length := by omega
      have := hr _ (List.getElem_mem hlt)
      simpa [List.getD, hlt] using this
    have HX := Lib.hid hx
    clear hs hr hx
    go_enter Try.func47, Try.ntmps47
    go_wp2_with fail
    refine (stands_any _ _ _ _ _ h2 h1).mono ?_
    rintro e w1 ⟨rfl, hs1⟩
    go_wp2_with fail
    rw [show ((q.length : Int) - 1) = ((q.length - 1 : Nat) : Int) from by omega]
    refine (shift_any xs _ (q.length - 1) 1 _ (h1.same hs1) (by omega) (by have := HX.out; omega)).mono ?_
    rintro e w2 ⟨v', rfl, ho, hb⟩
    go_wp2
    go_ret
    rw [hs1.size] at ho hb
    exact ⟨_, rfl, by rw [HF.out]; exact ho, (hs1.below _).trans hb⟩

end Go.Proofs.Ytcbljiiomnhbjaa
