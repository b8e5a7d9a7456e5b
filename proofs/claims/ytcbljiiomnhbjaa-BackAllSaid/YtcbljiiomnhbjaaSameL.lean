/- Walks of slices.Equal at []api.Prop and []rune, of redlineref01.Same and redlineref03.Same. -/
import Derived.Test.YtcbljiiomnhbjaaNode1
import Derived.Test.YtcbljiiomnhbjaaSlices
import Derived.Laws.StructEq
namespace Go.Proofs.Ytcbljiiomnhbjaa
set_option maxRecDepth 100000
open Go.RowKit

theorem neq_prop (a b c e : ByteArray) (w : World) : (binOp .neq 90 (.agg #[.string a, .string b]) (.agg #[.string c, .string e])).run Try.prog w = .ok (.bool (decide ((a, b) ≠ (c, e)))) w := by
  have hS : Try.prog.underlying 90 = some (.struct (Try.prog.fieldsOf 90)) := by kernel_rfl
  have hp : Try.prog.stoodInHeld 90 = false := by kernel_rfl
  have u1 := Try.underlying9
  have a1 := Try.isAgg9
  have z1 := Try.sizeOf9
  rw [run_neq_struct, show (10000 : Nat) = 9999 + 1 from rfl, run_equalIn_agg w 9999 90 _ _ hS hp]
  simp only [Program.fieldsOf, Try.underlying90]
  go_simp
  have k : ∀ x y : ByteArray, x.toList = y.toList ↔ x = y := fun x y => ⟨fun h => by
    rw [ByteArray.toList_eq, ByteArray.toList_eq] at h
    obtain ⟨⟨x⟩⟩ := x
    obtain ⟨⟨y⟩⟩ := y
    simp only at h
    rw [h], fun h => by rw [h]⟩
  by_cases h1 : a = c <;> by_cases h2 : b = e <;> simp [h1, h2, k]
theorem guard_prop (op : BinOp) (x y : Operand) (xs ys : Array Value) (w : World) : (eqGuard op 90 x y (.agg xs) (.agg ys)).run Try.prog w = .ok () w := run_eqGuard_agg w op 90 x y xs ys (by kernel_rfl)
theorem take_eq_snoc {α : Type} [Inhabited α] {xs ys : List α} {k : Nat} (h : xs.take k = ys.take k) (h1 : k < xs.length) (h2 : k < ys.length) (he : xs.getD k default = ys.getD k default) : xs.take (k + 1) = ys.take (k + 1) := by
  rw [List.take_succ_eq_append_getElem h1, List.take_succ_eq_append_getElem h2, h]
  congr 2
  simpa [h1, h2] using he
theorem take_ne {α : Type} [Inhabited α] {xs ys : List α} {k : Nat} (he : xs.getD k default ≠ ys.getD k default) : xs ≠ ys := by rintro rfl; exact he rfl
theorem of_decide_not {α : Type} [DecidableEq α] {x y : α} (h : false = decide (x ≠ y)) : x = y := by simpa using h
theorem takes_all {α : Type} {xs ys : List α} (hl : xs.length = ys.length) (h : xs.take xs.length = ys.take xs.length) : xs = ys := by
  rw [List.take_length] at h
  rw [h]; exact List.take_of_length_le (by omega)
instance : Inhabited ByteArray := ⟨⟨#[]⟩⟩
/-- An element of a list of properties. -/
theorem props_at {S : Nat → Prop} {w : World} {a : Option Addr} {n c : Nat} {ps : List (ByteArray × ByteArray)} (h : PropsAt S w (.slice a n c) ps) (k : Nat) (hk : k < n) :
    ∃ b off, a = some ⟨b, off, none⟩ ∧ n ≤ c ∧ w.cell? ⟨b, off + k * 2, none⟩ = some (.string (ps.getD k default).1) ∧ w.cell? ⟨b, off + k * 2 + 1, none⟩ = some (.string (ps.getD k default).2) := by
  have hl : ps.length = n := by obtain ⟨a', c', he⟩ := h.slice; simp only [Value.slice.injEq, List.length_map] at he; omega
  obtain ⟨b, off, rfl, hc, _, hr, _⟩ := h.at_ k hk
  have e : (ps.map propCells).getD k [] = propCells (ps.getD k default) := by simp [hl, hk]
  rw [e] at hr
  exact ⟨b, off, rfl, hc, hr 0 _ rfl, hr 1 _ rfl⟩
theorem text_at {S : Nat → Prop} {w : World} {a : Option Addr} {n c : Nat} {xs : List Int} (h : TextAt S w (.slice a n c) xs) (k : Nat) (hk : k < n) :
    ∃ b off, a = some ⟨b, off, none⟩ ∧ n ≤ c ∧ w.cell? ⟨b, off + k, none⟩ = some (.int .i32 (xs.getD k default)) := by
  have hl : xs.length = n := by obtain ⟨a', c', he⟩ := h.slice; simp only [Value.slice.injEq, List.length_map] at he; omega
  obtain ⟨b, off, rfl, hc, _, hr, _⟩ := h.at_ k hk
  have e : (xs.map runeCells).getD k [] = runeCells (xs.getD k default) := by simp [hl, hk]
  rw [e] at hr
  have := hr 0 _ rfl
  rw [Nat.mul_one, Nat.add_zero] at this
  exact ⟨b, off, rfl, hc, this⟩

set_option maxHeartbeats 1000000 in
theorem equal_props (xs ys : List (ByteArray × ByteArray)) (S S' : Nat → Prop) (v1 v2 : Value) (w : World) (h1 : PropsAt S w v1 xs) (h2 : PropsAt S' w v2 ys) :
    Calls Try.prog 72 #[v1, v2] w fun e w' => e = .returned (.bool (decide (xs = ys))) ∧ Same w w' := by
  obtain ⟨a1, c1, rfl⟩ := h1.slice
  obtain ⟨a2, c2, rfl⟩ := h2.slice
  have b1 := h1.len
  have b2 := h2.len
  simp only [List.length_map] at h1 h2 b1 b2 ⊢
  by_cases hl : xs.length = ys.length
  · have hne : (((xs.length : Nat) : Int) != ((ys.length : Nat) : Int)) = false := by simp [hl]
    have HL := Lib.hid hl; have H1 := Lib.hid h1; have H2 := Lib.hid h2
    clear hl h1 h2
    go_enter Try.func72, Try.ntmps72
    go_wp2
    go_loopw [13] (fun i wr => ∃ k : Nat, k ≤ xs.length ∧ i = .int .i64 k ∧ Hid (xs.take k = ys.take k) ∧ Same w wr) (fun i _ => xs.length - (intOf i).toNat)
    case atStart => exact ⟨0, Nat.zero_le _, rfl, Lib.hid (by simp), Same.refl _⟩
    case round =>
      obtain ⟨k, hk, rfl, hag, hs⟩ := hrel
      by_cases hlt : k < xs.length
      · have hlt2 : k < ys.length := by have := HL.out; omega
        obtain ⟨p1, f1, rfl, -, d1, d1'⟩ := props_at H1.out k hlt
        obtain ⟨p2, f2, rfl, -, d2, d2'⟩ := props_at H2.out k hlt2
        replace d1 := (hs.cell ⟨p1, f1 + k * 2, none⟩).trans d1
        replace d1' := (hs.cell ⟨p1, f1 + k * 2 + 1, none⟩).trans d1'
        replace d2 := (hs.cell ⟨p2, f2 + k * 2, none⟩).trans d2
        replace d2' := (hs.cell ⟨p2, f2 + k * 2 + 1, none⟩).trans d2'
        have hq := fun (w : World) => neq_prop (xs.getD k default).1 (xs.getD k default).2 (ys.getD k default).1 (ys.getD k default).2 w
        have hgd := guard_prop
        have HX : Hid (∀ q : Bool, decide (((xs.getD k default).1, (xs.getD k default).2) ≠ ((ys.getD k default).1, (ys.getD k default).2)) = q → q = decide (xs.getD k default ≠ ys.getD k default)) := Lib.hid (fun q h => h.symm)
        obtain ⟨q, hqq⟩ : ∃ q, decide (((xs.getD k default).1, (xs.getD k default).2) ≠ ((ys.getD k default).1, (ys.getD k default).2)) = q := ⟨_, rfl⟩
        rw [hqq] at hq
        have HQ := Lib.hid (HX.out q hqq)
        clear hqq HX
        generalize (xs.getD k default).1 = s1 at *
        generalize (xs.getD k default).2 = s2 at *
        generalize (ys.getD k default).1 = s3 at *
        generalize (ys.getD k default).2 = s4 at *
        go_wp2
        go_quiet (fail)
        go_wp2
        · go_ret
          refine ⟨ret_bool ?_, hs.drewN _⟩
          rw [eq_comm, decide_eq_false_iff_not]
          refine take_ne (k := k) ?_
          intro he
          have hq1 : q = true := by assumption
          rw [HQ.out] at hq1
          exact of_decide_eq_true hq1 he
        · have hq1 : q = false := by assumption
          have HE : xs.getD k default = ys.getD k default := by rw [HQ.out] at hq1; exact of_decide_not hq1.symm
          have HN := Lib.hid (take_eq_snoc hag.out hlt hlt2 HE)
          go_roundw
          case rel => exact ⟨k + 1, by omega, by go_num, HN, hs.drewN _⟩
          case measure => simp [intOf]; omega
      · have : k = xs.length := by omega
        subst this
        clear hlt
        go_wp2
        go_ret
        exact ⟨ret_bool (by rw [eq_comm, decide_eq_true_eq]; exact takes_all HL.out hag.out), hs⟩
  · have hne : (((xs.length : Nat) : Int) != ((ys.length : Nat) : Int)) = true := by simp; omega
    have HL := Lib.hid hl
    clear hl h1 h2
    go_enter Try.func72, Try.ntmps72
    go_wp2
    go_ret
    exact ⟨ret_bool (by rw [eq_comm, decide_eq_false_iff_not]; rintro rfl; exact HL.out rfl), Same.refl _⟩

set_option maxHeartbeats 1000000 in
theorem r01same_any (xs ys : List (ByteArray × ByteArray)) (S S' : Nat → Prop) (v1 v2 : Value) (w : World) (h1 : PropsAt S w v1 xs) (h2 : PropsAt S' w v2 ys) :
    Calls Try.prog 33 #[v1, v2] w fun e w' => e = .returned (.bool (decide (xs = ys))) ∧ Same w w' := by
  obtain ⟨a1, c1, rfl⟩ := h1.slice
  obtain ⟨a2, c2, rfl⟩ := h2.slice
  have b1 := h1.len
  have b2 := h2.len
  simp only [List.length_map] at h1 h2 b1 b2 ⊢
  by_cases hl : xs.length = ys.length
  · have hne : (((xs.length : Nat) : Int) != ((ys.length : Nat) : Int)) = false := by simp [hl]
    have HL := Lib.hid hl; have H1 := Lib.hid h1; have H2 := Lib.hid h2
    clear hl h1 h2
    go_enter Try.func33, Try.ntmps33
    go_wp2
    go_loopw [13] (fun i wr => ∃ k : Nat, k ≤ xs.length ∧ i = .int .i64 k ∧ Hid (xs.take k = ys.take k) ∧ Same w wr) (fun i _ => xs.length - (intOf i).toNat)
    case atStart => exact ⟨0, Nat.zero_le _, rfl, Lib.hid (by simp), Same.refl _⟩
    case round =>
      obtain ⟨k, hk, rfl, hag, hs⟩ := hrel
      by_cases hlt : k < xs.length
      · have hlt2 : k < ys.length := by have := HL.out; omega
        obtain ⟨p1, f1, rfl, -, d1, d1'⟩ := props_at H1.out k hlt
        obtain ⟨p2, f2, rfl, -, d2, d2'⟩ := props_at H2.out k hlt2
        replace d1 := (hs.cell ⟨p1, f1 + k * 2, none⟩).trans d1
        replace d1' := (hs.cell ⟨p1, f1 + k * 2 + 1, none⟩).trans d1'
        replace d2 := (hs.cell ⟨p2, f2 + k * 2, none⟩).trans d2
        replace d2' := (hs.cell ⟨p2, f2 + k * 2 + 1, none⟩).trans d2'
        have hq := fun (w : World) => neq_prop (xs.getD k default).1 (xs.getD k default).2 (ys.getD k default).1 (ys.getD k default).2 w
        have hgd := guard_prop
        have HX : Hid (∀ q : Bool, decide (((xs.getD k default).1, (xs.getD k default).2) ≠ ((ys.getD k default).1, (ys.getD k default).2)) = q → q = decide (xs.getD k default ≠ ys.getD k default)) := Lib.hid (fun q h => h.symm)
        obtain ⟨q, hqq⟩ : ∃ q, decide (((xs.getD k default).1, (xs.getD k default).2) ≠ ((ys.getD k default).1, (ys.getD k default).2)) = q := ⟨_, rfl⟩
        rw [hqq] at hq
        have HQ := Lib.hid (HX.out q hqq)
        clear hqq HX
        generalize (xs.getD k default).1 = s1 at *
        generalize (xs.getD k default).2 = s2 at *
        generalize (ys.getD k default).1 = s3 at *
        generalize (ys.getD k default).2 = s4 at *
        go_wp2
        go_quiet (fail)
        go_wp2
        · go_ret
          refine ⟨ret_bool ?_, hs.drewN _⟩
          rw [eq_comm, decide_eq_false_iff_not]
          refine take_ne (k := k) ?_
          intro he
          have hq1 : q = true := by assumption
          rw [HQ.out] at hq1
          exact of_decide_eq_true hq1 he
        · have hq1 : q = false := by assumption
          have HE : xs.getD k default = ys.getD k default := by rw [HQ.out] at hq1; exact of_decide_not hq1.symm
          have HN := Lib.hid (take_eq_snoc hag.out hlt hlt2 HE)
          go_roundw
          case rel => exact ⟨k + 1, by omega, by go_num, HN, hs.drewN _⟩
          case measure => simp [intOf]; omega
      · have : k = xs.length := by omega
        subst this
        clear hlt
        go_wp2
        go_ret
        exact ⟨ret_bool (by rw [eq_comm, decide_eq_true_eq]; exact takes_all HL.out hag.out), hs⟩
  · have hne : (((xs.length : Nat) : Int) != ((ys.length : Nat) : Int)) = true := by simp; omega
    have HL := Lib.hid hl
    clear hl h1 h2
    go_enter Try.func33, Try.ntmps33
    go_wp2
    go_ret
    exact ⟨ret_bool (by rw [eq_comm, decide_eq_false_iff_not]; rintro rfl; exact HL.out rfl), Same.refl _⟩

set_option maxHeartbeats 1000000 in
theorem equal_runes (xs ys : List Int) (S S' : Nat → Prop) (v1 v2 : Value) (w : World) (h1 : TextAt S w v1 xs) (h2 : TextAt S' w v2 ys) :
    Calls Try.prog 73 #[v1, v2] w fun e w' => e = .returned (.bool (decide (xs = ys))) ∧ Same w w' := by
  obtain ⟨a1, c1, rfl⟩ := h1.slice
  obtain ⟨a2, c2, rfl⟩ := h2.slice
  have b1 := h1.len
  have b2 := h2.len
  simp only [List.length_map] at h1 h2 b1 b2 ⊢
  by_cases hl : xs.length = ys.length
  · have hne : (((xs.length : Nat) : Int) != ((ys.length : Nat) : Int)) = false := by simp [hl]
    have HL := Lib.hid hl; have H1 := Lib.hid h1; have H2 := Lib.hid h2
    clear hl h1 h2
    go_enter Try.func73, Try.ntmps73
    go_wp2
    go_loopw [13] (fun i wr => ∃ k : Nat, k ≤ xs.length ∧ i = .int .i64 k ∧ Hid (xs.take k = ys.take k) ∧ Same w wr) (fun i _ => xs.length - (intOf i).toNat)
    case atStart => exact ⟨0, Nat.zero_le _, rfl, Lib.hid (by simp), Same.refl _⟩
    case round =>
      obtain ⟨k, hk, rfl, hag, hs⟩ := hrel
      by_cases hlt : k < xs.length
      · have hlt2 : k < ys.length := by have := HL.out; omega
        obtain ⟨p1, f1, rfl, -, d1⟩ := text_at H1.out k hlt
        obtain ⟨p2, f2, rfl, -, d2⟩ := text_at H2.out k hlt2
        replace d1 := (hs.cell ⟨p1, f1 + k, none⟩).trans d1
        replace d2 := (hs.cell ⟨p2, f2 + k, none⟩).trans d2
        have HX : Hid (∀ s t : Int, xs.getD k default = s → ys.getD k default = t → (s ≠ t ↔ xs.getD k default ≠ ys.getD k default)) := Lib.hid (fun s t h1 h2 => by rw [h1, h2])
        obtain ⟨s, hsx⟩ : ∃ s, xs.getD k default = s := ⟨_, rfl⟩
        obtain ⟨t, htx⟩ : ∃ t, ys.getD k default = t := ⟨_, rfl⟩
        have HQ := Lib.hid (HX.out s t hsx htx)
        rw [hsx] at d1
        rw [htx] at d2
        clear hsx htx HX
        go_wp2
        go_quiet (fail)
        go_wp2
        · go_ret
          refine ⟨ret_bool ?_, hs.drewN _⟩
          rw [eq_comm, decide_eq_false_iff_not]
          refine take_ne (k := k) ?_
          intro he
          have hq1 : (s != t) = true := by assumption
          exact HQ.out.1 (by simpa using hq1) he
        · have hq1 : (s != t) = false := by assumption
          have h3 : s = t := by simpa using hq1
          have HE : xs.getD k default = ys.getD k default := Classical.byContradiction fun h => HQ.out.2 h h3
          have HN := Lib.hid (take_eq_snoc hag.out hlt hlt2 HE)
          go_roundw
          case rel => exact ⟨k + 1, by omega, by go_num, HN, hs.drewN _⟩
          case measure => simp [intOf]; omega
      · have : k = xs.length := by omega
        subst this
        clear hlt
        go_wp2
        go_ret
        exact ⟨ret_bool (by rw [eq_comm, decide_eq_true_eq]; exact takes_all HL.out hag.out), hs⟩
  · have hne : (((xs.length : Nat) : Int) != ((ys.length : Nat) : Int)) = true := by simp; omega
    have HL := Lib.hid hl
    clear hl h1 h2
    go_enter Try.func73, Try.ntmps73
    go_wp2
    go_ret
    exact ⟨ret_bool (by rw [eq_comm, decide_eq_false_iff_not]; rintro rfl; exact HL.out rfl), Same.refl _⟩

set_option maxHeartbeats 1000000 in
theorem r03same_any (xs ys : List Int) (S S' : Nat → Prop) (v1 v2 : Value) (w : World) (h1 : TextAt S w v1 xs) (h2 : TextAt S' w v2 ys) :
    Calls Try.prog 34 #[v1, v2] w fun e w' => e = .returned (.bool (decide (xs = ys))) ∧ Same w w' := by
  obtain ⟨a1, c1, rfl⟩ := h1.slice
  obtain ⟨a2, c2, rfl⟩ := h2.slice
  have b1 := h1.len
  have b2 := h2.len
  simp only [List.length_map] at h1 h2 b1 b2 ⊢
  by_cases hl : xs.length = ys.length
  · have hne : (((xs.length : Nat) : Int) != ((ys.length : Nat) : Int)) = false := by simp [hl]
    have HL := Lib.hid hl; have H1 := Lib.hid h1; have H2 := Lib.hid h2
    clear hl h1 h2
    go_enter Try.func34, Try.ntmps34
    go_wp2
    go_loopw [13] (fun i wr => ∃ k : Nat, k ≤ xs.length ∧ i = .int .i64 k ∧ Hid (xs.take k = ys.take k) ∧ Same w wr) (fun i _ => xs.length - (intOf i).toNat)
    case atStart => exact ⟨0, Nat.zero_le _, rfl, Lib.hid (by simp), Same.refl _⟩
    case round =>
      obtain ⟨k, hk, rfl, hag, hs⟩ := hrel
      by_cases hlt : k < xs.length
      · have hlt2 : k < ys.length := by have := HL.out; omega
        obtain ⟨p1, f1, rfl, -, d1⟩ := text_at H1.out k hlt
        obtain ⟨p2, f2, rfl, -, d2⟩ := text_at H2.out k hlt2
        replace d1 := (hs.cell ⟨p1, f1 + k, none⟩).trans d1
        replace d2 := (hs.cell ⟨p2, f2 + k, none⟩).trans d2
        have HX : Hid (∀ s t : Int, xs.getD k default = s → ys.getD k default = t → (s ≠ t ↔ xs.getD k default ≠ ys.getD k default)) := Lib.hid (fun s t h1 h2 => by rw [h1, h2])
        obtain ⟨s, hsx⟩ : ∃ s, xs.getD k default = s := ⟨_, rfl⟩
        obtain ⟨t, htx⟩ : ∃ t, ys.getD k default = t := ⟨_, rfl⟩
        have HQ := Lib.hid (HX.out s t hsx htx)
        rw [hsx] at d1
        rw [htx] at d2
        clear hsx htx HX
        go_wp2
        go_quiet (fail)
        go_wp2
        · go_ret
          refine ⟨ret_bool ?_, hs.drewN _⟩
          rw [eq_comm, decide_eq_false_iff_not]
          refine take_ne (k := k) ?_
          intro he
          have hq1 : (s != t) = true := by assumption
          exact HQ.out.1 (by simpa using hq1) he
        · have hq1 : (s != t) = false := by assumption
          have h3 : s = t := by simpa using hq1
          have HE : xs.getD k default = ys.getD k default := Classical.byContradiction fun h => HQ.out.2 h h3
          have HN := Lib.hid (take_eq_snoc hag.out hlt hlt2 HE)
          go_roundw
          case rel => exact ⟨k + 1, by omega, by go_num, HN, hs.drewN _⟩
          case measure => simp [intOf]; omega
      · have : k = xs.length := by omega
        subst this
        clear hlt
        go_wp2
        go_ret
        exact ⟨ret_bool (by rw [eq_comm, decide_eq_true_eq]; exact takes_all HL.out hag.out), hs⟩
  · have hne : (((xs.length : Nat) : Int) != ((ys.length : Nat) : Int)) = true := by simp; omega
    have HL := Lib.hid hl
    clear hl h1 h2
    go_enter Try.func34, Try.ntmps34
    go_wp2
    go_ret
    exact ⟨ret_bool (by rw [eq_comm, decide_eq_false_iff_not]; rintro rfl; exact HL.out rfl), Same.refl _⟩

/-- prop.Same, glyph.Same. -/
theorem propsame_any (xs ys : List (ByteArray × ByteArray)) (S S' : Nat → Prop) (v1 v2 : Value) (w : World) (h1 : PropsAt S w v1 xs) (h2 : PropsAt S' w v2 ys) :
    Calls Try.prog 67 #[v1, v2] w fun e w' => e = .returned (.bool (decide (xs = ys))) ∧ Same w w' := by
  have HC := Lib.hid (equal_props xs ys S S' v1 v2 w h1 h2)
  go_enter Try.func67, Try.ntmps67
  go_wp2_with fail
  refine HC.out.mono ?_
  rintro e w' ⟨rfl, hs⟩
  go_wp2
  go_ret
  exact ⟨rfl, hs⟩
theorem glyphsame_any (xs ys : List Int) (S S' : Nat → Prop) (v1 v2 : Value) (w : World) (h1 : TextAt S w v1 xs) (h2 : TextAt S' w v2 ys) :
    Calls Try.prog 68 #[v1, v2] w fun e w' => e = .returned (.bool (decide (xs = ys))) ∧ Same w w' := by
  have HC := Lib.hid (equal_runes xs ys S S' v1 v2 w h1 h2)
  go_enter Try.func68, Try.ntmps68
  go_wp2_with fail
  refine HC.out.mono ?_
  rintro e w' ⟨rfl, hs⟩
  go_wp2
  go_ret
  exact ⟨rfl, hs⟩
end Go.Proofs.Ytcbljiiomnhbjaa
