/- Words on memory for lists of operations; walks of redlineref11.FewAll and, at lists that are the same, SameAll. -/
import Derived.Test.YtcbljiiomnhbjaaLive11
import Derived.Test.YtcbljiiomnhbjaaFew11
import Derived.Test.YtcbljiiomnhbjaaFormZ
import Derived.Deep.MidRow
namespace Go.Proofs.Ytcbljiiomnhbjaa
set_option maxRecDepth 100000
open Go.RowKit

/-- A slice of operations. -/
def OpsV (w : World) (v : Value) (os : List OpF) : Prop :=
  ∃ es, Sl Any w 21 360 v es ∧ es.length = os.length ∧ ∀ i, i < os.length → OpV w (.agg (es.getD i []).toArray) (os.getD i zeroO)
theorem OpsV.later {w w' : World} {v : Value} {os : List OpF} (h : OpsV w v os) (hb : Below w.heap.size w w') : OpsV w' v os := by
  obtain ⟨es, h1, h2, h3⟩ := h
  exact ⟨es, h1.later hb (Nat.le_refl _), h2, fun i hi => (h3 i hi).later hb⟩
theorem OpsV.slice {w : World} {v : Value} {os : List OpF} (h : OpsV w v os) : ∃ a cap, v = .slice a os.length cap := by
  obtain ⟨es, h1, h2, h3⟩ := h
  rw [← h2]
  exact h1.slice
theorem OpsV.nil (w : World) : OpsV w (.slice none 0 0) [] := ⟨[], Sl.nil _ _ _ _, rfl, fun i hi => by simp at hi⟩
theorem OpsV.len {w : World} {v : Value} {os : List OpF} (h : OpsV w v os) : os.length * 360 ≤ 140737488351232 := by
  obtain ⟨es, h1, h2, h3⟩ := h
  rw [← h2]
  exact h1.len
/-- An element. -/
theorem OpsV.at_ {w : World} {a : Option Addr} {n c : Nat} {os : List OpF} (h : OpsV w (.slice a n c) os) (i : Nat) (hi : i < n) :
    ∃ b off cs, a = some ⟨b, off, none⟩ ∧ n ≤ c ∧ w.rangeAt b (off + i * 21) cs ∧ cs.length = 21 ∧ OpV w (.agg cs.toArray) (os.getD i zeroO) := by
  obtain ⟨es, h1, h2, h3⟩ := h
  have hn : n = es.length := by obtain ⟨a', c', he⟩ := h1.slice; simp only [Value.slice.injEq] at he; omega
  obtain ⟨b, off, e1, e2, -, e3, e4⟩ := h1.at_ i hi
  exact ⟨b, off, _, e1, e2, e3, e4, h3 i (by omega)⟩
theorem op_info_l {cs : List Value} (h : cs.length = 21) : (Try.prog.info? 35).map (·.size) = some cs.length := by rw [h]; exact op_info
theorem op_info_t {cs : List Value} (h : cs.length = 21) : (Try.prog.info? 35).map (·.size) = some cs.toArray.size := by rw [List.size_toArray, h]; exact op_info

/-- What FewAll tells. -/
def FewAP (n : Nat) (m : Int) (w : World) (e : Ending) (w' : World) : Prop := ∃ b : Bool, e = .returned (.bool b) ∧ (b = true → (n : Int) ≤ m) ∧ Below w.heap.size w w'

set_option maxHeartbeats 2000000 in
set_option maxRecDepth 100000 in
theorem fewall_any (os : List OpF) (m : Int) (v : Value) (w : World) (hv : OpsV w v os) : Calls Try.prog 18 #[v, .int .i64 m] w (FewAP os.length m w) := by
  obtain ⟨a, c, rfl⟩ := hv.slice
  have HO := Lib.hid hv
  have hlen := hv.len
  clear hv
  go_enter Try.func18, Try.ntmps18
  go_wp2_with fail
  go_loopw [9] (fun i wr => ∃ k : Nat, k ≤ os.length ∧ i = .int .i64 k ∧ Below w.heap.size w wr) (fun i _ => os.length - (intOf i).toNat)
  case atStart => exact ⟨0, Nat.zero_le _, rfl, gr_refl w⟩
  case round =>
    obtain ⟨k, hk, rfl, hb⟩ := hrel
    by_cases hlt : k < os.length
    case pos =>
      obtain ⟨b, off, cs, rfl, hc, hr, hl, ho⟩ := (HO.out.later hb).at_ k hlt
      have HR := Lib.hid hr; have HI := Lib.hid (op_info_l hl); have HT := Lib.hid (op_info_t hl); have H1 := Lib.hid ho.one
      obtain ⟨fr1, fr2⟩ := fresh_row wr #[.int .i64 0, .slice none 0 0, .slice none 0 0, .int .i64 0, .bool false, .slice none 0 0, .slice none 0 0, .slice none 0 0, .slice none 0 0, .slice none 0 0, .slice none 0 0, .bool false, .slice none 0 0, .int .i64 0, .slice none 0 0, .int .i64 0, .bool false, .slice none 0 0, .int .i64 0, .slice none 0 0, .int .i64 0] cs.toArray 35
      have HY := Lib.hid fr2; have HB := Lib.hid (gr_tr hb fr1); have HP := Lib.hid (ho.later fr1)
      clear hr hl ho fr1 fr2 hb
      go_upto_region 4 with (first | (refine wpList_load_mid rfl 35 _ rfl b (off + k * 21) rfl cs _ HR.out Try.underlying35 rfl HI.out ?_) | (refine wpList_store_row rfl 35 _ _ rfl _ _ rfl rfl 35 _ (heap_alloc_new wr (.cells #[.int .i64 0, .slice none 0 0, .slice none 0 0, .int .i64 0, .bool false, .slice none 0 0, .slice none 0 0, .slice none 0 0, .slice none 0 0, .slice none 0 0, .slice none 0 0, .bool false, .slice none 0 0, .int .i64 0, .slice none 0 0, .int .i64 0, .bool false, .slice none 0 0, .int .i64 0, .slice none 0 0, .int .i64 0] 35)) HT.out H1.out.2.symm H1.out.1 ?_))
      generalize World.setRow (wr.alloc _) _ _ = U at *
      go_wp2_with (refine wpList_load_row rfl 35 _ rfl _ rfl 35 _ (0, 0) _ HY.out Try.underlying35 rfl HT.out ?_)
      refine (few11_any _ _ _ HP.out).mono ?_
      rintro e w2 ⟨f, rfl, -, hb⟩
      replace HB := Lib.hid (gr_tr HB.out hb)
      clear hb HY HP
      cases f
      case false =>
        go_wp2_with fail
        go_ret
        exact ⟨false, rfl, (fun h => by cases h), HB.out⟩
      go_wp2_with fail
      go_roundw
      case rel => exact ⟨k + 1, by omega, by go_num, HB.out⟩
      case measure => simp [intOf]; omega
    have hkn : k = os.length := by omega
    subst hkn
    have HB := Lib.hid hb
    clear hb
    by_cases hm : (os.length : Int) ≤ m
    case pos =>
      have qm := decide_eq_true hm
      have HM := Lib.hid hm
      clear hm
      go_wp2_with fail
      go_ret
      exact ⟨true, rfl, fun _ => HM.out, HB.out⟩
    have qm := decide_eq_false hm
    clear hm
    go_wp2_with fail
    go_ret
    exact ⟨false, rfl, (fun h => by cases h), HB.out⟩

/-- A whole load of an operation, kept whole. -/
def opLd (p : Addr) : Sem Value := loadVar 35 p
theorem opLd_eq (p : Addr) : loadVar 35 p = opLd p := rfl

section
attribute [local go_sem ↓] opLd_eq
set_option maxHeartbeats 2000000 in
set_option maxRecDepth 100000 in
/-- Lists that are the same. -/
theorem rsall_yes (os : List OpF) (v1 v2 : Value) (w : World) (hv1 : OpsV w v1 os) (hv2 : OpsV w v2 os) : Calls Try.prog 21 #[v1, v2] w fun e w' => e = .returned (.bool true) ∧ Below w.heap.size w w' := by
  obtain ⟨a1, c1, rfl⟩ := hv1.slice
  obtain ⟨a2, c2, rfl⟩ := hv2.slice
  have HO1 := Lib.hid hv1; have HO2 := Lib.hid hv2
  have hlen := hv1.len
  clear hv1 hv2
  go_enter Try.func21, Try.ntmps21
  go_wp2_with fail
  go_loopw [13] (fun i wr => ∃ k : Nat, k ≤ os.length ∧ i = .int .i64 k ∧ Below w.heap.size w wr) (fun i _ => os.length - (intOf i).toNat)
  case atStart => exact ⟨0, Nat.zero_le _, rfl, gr_refl w⟩
  case round =>
    obtain ⟨k, hk, rfl, hb⟩ := hrel
    by_cases hlt : k < os.length
    case pos =>
      obtain ⟨b, off, cs, rfl, hc, hr, hl, ho⟩ := (HO1.out.later hb).at_ k hlt
      obtain ⟨b', off', cs', rfl, hc', hr', hl', ho'⟩ := (HO2.out.later hb).at_ k hlt
      have HI := Lib.hid (op_info_l hl); have HI' := Lib.hid (op_info_l hl')
      have BB : Hid (∀ w', Below wr.heap.size wr w' → (opLd ⟨b, off + k * 21, none⟩).run Try.prog w' = .ok (.agg cs.toArray) w' ∧ (opLd ⟨b', off' + k * 21, none⟩).run Try.prog w' = .ok (.agg cs'.toArray) w') := Lib.hid (fun w' l => ⟨run_loadVar_mid w' _ _ 35 _ _ (range_below hr l (Nat.le_refl _)) Try.underlying35 rfl HI.out, run_loadVar_mid w' _ _ 35 _ _ (range_below hr' l (Nat.le_refl _)) Try.underlying35 rfl HI'.out⟩)
      have CS : Hid (∀ w', Below wr.heap.size wr w' → Calls Try.prog 13 #[.agg cs.toArray, .agg cs'.toArray] w' fun e w'' => e = .returned (.bool true) ∧ Below w'.heap.size w' w'') := Lib.hid (fun w' l => rs11_yes _ _ _ _ (ho.later l) (ho'.later l))
      have HB := Lib.hid hb
      have hn1 : 1 ≤ os.length := by omega
      clear hr hl ho hr' hl' ho' hb HI HI'
      go_wp2_with fail
      have l := gr_dr (gr_refl wr)
      go_region_held3 (fun w' => (opLd ⟨b, off + k * 21, none⟩).run Try.prog w' = .ok (.agg cs.toArray) w' ∧ (opLd ⟨b', off' + k * 21, none⟩).run Try.prog w' = .ok (.agg cs'.toArray) w')
        (exact BB.out _ l)
        (first | ((try rw [if_pos (by rfl)]); (try go_simp); go_at_call 13; (with_reducible refine (CS.out _ l).mono ?_); rintro e w5 ⟨rfl, hb5⟩; replace l := gr_tr l hb5; clear hb5; (try dsimp only)))
      all_goals
        go_wp2_with fail
        go_roundw
        case rel => exact ⟨k + 1, by omega, by go_num, gr_tr HB.out l⟩
        case measure => simp [intOf]; omega
    have hkn : k = os.length := by omega
    subst hkn
    have HB := Lib.hid hb
    clear hb
    go_wp2_with fail
    go_ret
    exact ⟨rfl, HB.out⟩
end
end Go.Proofs.Ytcbljiiomnhbjaa
