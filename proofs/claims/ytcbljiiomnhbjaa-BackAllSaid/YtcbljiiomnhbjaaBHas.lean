/- Walks of back.has, back.undoes: map literals; slices.Index and Contains at bytes. -/
import Derived.Test.YtcbljiiomnhbjaaSlices
import Derived.Maps.OwnSet
import Derived.Maps.StringElems
import Derived.Laws.IdiomStrings
namespace Go.Proofs.Ytcbljiiomnhbjaa
set_option maxRecDepth 100000
open Go.RowKit Go.Maps

/-- A store of a map literal, at the operation. -/
theorem wpList_insert_own {H : Type} {P : Program} (w : World) {ops : Array Oper} {rest : List Oper} {o : Oper} {a : Act} {Q : Exit → Act → World → Prop}
    (hg : o.guard = none) (m x v : Operand) (t : TypeId) (hop : o.op = Op.insert t m x v)
    (k e : TypeId) (K : Keyed P k) (ht : P.underlying t = some (.map k e)) (R : Value → Option (DataW H × List MemPlace)) (b n : Nat) (D : DataW H)
    (hm : a.eval m = .map (some b)) (hown : w.ownsMap P k R b n D) (hn : n < maxLen) (key val : Value) (kl : Lit) (hx : a.eval x = key) (hv : a.eval v = val) (hkey : keyOf P k key = some kl)
    (d : DataW H) (ps : List MemPlace) (hval : R val = some (d, ps))
    (hK : ∀ w', w'.ownsMap P k R b (n + 1) (D.put kl d) → w.grownBy w' (some b) → wpList P ops Q rest (a.put o.dst undef) w') :
    wpList P ops Q (o :: rest) a w := by
  refine wpList_plain hg fun K' hK' => ?_
  obtain ⟨w', hrun, r1, r2⟩ := hown.update K ht hn hkey hval
  unfold Oper.wp
  simp [execOp, hop, hm, hx, hv, hrun, Result.andThen]
  exact hK' _ _ (hK w' r1 r2)

/-- What a kind has: its letters. -/
def hasS : Int → List UInt8
  | 1 => [112, 110] | 2 => [112, 110] | 3 => [112, 97, 111] | 4 => [112, 97, 119] | 5 => [112, 116] | 6 => [112, 111, 119] | 7 => [112, 97, 120] | 8 => [112, 97, 120] | 9 => [115] | _ => []
def hasD : DataW Unit := (((((((((DataW.map []).put (.int .i64 1) (.lit (.string [112, 110]))).put (.int .i64 2) (.lit (.string [112, 110]))).put (.int .i64 3) (.lit (.string [112, 97, 111]))).put (.int .i64 4) (.lit (.string [112, 97, 119]))).put (.int .i64 5) (.lit (.string [112, 116]))).put (.int .i64 6) (.lit (.string [112, 111, 119]))).put (.int .i64 7) (.lit (.string [112, 97, 120]))).put (.int .i64 8) (.lit (.string [112, 97, 120]))).put (.int .i64 9) (.lit (.string [115]))

set_option maxHeartbeats 1000000 in
theorem has_any (w : World) : Calls Try.prog 36 #[] w fun e w' => e = .returned (.map (some w.heap.size)) ∧ w'.ownsMap Try.prog 3 (plainElem (H := Unit) Try.prog 9) w.heap.size 9 hasD ∧ Below w.heap.size w w' := by
  have hmm := @run_makeMap Try.prog
  go_enter Try.func36, Try.ntmps36
  have hown := World.ownsMap_made w Try.prog 3 (plainElem (H := Unit) Try.prog 9)
  have hb : Below w.heap.size w (w.alloc (.map #[] 0)) := (Below.refl _ _).alloc (Nat.le_refl _) _
  go_wp2_with (refine wpList_insert_own _ rfl _ _ _ 67 rfl 3 9 (int_keyed Try.underlying3) Try.underlying67 _ _ _ _ rfl hown (by unfold maxLen; omega) _ _ _ rfl rfl (keyOf_int_mk Try.underlying3 (by decide)) _ [] (plainElem_string Try.underlying9 (by unfold maxLen; decide)) ?_; clear hown; intro w1 hown hgr; replace hb := hb.grown hgr hb.size (fun j hj => by cases hj; exact Nat.le_refl _); clear hgr)
  go_ret
  exact ⟨rfl, hown, hb⟩
theorem hasD_at (k : Int) : hasD.atKey (.int .i64 k) (.lit (.string [])) = .lit (.string (hasS k)) ∧ Maps.has hasD (.int .i64 k) = decide (1 ≤ k ∧ k ≤ 9) := by
  by_cases h : 1 ≤ k ∧ k ≤ 9
  · have : k = 1 ∨ k = 2 ∨ k = 3 ∨ k = 4 ∨ k = 5 ∨ k = 6 ∨ k = 7 ∨ k = 8 ∨ k = 9 := by omega
    rcases this with rfl | rfl | rfl | rfl | rfl | rfl | rfl | rfl | rfl <;> exact ⟨rfl, rfl⟩
  · have hs : hasS k = [] := by
      unfold hasS
      split <;> first | omega | rfl
    have ne : ∀ j : Int, 1 ≤ j ∧ j ≤ 9 → Lit.int .i64 k ≠ Lit.int .i64 j := fun j hj he => by
      simp only [Lit.int.injEq, true_and] at he
      omega
    rw [hs, decide_eq_false h]
    unfold hasD
    constructor
    · rw [atKey_put_other (ne 9 (by decide)), atKey_put_other (ne 8 (by decide)), atKey_put_other (ne 7 (by decide)), atKey_put_other (ne 6 (by decide)), atKey_put_other (ne 5 (by decide)), atKey_put_other (ne 4 (by decide)), atKey_put_other (ne 3 (by decide)), atKey_put_other (ne 2 (by decide)), atKey_put_other (ne 1 (by decide))]
      rfl
    · rw [has_put_other (ne 9 (by decide)), has_put_other (ne 8 (by decide)), has_put_other (ne 7 (by decide)), has_put_other (ne 6 (by decide)), has_put_other (ne 5 (by decide)), has_put_other (ne 4 (by decide)), has_put_other (ne 3 (by decide)), has_put_other (ne 2 (by decide)), has_put_other (ne 1 (by decide))]
      rfl
theorem zeroS (w : World) : (zeroValue 9).run Try.prog w = .ok (.string ⟨#[]⟩) w := by kernel_rfl
/-- The look-up of a kind. -/
theorem look_has {w : World} {b : Nat} (h : w.ownsMap Try.prog 3 (plainElem (H := Unit) Try.prog 9) b 9 hasD) {k : Int} (hk : -9223372036854775808 ≤ k ∧ k ≤ 9223372036854775807) :
    (Instr.lookup 67 (.map (some b)) (.int .i64 k) true).run Try.prog w = .ok (.tuple #[.string ⟨(hasS k).toArray⟩, .bool (decide (1 ≤ k ∧ k ≤ 9))]) w := by
  obtain ⟨v, ps, hrun, hv⟩ := h.look_ok (int_keyed Try.underlying3) Try.underlying67 (zeroS w) (plainElem_string Try.underlying9 (by unfold maxLen; decide)) (keyOf_int_mk Try.underlying3 (a := k) (WalkArith.wf_i64 hk))
  obtain ⟨s, rfl, hs, -⟩ := plainElem_string_inv Try.underlying9 hv
  simp only [Prod.mk.injEq] at hs
  have h1 := (hasD_at k).1.symm.trans hs.1
  simp only [DataW.lit.injEq, Lit.string.injEq] at h1
  rw [hrun, (hasD_at k).2, h1]

/-- Which kind undoes a kind. -/
def unK : Int → Int
  | 1 => 2 | 2 => 1 | 3 => 4 | 4 => 3 | 5 => 5 | 6 => 6 | 7 => 8 | 8 => 7 | 9 => 9 | _ => 0
def unD : DataW Unit := (((((((((DataW.map []).put (.int .i64 1) (.lit (.int .i64 2))).put (.int .i64 2) (.lit (.int .i64 1))).put (.int .i64 3) (.lit (.int .i64 4))).put (.int .i64 4) (.lit (.int .i64 3))).put (.int .i64 7) (.lit (.int .i64 8))).put (.int .i64 8) (.lit (.int .i64 7))).put (.int .i64 5) (.lit (.int .i64 5))).put (.int .i64 6) (.lit (.int .i64 6))).put (.int .i64 9) (.lit (.int .i64 9))

set_option maxHeartbeats 1000000 in
theorem undoes_any (w : World) : Calls Try.prog 27 #[] w fun e w' => e = .returned (.map (some w.heap.size)) ∧ w'.ownsMap Try.prog 3 (plainElem (H := Unit) Try.prog 3) w.heap.size 9 unD ∧ Below w.heap.size w w' := by
  have hmm := @run_makeMap Try.prog
  go_enter Try.func27, Try.ntmps27
  have hown := World.ownsMap_made w Try.prog 3 (plainElem (H := Unit) Try.prog 3)
  have hb : Below w.heap.size w (w.alloc (.map #[] 0)) := (Below.refl _ _).alloc (Nat.le_refl _) _
  go_wp2_with (refine wpList_insert_own _ rfl _ _ _ 59 rfl 3 3 (int_keyed Try.underlying3) Try.underlying59 _ _ _ _ rfl hown (by unfold maxLen; omega) _ _ _ rfl rfl (keyOf_int_mk Try.underlying3 (by decide)) _ [] (plainElem_int Try.underlying3 (by decide)) ?_; clear hown; intro w1 hown hgr; replace hb := hb.grown hgr hb.size (fun j hj => by cases hj; exact Nat.le_refl _); clear hgr)
  go_ret
  exact ⟨rfl, hown, hb⟩
theorem zeroI (w : World) : (zeroValue 3).run Try.prog w = .ok (.int .i64 0) w := by kernel_rfl
theorem look_un {w : World} {b : Nat} (h : w.ownsMap Try.prog 3 (plainElem (H := Unit) Try.prog 3) b 9 unD) {k : Int} (hk : 1 ≤ k ∧ k ≤ 9) :
    (Instr.lookup 59 (.map (some b)) (.int .i64 k) false).run Try.prog w = .ok (.int .i64 (unK k)) w := by
  obtain ⟨c, hrun, hat, -⟩ := h.lookup_int (int_keyed Try.underlying3) Try.underlying59 Try.underlying3 (zeroI w) (keyOf_int_mk Try.underlying3 (a := k) (WalkArith.wf_i64 (by omega)))
  have h1 : unD.atKey (.int .i64 k) (.lit (.int .i64 0)) = .lit (.int .i64 (unK k)) := by
    have : k = 1 ∨ k = 2 ∨ k = 3 ∨ k = 4 ∨ k = 5 ∨ k = 6 ∨ k = 7 ∨ k = 8 ∨ k = 9 := by omega
    rcases this with rfl | rfl | rfl | rfl | rfl | rfl | rfl | rfl | rfl <;> rfl
  rw [h1] at hat
  simp only [DataW.lit.injEq, Lit.int.injEq, true_and] at hat
  rw [hrun, hat]

/-- A slice of bytes. -/
def ByV (w : World) (v : Value) (l : List UInt8) : Prop := ∃ b cap, v = .slice (some ⟨b, 0, none⟩) l.length cap ∧ l.length * 16 ≤ 140737488351232 ∧ ∀ j (hj : j < l.length), w.cell? ⟨b, j, none⟩ = some (.int .u8 (l[j].toNat : Int))
theorem ByV.later {B : Nat} {w w' : World} {v : Value} {l : List UInt8} (h : ByV w v l) (hb : Below B w w') (hB : w.heap.size ≤ B) : ByV w' v l := by
  obtain ⟨b, cap, h1, h2, h3⟩ := h
  exact ⟨b, cap, h1, h2, fun j hj => (hb.cell (p := ⟨b, j, none⟩) (Nat.lt_of_lt_of_le (World.block_lt_of_cell? w _ (h3 j hj)) hB)).trans (h3 j hj)⟩
theorem byv_new (w : World) (l : List UInt8) (cap : Nat) (ty : TypeId) (fr : Nat × Nat) (hl : l.length * 16 ≤ 140737488351232) : ByV (w.drew.alloc (.cells (bytesRow ⟨l.toArray⟩ cap) ty fr)) (.slice (some ⟨w.heap.size, 0, none⟩) l.length cap) l :=
  ⟨_, _, rfl, hl, fun j hj => by
    have := World.cell?_alloc_mark w.drew (bytesRow ⟨l.toArray⟩ cap) ty fr j
    have hd : w.drew.heap.size = w.heap.size := rfl
    rw [hd] at this
    rw [this, bytesRow_at _ _ _ (by simpa using hj)]
    simp⟩

set_option maxHeartbeats 400000 in
theorem bindex_any (l : List UInt8) (x : UInt8) (v : Value) (w : World) (h : ByV w v l) :
    Calls Try.prog 59 #[v, .int .u8 (x.toNat : Int)] w fun e w' => (∃ r : Int, e = .returned (.int .i64 r) ∧ (0 ≤ r ↔ x ∈ l)) ∧ w = w' := by
  obtain ⟨b, cap, rfl, hl, hc⟩ := h
  have HC := Lib.hid hc
  clear hc
  go_enter Try.func59, Try.ntmps59
  go_wp2
  go_loop [8] (fun i => ∃ k : Nat, k ≤ l.length ∧ i = .int .i64 k ∧ ∀ j (hj : j < l.length), j < k → l[j] ≠ x) (fun i => l.length - (intOf i).toNat)
  case atStart => exact ⟨0, Nat.zero_le _, rfl, fun j hj h => by omega⟩
  case round =>
    obtain ⟨k, hk, rfl, hne⟩ := hrel
    have HNE := Lib.hid hne
    clear hne
    by_cases hlt : k < l.length
    · have d0 := HC.out k hlt
      have hlt' : (k : Int) < (l.length : Int) := by omega
      by_cases hx : x = l[k]
      · have q : ((x.toNat : Int) == (l[k].toNat : Int)) = true := by rw [← hx]; simp
        have HX := Lib.hid hx
        clear hx
        go_wp2
        go_ret
        exact ⟨⟨(k : Int), rfl, fun _ => by rw [HX.out]; exact List.getElem_mem _, fun _ => by omega⟩, rfl⟩
      · have q : ((x.toNat : Int) == (l[k].toNat : Int)) = false := by
          rw [beq_eq_false_iff_ne]
          intro h
          exact hx (UInt8.toNat_inj.1 (by omega))
        have HX := Lib.hid hx
        clear hx
        go_wp2
        go_round
        case rel => exact ⟨k + 1, by omega, by go_num, fun j hj hjk => by
          by_cases e : j = k
          · subst e; exact fun h => HX.out h.symm
          · exact HNE.out j hj (by omega)⟩
        case measure => simp [intOf]; omega
    · have hkn : k = l.length := by omega
      have hnl : ¬ (k : Int) < (l.length : Int) := by omega
      subst hkn
      go_wp2
      go_ret
      refine ⟨⟨-1, rfl, fun h => by omega, fun hm => ?_⟩, rfl⟩
      exfalso
      obtain ⟨j, hj, he⟩ := List.getElem_of_mem hm
      exact HNE.out j hj hj he
theorem bcontains_any (l : List UInt8) (x : UInt8) (v : Value) (w : World) (h : ByV w v l) :
    Calls Try.prog 38 #[v, .int .u8 (x.toNat : Int)] w fun e w' => e = .returned (.bool (l.contains x)) ∧ w = w' := by
  have HC := Lib.hid (bindex_any l x v w h)
  obtain ⟨b, cap, rfl, _, _⟩ := h
  go_enter Try.func38, Try.ntmps38
  go_wp2_with fail
  refine HC.out.mono ?_
  rintro e w' ⟨⟨r, rfl, hr⟩, rfl⟩
  have HR := Lib.hid hr
  clear hr
  go_wp2
  go_ret
  exact ⟨ret_bool (by rw [List.contains_eq_mem]; exact decide_eq_decide.2 HR.out), rfl⟩
end Go.Proofs.Ytcbljiiomnhbjaa
