/- Walks of Go's slices.Clone at []int. -/
import Derived.Test.YtcbljiiomnhbjaaSlices
import Derived.Lib.SliceRun
namespace Go.Proofs.Ytcbljiiomnhbjaa
set_option maxRecDepth 100000
open Go.RowKit

theorem info_int : (Try.prog.info? 3).map (fun i => (i.zero, i.size, i.bytes)) = some (some (.int .i64 0), 1, 8) := by kernel_rfl

/-- The slice value v owns, at the head of a row in a block from B on, the integers xs. -/
def Own (w : World) (B : Nat) (v : Value) (xs : List Int) : Prop :=
  w.ownsRow B 3 1 v xs.length (xs.map (.int .i64)) ∧ xs.length * 8 ≤ 140737488351232

theorem Own.ints {w : World} {B : Nat} {v : Value} {xs : List Int} (h : Own w B v xs) : Ints w v xs := by
  obtain ⟨⟨hl, h⟩, hb⟩ := h
  rcases h with ⟨rfl, h0⟩ | ⟨g, cap, cur, rfl, _, hg, hn, hm, hs, ht⟩
  · have : xs = [] := List.eq_nil_of_length_eq_zero h0
    subst this
    exact ⟨none, 0, rfl, Nat.le_refl _, by simp [maxLen], by simp, (fun h => by omega)⟩
  · refine ⟨_, cap, rfl, hn, hm, hb, fun hp => ?_⟩
    refine ⟨g, 0, rfl, fun j hj => ?_⟩
    rw [cell_of_row w g (0 + j) cur _ (0, 0) hg]
    have : (cur.toList.take (xs.length * 1))[j]? = (xs.map (Value.int .i64))[j]? := by rw [ht]
    rw [List.getElem?_take, if_pos (by omega)] at this
    simpa [hj] using this

theorem Own.nil (w : World) (B : Nat) : Own w B (.slice none 0 0) [] := ⟨World.ownsRow_nil _ _ _ _, by simp⟩

set_option maxHeartbeats 400000 in
theorem clone_ints (xs : List Int) (v : Value) (w : World) (h : Ints w v xs) :
    Calls Try.prog 46 #[v] w fun e w' => ∃ v', e = .returned v' ∧ Own w' w.heap.size v' xs ∧ Below w.heap.size w w' := by
  obtain ⟨a, cap, rfl, l1, hm, b1, o1⟩ := h
  have q22 : ∀ (w : World) (a : Option Addr) (n c n' c' : Nat), (binOp .eql 22 (.slice a n c) (.slice none n' c')).run Try.prog w = .ok (.bool a.isNone) w := fun w a n c n' c' => Lib.run_eql_slice_nil w _ _ a n c n' c' Try.underlying22
  cases a with
  | none =>
    have h0 : cap = 0 := by
      rcases Nat.eq_zero_or_pos cap with h | h
      · exact h
      · obtain ⟨b, off, hbo, _⟩ := o1 h
        cases hbo
    subst h0
    have : xs = [] := List.eq_nil_of_length_eq_zero (by omega)
    subst this
    clear o1 b1 l1
    go_enter Try.func46, Try.ntmps46
    go_wp2
    go_ret
    exact ⟨_, rfl, Own.nil _ _, Below.refl _ _⟩
  | some ad =>
    have hc : ∀ j, j < xs.length → w.cell? (ad.add j) = some (.int .i64 (xs.getD j 0)) := by
      intro j hj
      obtain ⟨b, off, hbo, hc⟩ := o1 (by omega)
      obtain rfl := Option.some.inj hbo
      rw [Addr.add_lit]
      exact hc j hj
    clear o1
    obtain ⟨i0, hi, hz0, hz1, hz2⟩ := info_parts info_int
    have HC := Lib.hid hc
    have HB := Lib.hid b1
    clear hc b1
    go_enter Try.func46, Try.ntmps46
    go_wp2_with (at_builtin; refine wpList_append_own _ rfl _ _ 22 rfl w.heap.size 3 i0 (.int .i64 0) 1 8 Try.underlying22 hi hz0 hz1 hz2 rfl (by decide) _ _ _ rfl (World.ownsRow_made w #[] 0 (Nat.le_refl _) (Nat.zero_le _) rfl) ad xs.length cap (xs.map (Value.int .i64)) rfl ?qc1 ?qc2 ?qc3 ?qc4 ?qc5 ?qc6 ?_)
    case qc1 => simp
    case qc2 =>
      intro j u hj
      have hjn : j < xs.length := by simpa using (List.getElem?_eq_some_iff.1 hj).1
      refine Lib.cell?_alloc_some _ ?_
      rw [HC.out j hjn]
      simpa [hjn] using hj
    case qc3 => intro u hu; obtain ⟨x, _, rfl⟩ := List.mem_map.1 hu; rfl
    case qc4 => have := HB.out; unfold maxLen; omega
    case qc5 => have := HB.out; omega
    case qc6 => simp
    intro v' w1 hown hgrow hnil
    go_wp2
    go_ret
    refine ⟨v', rfl, ⟨by simpa using hown, HB.out⟩, ?_⟩
    exact ((Below.refl _ w).alloc (Nat.le_refl _) _).grown hgrow (by simp) (by intro k hk; simp [Value.ownBlock] at hk; omega)
end Go.Proofs.Ytcbljiiomnhbjaa
