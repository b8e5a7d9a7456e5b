/- The walk of the law TrailBack. -/
import Derived.Test.YtkalomdbbgeemaaLawLevels
import Derived.Test.YtkalomdbbgeemaaPlain3
namespace Go.Proofs.Ytkalomdbbgeemaa
open Go.RowKit

/-- A literal slice of one slice of ints. -/
theorem lit_one (w : World) (g : Nat) (v1 : Value) (xs : List Int) (hg : w.heap.size = g) (h1 : Ints w v1 xs) :
    IntsL (w.alloc (.cells #[v1] 22)) (.slice (some ⟨g, 0, none⟩) 1 1) [xs] := by
  subst hg
  refine ⟨_, 1, [v1], rfl, Nat.le_refl _, by unfold maxLen; omega, rfl, by simp, fun _ => ⟨w.heap.size, 0, rfl, fun j hj => ?_⟩, fun j hj => ?_⟩
  · rw [cell_of_row _ w.heap.size (0 + j) _ _ (0, 0) (heap_alloc_new w _)]
    match j, hj with
    | 0, _ => rfl
  · match j, hj with
    | 0, _ => exact h1.alloc _

theorem nextL_len {xs : List Int} (h : 0 < xs.length) (hm : lastI xs ≠ maxI) : nextL xs = xs.set (xs.length - 1) (lastI xs + 1) := by
  rw [nextL, if_neg (by omega), if_neg hm]
theorem next_last {xs : List Int} (h : 0 < xs.length) (x : Int) : lastI (xs.set (xs.length - 1) x) = x := by
  simp [lastI, show xs.length - 1 < xs.length by omega]
theorem next_parent (xs : List Int) (x : Int) : parentL (xs.set (xs.length - 1) x) = parentL xs := by
  simp only [parentL, List.length_set]
  rw [List.take_set_of_le (Nat.le_refl _)]
theorem next_left {xs : List Int} (h : 0 < xs.length) {x : Int} (hx : lastI xs < x) : leftB xs (xs.set (xs.length - 1) x) = true := by
  rw [leftB_iff]
  refine ⟨xs.length - 1, by omega, by simp; omega, fun j hj => ?_, ?_⟩
  · simp [List.getD, show ¬ xs.length - 1 = j by omega]
  · simpa [lastI, List.getD, List.getElem?_set, show xs.length - 1 < xs.length by omega] using hx
theorem set_back {xs : List Int} (x : Int) : (xs.set (xs.length - 1) x).set (xs.length - 1) (lastI xs) = xs := by
  rw [List.set_set]
  apply List.ext_getElem (by simp)
  intro i h1 h2
  rw [List.getElem_set]
  split
  · rename_i he
    subst he
    simp [lastI, h2]
  · rfl
theorem I64.set {xs : List Int} (h : I64 xs) (i : Nat) {x : Int} (hx : -9223372036854775808 ≤ x ∧ x ≤ 9223372036854775807) : I64 (xs.set i x) := by
  intro y hy
  rcases List.mem_or_eq_of_mem_set hy with h1 | h1
  · exact h y h1
  · rw [h1]; exact hx

set_option maxHeartbeats 4000000 in
theorem law_back (xs : List Int) (v : Value) (w : World) (h : Ints w v xs) (h64 : I64 xs) :
    Calls Try.prog 6 #[v] w (True_ w) := by
  obtain ⟨a1, c1, rfl⟩ := h.slice
  have b1 := h.len
  cases hs : shortB 100 [xs]
  · have HS := Lib.hid hs
    clear hs
    go_enter Try.func6, Try.ntmps6
    go_wp2_with fail
    refine (live_any _).mono ?_
    rintro e w1 ⟨rfl, hb1⟩
    go_wp2_with fail
    refine (short_any [xs] _ _ (lit_one w1 _ _ xs rfl (h.below hb1 (Nat.le_refl _)))).mono ?_
    rintro e w2 ⟨rfl, hw2⟩
    rw [HS.out]
    have hb2 := gr_al hb1 (.cells #[.slice a1 xs.length c1] 22)
    rw [hw2] at hb2
    clear hw2
    go_wp2
    go_ret
    exact ⟨rfl, hb2⟩
  · have HS := Lib.hid hs
    clear hs
    by_cases h0 : xs.length = 0
    · have q : (((xs.length : Nat) : Int) == 0) = true := by simp [h0]
      have hx : xs = [] := List.eq_nil_of_length_eq_zero h0
      have HP : Hid (parentL xs = [] ∧ parentE xs = 6) := by show _ ∧ _; rw [hx]; exact ⟨rfl, rfl⟩
      have HN : Hid (nextL xs = [] ∧ nextE xs = 6) := by show _ ∧ _; rw [hx]; exact ⟨rfl, rfl⟩
      clear hx h0
      go_enter Try.func6, Try.ntmps6
      go_wp2_with fail
      refine (live_any _).mono ?_
      rintro e w1 ⟨rfl, hb1⟩
      go_wp2_with fail
      refine (short_any [xs] _ _ (lit_one w1 _ _ xs rfl (h.below hb1 (Nat.le_refl _)))).mono ?_
      rintro e w2 ⟨rfl, hw2⟩
      rw [HS.out]
      have hb := gr_al hb1 (.cells #[.slice a1 xs.length c1] 22)
      rw [hw2] at hb
      clear hw2 hb1
      go_wp2_with fail
      refine (parent_any xs _ _ (h.below hb (Nat.le_refl _))).mono ?_
      rintro e w3 ⟨v3, rfl, ho3, hb3⟩
      rw [HP.out.1] at ho3
      rw [HP.out.2]
      obtain ⟨a3, c3, rfl⟩ := ho3.ints.slice_len (n := 0) rfl
      replace hb := gr_tr hb hb3
      clear ho3 hb3
      go_wp2_with fail
      refine (next_any xs _ _ (h.below hb (Nat.le_refl _)) h64).mono ?_
      rintro e w4 ⟨v4, rfl, ho4, hb4⟩
      rw [HN.out.1] at ho4
      rw [HN.out.2]
      obtain ⟨a4, c4, rfl⟩ := ho4.ints.slice_len (n := 0) rfl
      replace hb := gr_tr hb hb4
      clear ho4 hb4
      go_wp2
      go_ret
      exact ⟨rfl, hb⟩
    · have hp : 0 < xs.length := by omega
      have q : (((xs.length : Nat) : Int) == 0) = false := by rw [beq_eq_false_iff_ne]; omega
      have HP : Hid (parentE xs = 0) := by show _ = _; rw [parentE, if_neg h0]
      have hpl : Hid ((parentL xs).length = xs.length - 1) := by show _ = _; simp [parentL]
      have qa : aboveB (parentL xs) xs = true := above_take (by omega)
      have qw : (((xs.length - 1 : Nat) : Int) != (xs.length : Int) - 1) = false := by rw [bne_eq_false_iff_eq]; omega
      obtain ⟨m1, m2⟩ := h64.last hp
      have NL := Lib.hid h0
      clear h0
      by_cases hm : lastI xs = maxI
      · have HN : Hid (nextL xs = [] ∧ nextE xs = 8) := by show _ ∧ _; rw [nextL, nextE, if_neg NL.out, if_neg NL.out, if_pos hm, if_pos hm]; exact ⟨rfl, rfl⟩
        have q2 : (lastI xs == 9223372036854775807) = true := by rw [beq_iff_eq]; exact hm
        clear hm m1 m2
        go_enter Try.func6, Try.ntmps6
        go_wp2_with fail
        refine (live_any _).mono ?_
        rintro e w1 ⟨rfl, hb1⟩
        go_wp2_with fail
        refine (short_any [xs] _ _ (lit_one w1 _ _ xs rfl (h.below hb1 (Nat.le_refl _)))).mono ?_
        rintro e w2 ⟨rfl, hw2⟩
        rw [HS.out]
        have hb := gr_al hb1 (.cells #[.slice a1 xs.length c1] 22)
        rw [hw2] at hb
        clear hw2 hb1
        go_wp2_with fail
        refine (parent_any xs _ _ (h.below hb (Nat.le_refl _))).mono ?_
        rintro e w3 ⟨v3, rfl, ho3, hb3⟩
        rw [HP.out]
        obtain ⟨a3, c3, rfl⟩ := ho3.ints.slice_len (n := xs.length - 1) hpl.out
        replace hb := gr_tr hb hb3
        clear hb3
        go_wp2_with fail
        refine (next_any xs _ _ (h.below hb (Nat.le_refl _)) h64).mono ?_
        rintro e w4 ⟨v4, rfl, ho4, hb4⟩
        rw [HN.out.1] at ho4
        rw [HN.out.2]
        obtain ⟨a4, c4, rfl⟩ := ho4.ints.slice_len (n := 0) rfl
        have g3 := ho3.ints.below hb4 (Nat.le_refl _)
        replace hb := gr_tr hb hb4
        clear ho3 ho4 hb4
        go_wp2_with fail
        refine (above_any _ _ _ _ _ g3 (h.below hb (Nat.le_refl _))).mono ?_
        rintro e w5 ⟨rfl, hs5⟩
        replace hb := gr_sm hb hs5
        obtain ⟨a', c', hv', _, _, o1⟩ := (h.below hb (Nat.le_refl _)).open_
        simp only [Value.slice.injEq] at hv'
        obtain ⟨rfl, hx, rfl⟩ := hv'
        clear hx
        obtain ⟨b, off, rfl, hc⟩ := o1 hp
        have hcell : w5.cell? ⟨b, off + (xs.length - 1), none⟩ = some (.int .i64 (lastI xs)) := hc _ (by omega)
        clear hc o1
        go_wp2
        go_ret
        exact ⟨rfl, hb⟩
      · have hm' : lastI xs ≠ 9223372036854775807 := hm
        obtain ⟨ns, hns⟩ : ∃ ns, nextL xs = ns := ⟨_, rfl⟩
        have hns2 : ns = xs.set (xs.length - 1) (lastI xs + 1) := by rw [← hns]; exact nextL_len hp hm
        have HN : Hid (nextL xs = ns ∧ nextE xs = 0) := by show _ ∧ _; exact ⟨hns, by rw [nextE, if_neg NL.out, if_neg hm]⟩
        have hnl : Hid (ns.length = xs.length) := by show _ = _; rw [hns2]; simp
        have hnp : Hid (0 < ns.length) := by show _ < _; rw [hnl.out]; exact hp
        have HPN : Hid (parentL ns = parentL xs ∧ parentE ns = 0) := by show _ ∧ _; exact ⟨by rw [hns2]; exact next_parent xs _, by rw [parentE, if_neg (by have := hnp.out; omega)]⟩
        have ql : leftB xs ns = true := by rw [hns2]; exact next_left hp (by omega)
        have hn64 : Hid (I64 ns) := by show I64 ns; rw [hns2]; exact h64.set _ (by omega)
        have qs : decide (parentL xs = parentL xs) = true := by simp
        have hlast : lastI ns = lastI xs + 1 := by rw [hns2]; exact next_last hp _
        by_cases hneg : lastI xs < 0
        · have HB : Hid (backL ns = [] ∧ backE ns = 8) := by
            show _ ∧ _
            have n0 : ¬ ns.length = 0 := by have := hnp.out; omega
            have n1 : lastI ns ≤ 0 := by omega
            rw [backL, backE, if_neg n0, if_neg n0, if_pos n1, if_pos n1]
            exact ⟨rfl, rfl⟩
          have qn : decide (lastI xs < 0) = true := by simpa using hneg
          clear hm' hns hns2 hm hlast m1 m2 hneg
          go_enter Try.func6, Try.ntmps6
          go_wp2_with fail
          refine (live_any _).mono ?_
          rintro e w1 ⟨rfl, hb1⟩
          go_wp2_with fail
          refine (short_any [xs] _ _ (lit_one w1 _ _ xs rfl (h.below hb1 (Nat.le_refl _)))).mono ?_
          rintro e w2 ⟨rfl, hw2⟩
          rw [HS.out]
          have hb := gr_al hb1 (.cells #[.slice a1 xs.length c1] 22)
          rw [hw2] at hb
          clear hw2 hb1
          go_wp2_with fail
          refine (parent_any xs _ _ (h.below hb (Nat.le_refl _))).mono ?_
          rintro e w3 ⟨v3, rfl, ho3, hb3⟩
          rw [HP.out]
          obtain ⟨a3, c3, rfl⟩ := ho3.ints.slice_len (n := xs.length - 1) hpl.out
          replace hb := gr_tr hb hb3
          clear hb3
          go_wp2_with fail
          refine (next_any xs _ _ (h.below hb (Nat.le_refl _)) h64).mono ?_
          rintro e w4 ⟨v4, rfl, ho4, hb4⟩
          rw [HN.out.1] at ho4
          obtain ⟨a4, c4, rfl⟩ := ho4.ints.slice_len (n := xs.length) hnl.out
          rw [HN.out.2]
          have g3 := ho3.ints.below hb4 (Nat.le_refl _)
          have g4 := ho4.ints
          replace hb := gr_tr hb hb4
          clear ho3 ho4 hb4
          go_wp2_with fail
          refine (above_any _ _ _ _ _ g3 (h.below hb (Nat.le_refl _))).mono ?_
          rintro e w5 ⟨rfl, hs5⟩
          replace hb := gr_sm hb hs5
          replace g3 := g3.same hs5
          replace g4 := g4.same hs5
          clear hs5
          go_wp2_with fail
          refine (parent_any _ _ _ g4).mono ?_
          rintro e w6 ⟨v6, rfl, ho6, hb6⟩
          rw [HPN.out.1] at ho6
          rw [HPN.out.2]
          have g6 := ho6.ints
          obtain ⟨a6, n6, c6, rfl⟩ := g6.slice3
          replace g3 := g3.below hb6 (Nat.le_refl _)
          replace g4 := g4.below hb6 (Nat.le_refl _)
          replace hb := gr_tr hb hb6
          clear ho6 hb6
          go_wp2_with fail
          refine (same_any _ _ _ _ _ g6 g3).mono ?_
          rintro e w7 ⟨rfl, hs7⟩
          replace hb := gr_sm hb hs7
          replace g4 := g4.same hs7
          clear hs7
          go_wp2_with fail
          refine (left_any _ _ _ _ _ (h.below hb (Nat.le_refl _)) g4).mono ?_
          rintro e w8 ⟨rfl, hs8⟩
          replace hb := gr_sm hb hs8
          replace g4 := g4.same hs8
          clear hs8
          go_wp2_with fail
          refine (back_any _ _ _ g4 hn64.out).mono ?_
          rintro e w9 ⟨v9, rfl, ho9, hb9⟩
          rw [HB.out.1] at ho9
          rw [HB.out.2]
          have g9 := ho9.ints
          obtain ⟨a9, n9, c9, rfl⟩ := g9.slice3
          replace hb := gr_tr hb hb9
          clear ho9 hb9
          obtain ⟨a', c', hv', _, _, o1⟩ := (h.below hb (Nat.le_refl _)).open_
          simp only [Value.slice.injEq] at hv'
          obtain ⟨rfl, hx, rfl⟩ := hv'
          clear hx
          obtain ⟨b, off, rfl, hc⟩ := o1 hp
          have hcell : w9.cell? ⟨b, off + (xs.length - 1), none⟩ = some (.int .i64 (lastI xs)) := hc _ (by omega)
          clear hc o1
          go_wp2
          go_ret
          exact ⟨rfl, hb⟩
        · have HB : Hid (backL ns = xs ∧ backE ns = 0) := by
            show _ ∧ _
            have n0 : ¬ ns.length = 0 := by have := hnp.out; omega
            have n1 : ¬ lastI ns ≤ 0 := by omega
            have hl := hnl.out
            rw [backL, backE, if_neg n0, if_neg n0, if_neg n1, if_neg n1, hlast, hl]
            refine ⟨?_, rfl⟩
            rw [hns2, show lastI xs + 1 - 1 = lastI xs by omega]
            exact set_back _
          have qx : decide (xs = xs) = true := by simp
          clear hm' hns hns2 hm hlast m1 m2 hneg
          go_enter Try.func6, Try.ntmps6
          go_wp2_with fail
          refine (live_any _).mono ?_
          rintro e w1 ⟨rfl, hb1⟩
          go_wp2_with fail
          refine (short_any [xs] _ _ (lit_one w1 _ _ xs rfl (h.below hb1 (Nat.le_refl _)))).mono ?_
          rintro e w2 ⟨rfl, hw2⟩
          rw [HS.out]
          have hb := gr_al hb1 (.cells #[.slice a1 xs.length c1] 22)
          rw [hw2] at hb
          clear hw2 hb1
          go_wp2_with fail
          refine (parent_any xs _ _ (h.below hb (Nat.le_refl _))).mono ?_
          rintro e w3 ⟨v3, rfl, ho3, hb3⟩
          rw [HP.out]
          obtain ⟨a3, c3, rfl⟩ := ho3.ints.slice_len (n := xs.length - 1) hpl.out
          replace hb := gr_tr hb hb3
          clear hb3
          go_wp2_with fail
          refine (next_any xs _ _ (h.below hb (Nat.le_refl _)) h64).mono ?_
          rintro e w4 ⟨v4, rfl, ho4, hb4⟩
          rw [HN.out.1] at ho4
          obtain ⟨a4, c4, rfl⟩ := ho4.ints.slice_len (n := xs.length) hnl.out
          rw [HN.out.2]
          have g3 := ho3.ints.below hb4 (Nat.le_refl _)
          have g4 := ho4.ints
          replace hb := gr_tr hb hb4
          clear ho3 ho4 hb4
          go_wp2_with fail
          refine (above_any _ _ _ _ _ g3 (h.below hb (Nat.le_refl _))).mono ?_
          rintro e w5 ⟨rfl, hs5⟩
          replace hb := gr_sm hb hs5
          replace g3 := g3.same hs5
          replace g4 := g4.same hs5
          clear hs5
          go_wp2_with fail
          refine (parent_any _ _ _ g4).mono ?_
          rintro e w6 ⟨v6, rfl, ho6, hb6⟩
          rw [HPN.out.1] at ho6
          rw [HPN.out.2]
          have g6 := ho6.ints
          obtain ⟨a6, n6, c6, rfl⟩ := g6.slice3
          replace g3 := g3.below hb6 (Nat.le_refl _)
          replace g4 := g4.below hb6 (Nat.le_refl _)
          replace hb := gr_tr hb hb6
          clear ho6 hb6
          go_wp2_with fail
          refine (same_any _ _ _ _ _ g6 g3).mono ?_
          rintro e w7 ⟨rfl, hs7⟩
          replace hb := gr_sm hb hs7
          replace g4 := g4.same hs7
          clear hs7
          go_wp2_with fail
          refine (left_any _ _ _ _ _ (h.below hb (Nat.le_refl _)) g4).mono ?_
          rintro e w8 ⟨rfl, hs8⟩
          replace hb := gr_sm hb hs8
          replace g4 := g4.same hs8
          clear hs8
          go_wp2_with fail
          refine (back_any _ _ _ g4 hn64.out).mono ?_
          rintro e w9 ⟨v9, rfl, ho9, hb9⟩
          rw [HB.out.1] at ho9
          rw [HB.out.2]
          have g9 := ho9.ints
          obtain ⟨a9, n9, c9, rfl⟩ := g9.slice3
          replace hb := gr_tr hb hb9
          clear ho9 hb9
          go_wp2_with fail
          refine (same_any _ _ _ _ _ g9 (h.below hb (Nat.le_refl _))).mono ?_
          rintro e w10 ⟨rfl, hs10⟩
          replace hb := gr_sm hb hs10
          go_wp2
          go_ret
          exact ⟨rfl, hb⟩

theorem law_back' (xs : List Int) (v : Value) (w : World) (h : Ints w v xs ∧ I64 xs) :
    Calls Try.prog 6 #[v] w (True_ w) := law_back xs v w h.1 h.2
end Go.Proofs.Ytkalomdbbgeemaa
