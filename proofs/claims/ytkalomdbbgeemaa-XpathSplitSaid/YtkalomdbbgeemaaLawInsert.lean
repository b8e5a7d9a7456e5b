/- The walk of the law XpathInsert. -/
import Derived.Test.YtkalomdbbgeemaaLaw08
import Derived.Test.YtkalomdbbgeemaaXpathQ
import Derived.Test.YtkalomdbbgeemaaLawBack
namespace Go.Proofs.Ytkalomdbbgeemaa
open Go.RowKit

theorem low_of {xs : List Int} (h : ∀ j, j < xs.length → (xs.getD j 0 == 1048576) = false) : lowB xs = true := by
  rw [lowB, List.all_eq_true]
  intro x hx
  obtain ⟨j, hj, rfl⟩ := List.getElem_of_mem hx
  have := h j hj
  simpa [hj] using this

theorem len_two {xs q : List Int} : short8B [xs, q] [] [] = (decide (xs.length ≤ 60) && decide (q.length ≤ 60)) := by simp [short8B, shortB]

set_option maxHeartbeats 8000000 in
theorem law_insert (xs q : List Int) (v1 v2 : Value) (w : World) (h1 : Ints w v1 xs) (h2 : Ints w v2 q) :
    Calls Try.prog 9 #[v1, v2] w (True_ w) := by
  obtain ⟨a1, c1, rfl⟩ := h1.slice
  obtain ⟨a2, c2, rfl⟩ := h2.slice
  have b1 := h1.len
  go_enter Try.func9, Try.ntmps9
  go_wp2_with fail
  refine (live8_any _).mono ?_
  rintro e w1 ⟨rfl, hb⟩
  have i1 := h1.below hb (Nat.le_refl _)
  have i2 := h2.below hb (Nat.le_refl _)
  clear h1 h2
  go_wp2_with fail
  refine (short8_any [xs, q] [] [] 0 0 _ _ _ ⟨_, _, _, _, _, _, _, _, _, _, _, _, _, _, _, _, _, _, _, rfl, Ints.nil _, Ints.nil _⟩ (lit_two w1 _ _ _ xs q rfl i1 i2)).mono ?_
  rintro e w2 ⟨rfl, hbx⟩
  rw [len_two]
  cases hs : (decide (xs.length ≤ 60) && decide (q.length ≤ 60))
  · replace hb := gr_tr (gr_al hb _) hbx
    go_wp2
    go_ret
    exact ⟨rfl, hb⟩
  obtain ⟨t1, t2⟩ : xs.length ≤ 60 ∧ q.length ≤ 60 := by simpa using hs
  clear hs
  have hby := gr_tr (gr_al (gr_refl w1) _) hbx
  replace hb := gr_tr hb hby
  replace i1 := i1.below hby (Nat.le_refl _)
  replace i2 := i2.below hby (Nat.le_refl _)
  clear hby hbx
  go_wp2_with fail
  refine (rsmall_any _ _ _ i1).mono ?_
  rintro e w' ⟨rfl, rfl⟩
  cases s1 : smallB xs
  · go_wp2
    go_ret
    exact ⟨rfl, hb⟩
  go_wp2_with fail
  refine (rsmall_any _ _ _ i2).mono ?_
  rintro e w' ⟨rfl, rfl⟩
  cases s2 : smallB q
  · go_wp2
    go_ret
    exact ⟨rfl, hb⟩
  rcases Nat.eq_zero_or_pos q.length with h0 | hq
  · have f0 : ((q.length : Int) == 0) = true := by simp [h0]
    have H0 := Lib.hid h0
    clear h0
    go_wp2
    go_ret
    exact ⟨rfl, hb⟩
  have f0 : ((q.length : Int) == 0) = false := by rw [beq_eq_false_iff_ne]; omega
  have S1 := Lib.hid s1
  have S2 := Lib.hid s2
  clear s1 s2
  obtain ⟨a', c', he, l1, _, o1⟩ := i1.open_
  simp only [Value.slice.injEq] at he
  obtain ⟨rfl, hx, rfl⟩ := he
  clear hx
  have O1 := Lib.hid o1
  clear o1
  go_wp2_with fail
  go_loop [36] (fun i => ∃ k : Nat, k ≤ xs.length ∧ i = .int .i64 k ∧ Hid (∀ j, j < k → (xs.getD j 0 == 1048576) = false)) (fun i => xs.length - (intOf i).toNat)
  case atStart => exact ⟨0, Nat.zero_le _, rfl, by intro j hj; omega⟩
  case round =>
    obtain ⟨k, hk, rfl, HR⟩ := hrel
    by_cases hlt : k < xs.length
    · obtain ⟨b, off, rfl, hc⟩ := O1.out (by omega)
      have hck := hc k hlt
      clear hc
      generalize hx : xs.getD k 0 = x at *
      have HX := Lib.hid hx
      clear hx
      cases hxx : (x == 1048576)
      · go_wp2
        go_round
        case rel =>
          refine ⟨k + 1, by omega, by go_num, ?_⟩
          intro j hj
          by_cases hjk : j = k
          · subst hjk; rw [HX.out]; exact hxx
          · exact HR.out j (by omega)
        case measure => simp [intOf]; omega
      · have HXX := Lib.hid hxx
        go_wp2
        go_ret
        exact ⟨rfl, hb⟩
    · have hkn : k = xs.length := by omega
      subst hkn
      obtain ⟨m1, m2, m3, m4, m5, m6⟩ := insert_back S1.out S2.out (low_of HR.out) hq
      have M1 := Lib.hid m1; have M4 := Lib.hid m4; have M6 := Lib.hid m6
      have qa : decide (insL xs q = q) = false := by simpa using m2
      have qb : aboveB q (insL xs q) = false := m3
      clear hlt hk m1 m2 m3 m4 m5 m6 HR O1
      go_wp2_with fail
      refine (xmove_any xs q [] 1 0 _ _ _ i1 ⟨_, _, _, _, _, _, _, _, _, _, _, _, _, _, _, _, _, _, _, rfl, i2, Ints.nil _⟩ (by simp; omega)).mono ?_
      rintro e w3 ⟨v3, rfl, ho, hbx⟩
      rw [M1.out] at ho
      rw [M1.out]
      have i3 := ho.ints
      rw [show (some (insL xs q)).getD [] = insL xs q from rfl] at i3
      replace hb := gr_tr hb hbx
      replace i1 := i1.below hbx (Nat.le_refl _)
      replace i2 := i2.below hbx (Nat.le_refl _)
      obtain ⟨a4, n4, c4, rfl⟩ := i3.slice3
      clear ho hbx
      go_wp2_with fail
      refine (same_any _ _ _ _ _ i3 i2).mono ?_
      rintro e w4 ⟨rfl, hs⟩
      rw [qa]
      replace hb := gr_sm hb hs
      replace i1 := i1.same hs
      replace i2 := i2.same hs
      replace i3 := i3.same hs
      clear hs
      go_wp2_with fail
      refine (above_any _ _ _ _ _ i2 i3).mono ?_
      rintro e w5 ⟨rfl, hs⟩
      rw [qb]
      replace hb := gr_sm hb hs
      replace i1 := i1.same hs
      replace i2 := i2.same hs
      replace i3 := i3.same hs
      clear hs
      go_wp2_with fail
      refine (xmove_any (insL xs q) q [] 2 0 _ _ _ i3 ⟨_, _, _, _, _, _, _, _, _, _, _, _, _, _, _, _, _, _, _, rfl, i2, Ints.nil _⟩ (by rw [M6.out]; simp; omega)).mono ?_
      rintro e w6 ⟨v6, rfl, ho, hbx⟩
      rw [M4.out] at ho
      rw [M4.out]
      have i6 := ho.ints
      rw [show (some xs).getD [] = xs from rfl] at i6
      replace hb := gr_tr hb hbx
      replace i1 := i1.below hbx (Nat.le_refl _)
      obtain ⟨a7, n7, c7, rfl⟩ := i6.slice3
      clear ho hbx
      go_wp2_with fail
      refine (same_any _ _ _ _ _ i6 i1).mono ?_
      rintro e w7 ⟨rfl, hs⟩
      rw [show decide (xs = xs) = true from by simp]
      go_wp2
      go_ret
      exact ⟨rfl, gr_sm hb hs⟩

theorem law_insert' (xs q : List Int) (v1 v2 : Value) (w : World) (h1 : Ints w v1 xs ∧ I64 xs) (h2 : Ints w v2 q ∧ I64 q) :
    Calls Try.prog 9 #[v1, v2] w (True_ w) := law_insert xs q v1 v2 w h1.1 h2.1
end Go.Proofs.Ytkalomdbbgeemaa
