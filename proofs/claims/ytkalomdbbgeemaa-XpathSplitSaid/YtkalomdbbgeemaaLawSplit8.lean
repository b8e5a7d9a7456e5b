/- The walk of the law XpathSplit. -/
import Derived.Test.YtkalomdbbgeemaaLawMove8
namespace Go.Proofs.Ytkalomdbbgeemaa
open Go.RowKit

theorem next_shift {q : List Int} (hq : 0 < q.length) (s2 : smallB q = true) (h2 : lowB q = true) : nextL q = shiftL q (q.length - 1) 1 ∧ nextE q = 0 := by
  have g := low_get s2 h2 (q.length - 1)
  have hm : ¬ lastI q = maxI := by unfold lastI maxI; omega
  have hn : ¬ q.length = 0 := by omega
  rw [nextL, nextE, if_neg hn, if_neg hn, if_neg hm, if_neg hm]
  exact ⟨rfl, rfl⟩

theorem opAt_mk1 {w : World} {kind pos : Int} {pv : Value} {q : List Int} (hp : Ints w pv q) :
    OpAt w (.agg #[.int .i64 kind, pv, .slice none 0 0, .int .i64 pos, .bool false, .slice none 0 0, .slice none 0 0, .slice none 0 0, .slice none 0 0, .slice none 0 0, .slice none 0 0, .bool false, .slice none 0 0, .int .i64 0, .slice none 0 0, .int .i64 0, .bool false, .slice none 0 0, .int .i64 0, .slice none 0 0, .int .i64 0]) kind q [] pos :=
  opAt_mk hp (Ints.nil _)

set_option maxHeartbeats 8000000 in
theorem law_split8 (xs q : List Int) (pos : Int) (v1 v2 : Value) (w : World) (h1 : Ints w v1 xs) (h2 : Ints w v2 q) (h64 : I64 q) :
    Calls Try.prog 12 #[v1, v2, .int .i64 pos] w (True_ w) := by
  obtain ⟨a1, c1, rfl⟩ := h1.slice
  obtain ⟨a2, c2, rfl⟩ := h2.slice
  have H64 : Hid (I64 q) := h64
  clear h64
  obtain ⟨i0, hi, hz0, hz1, hz2⟩ := info_parts info_int
  have HI := Lib.hid hi; have HZ0 := Lib.hid hz0; have HZ1 := Lib.hid hz1; have HZ2 := Lib.hid hz2
  clear hi hz0 hz1 hz2
  go_enter Try.func12, Try.ntmps12
  go_wp2_with fail
  refine (live8_any _).mono ?_
  rintro e w1 ⟨rfl, hb⟩
  have i1 := h1.below hb (Nat.le_refl _)
  have i2 := h2.below hb (Nat.le_refl _)
  clear h1 h2
  go_wp2_with fail
  refine (short8_any [xs, q] [] [] 0 0 _ _ _ ⟨_, _, _, _, _, _, _, _, _, _, _, _, _, _, _, _, _, _, _, rfl, Ints.nil _, Ints.nil _⟩ (lit_two w1 _ _ _ xs q rfl i1 i2)).mono ?_
  rintro e w2 ⟨rfl, hbx⟩
  rw [len_two]
  cases hs : (decide (xs.length ≤ 60) && decide (q.length ≤ 60))
  · replace hb := gr_tr (gr_al hb _) hbx
    go_wp2
    go_ret
    exact ⟨rfl, hb⟩
  obtain ⟨t1, t2⟩ : xs.length ≤ 60 ∧ q.length ≤ 60 := by simpa using hs
  clear hs
  have hby := gr_tr (gr_al (gr_refl w1) _) hbx
  replace hb := gr_tr hb hby
  replace i1 := i1.below hby (Nat.le_refl _)
  replace i2 := i2.below hby (Nat.le_refl _)
  clear hby hbx
  go_wp2_with fail
  refine (rsmall_any _ _ _ i1).mono ?_
  rintro e w' ⟨rfl, rfl⟩
  cases s1 : smallB xs
  · go_wp2
    go_ret
    exact ⟨rfl, hb⟩
  go_wp2_with fail
  refine (rsmall_any _ _ _ i2).mono ?_
  rintro e w' ⟨rfl, rfl⟩
  cases s2 : smallB q
  · go_wp2
    go_ret
    exact ⟨rfl, hb⟩
  rcases Nat.eq_zero_or_pos q.length with h0 | hq
  · have f0 : ((q.length : Int) == 0) = true := by simp [h0]
    have H0 := Lib.hid h0
    clear h0
    go_wp2
    go_ret
    exact ⟨rfl, hb⟩
  have f0 : ((q.length : Int) == 0) = false := by rw [beq_eq_false_iff_ne]; omega
  by_cases p1 : pos < 0
  · go_wp2
    go_ret
    exact ⟨rfl, hb⟩
  by_cases p2 : 1048576 < pos
  · go_wp2
    go_ret
    exact ⟨rfl, hb⟩
  have S1 := Lib.hid s1
  have S2 := Lib.hid s2
  clear s1 s2
  have L1 := Lib.hid (show (xs.map (Value.int .i64)).length = xs.length * 1 by simp)
  have L2 := Lib.hid (show (q.map (Value.int .i64)).length = q.length * 1 by simp)
  have M1 := Lib.hid (show 0 + xs.length ≤ maxLen by unfold maxLen; omega)
  have M2 := Lib.hid (show xs.length + q.length ≤ maxLen by unfold maxLen; omega)
  have N1 := Lib.hid (show (0 + xs.length) * 8 ≤ 140737488355328 by omega)
  have N2 := Lib.hid (show (xs.length + q.length) * 8 ≤ 140737488355328 by omega)
  have NB := Lib.hid (show ((xs ++ q).length) ≤ 120 by rw [List.length_append]; omega)
  have NM := Lib.hid (show (([] : List Int).length + xs.length) * 8 ≤ 140737488351232 by simp; omega)
  have NC := Lib.hid (show (xs.length + q.length) * 8 ≤ 140737488351232 by omega)
  obtain ⟨_, s2, s3⟩ := i1.src
  have H2 := Lib.hid s2; have H3 := Lib.hid s3
  clear s2 s3
  go_wp2_with (at_builtin; refine wpList_append_any _ rfl _ _ 22 rfl w2.heap.size 3 i0 (.int .i64 0) 1 8 Try.underlying22 HI.out HZ0.out HZ1.out HZ2.out rfl (by decide) _ 0 [] rfl (World.ownsRow_nil _ _ _ _) a1 xs.length c1 (xs.map (Value.int .i64)) rfl L1.out H2.out H3.out (ints_one xs) M1.out N1.out (Nat.le_refl _) ?_)
  intro u3 w3 hown hgrow
  have hb3 : Below w2.heap.size w2 w3 := (Below.refl _ w2).grown hgrow (Nat.le_refl _) (by intro k hk; simp [Value.ownBlock] at hk)
  have o3 : w3.ownsRow w2.heap.size 3 1 u3 xs.length (xs.map (Value.int .i64)) := by simpa using hown
  clear hown hgrow H2 H3
  obtain ⟨_, s2, s3⟩ := (i2.below hb3 (Nat.le_refl _)).src
  have H2 := Lib.hid s2; have H3 := Lib.hid s3; have O3 := Lib.hid o3
  clear s2 s3 o3
  go_wp2_with (at_builtin; refine wpList_append_any _ rfl _ _ 22 rfl w2.heap.size 3 i0 (.int .i64 0) 1 8 Try.underlying22 HI.out HZ0.out HZ1.out HZ2.out rfl (by decide) _ xs.length (xs.map (Value.int .i64)) rfl O3.out a2 q.length c2 (q.map (Value.int .i64)) rfl L2.out H2.out H3.out (ints_one q) M2.out N2.out hb3.size ?_)
  intro u4 w4 hown hgrow
  have hb4 : Below w2.heap.size w2 w4 := hb3.grown hgrow hb3.size (fun g hg => (O3.out.lt g hg).1)
  have o5 := (own_append hown NC.out).ints
  clear hown hgrow H2 H3 O3 hb3
  replace hb := gr_tr hb hb4
  replace i1 := i1.below hb4 (Nat.le_refl _)
  replace i2 := i2.below hb4 (Nat.le_refl _)
  clear hb4
  have MB : Hid (lowB (xs ++ q) = true → (∃ a, moveP xs 4 q [] pos = some a ∧ a ≠ shiftL q (q.length - 1) 1 ∧ moveP a 3 (shiftL q (q.length - 1) 1) [] pos = some xs ∧ a.length = xs.length) ∧ nextL q = shiftL q (q.length - 1) 1 ∧ nextE q = 0) :=
    fun h => ⟨split_back S1.out S2.out (low_append.1 h).1 (low_append.1 h).2 ⟨by omega, by omega⟩ hq, next_shift hq S2.out (low_append.1 h).2⟩
  generalize xs ++ q = l at *
  obtain ⟨a', c', rfl, l1, _, o1⟩ := o5.open_
  have O1 := Lib.hid o1
  have lb := NB.out
  clear o1 hq t1 t2 p1 p2
  go_wp2_with fail
  go_loop [51] (fun i => ∃ k : Nat, k ≤ l.length ∧ i = .int .i64 k ∧ Hid (∀ j, j < k → (l.getD j 0 == 1048576) = false)) (fun i => l.length - (intOf i).toNat)
  case atStart => exact ⟨0, Nat.zero_le _, rfl, by intro j hj; omega⟩
  case round =>
    obtain ⟨k, hk, rfl, HR⟩ := hrel
    by_cases hlt : k < l.length
    · obtain ⟨b, off, rfl, hc⟩ := O1.out (by omega)
      have hck := hc k hlt
      clear hc
      generalize hx : l.getD k 0 = x at *
      have HX := Lib.hid hx
      clear hx
      cases hxx : (x == 1048576)
      · go_wp2
        go_round
        case rel =>
          refine ⟨k + 1, by omega, by go_num, ?_⟩
          intro j hj
          by_cases hjk : j = k
          · subst hjk; rw [HX.out]; exact hxx
          · exact HR.out j (by omega)
        case measure => simp [intOf]; omega
      · have HXX := Lib.hid hxx
        go_wp2
        go_ret
        exact ⟨rfl, hb⟩
    · have hkn : k = l.length := by omega
      subst hkn
      obtain ⟨⟨a, m1, m2, m3, m4⟩, m5, m6⟩ := MB.out (low_of HR.out)
      have qa : decide (a = shiftL q (q.length - 1) 1) = false := by simpa using m2
      have MV1 := Lib.hid m1; have MV2 := Lib.hid m3; have MX := Lib.hid m5; have ME := Lib.hid m6
      have NA := Lib.hid (show (([] : List Int).length + a.length) * 8 ≤ 140737488351232 by rw [m4]; exact NM.out)
      clear hlt hk m1 m2 m3 m4 m5 m6 HR O1 MB
      go_wp2_with fail
      refine (xmove_any xs q [] 4 pos _ _ _ i1 (opAt_mk1 i2) NM.out).mono ?_
      rintro e w6 ⟨v6, rfl, ho, hbx⟩
      rw [MV1.out] at ho
      rw [MV1.out]
      have i6 := ho.ints
      rw [show (some a).getD [] = a from rfl] at i6
      replace hb := gr_tr hb hbx
      replace i1 := i1.below hbx (Nat.le_refl _)
      replace i2 := i2.below hbx (Nat.le_refl _)
      obtain ⟨a6, n6, c6, rfl⟩ := i6.slice3
      clear ho hbx
      go_wp2_with fail
      refine (next_any q _ _ i2 H64.out).mono ?_
      rintro e w7 ⟨v7, rfl, ho, hbx⟩
      rw [MX.out] at ho
      rw [ME.out]
      have i7 := ho.ints
      clear MX ME
      generalize shiftL q (q.length - 1) 1 = nx at *
      replace hb := gr_tr hb hbx
      replace i1 := i1.below hbx (Nat.le_refl _)
      replace i6 := i6.below hbx (Nat.le_refl _)
      obtain ⟨a7, n7, c7, rfl⟩ := i7.slice3
      clear ho hbx i2
      go_wp2_with fail
      refine (same_any _ _ _ _ _ i6 i7).mono ?_
      rintro e w8 ⟨rfl, hs⟩
      rw [qa]
      replace hb := gr_sm hb hs
      replace i1 := i1.same hs
      replace i6 := i6.same hs
      replace i7 := i7.same hs
      clear hs
      go_wp2_with fail
      refine (xmove_any a nx [] 3 pos _ _ _ i6 (opAt_mk1 i7) NA.out).mono ?_
      rintro e w9 ⟨v9, rfl, ho, hbx⟩
      rw [MV2.out] at ho
      rw [MV2.out]
      have i9 := ho.ints
      rw [show (some xs).getD [] = xs from rfl] at i9
      replace hb := gr_tr hb hbx
      replace i1 := i1.below hbx (Nat.le_refl _)
      obtain ⟨a9, n9, c9, rfl⟩ := i9.slice3
      clear ho hbx
      go_wp2_with fail
      refine (same_any _ _ _ _ _ i9 i1).mono ?_
      rintro e w10 ⟨rfl, hs⟩
      rw [show decide (xs = xs) = true from by simp]
      go_wp2
      go_ret
      exact ⟨rfl, gr_sm hb hs⟩

theorem law_split8' (xs q : List Int) (pos : Int) (v1 v2 v3 : Value) (w : World) (h1 : Ints w v1 xs ∧ I64 xs) (h2 : Ints w v2 q ∧ I64 q) (h3 : v3 = .int .i64 pos) :
    Calls Try.prog 12 #[v1, v2, v3] w (True_ w) := by
  subst h3
  exact law_split8 xs q pos v1 v2 w h1.1 h2.1 h2.2
end Go.Proofs.Ytkalomdbbgeemaa
