/- The walk of the law XpathMove. -/
import Derived.Test.YtkalomdbbgeemaaLawInsert
import Derived.Test.YtkalomdbbgeemaaXpathS
import Derived.Test.YtkalomdbbgeemaaLawOrder
namespace Go.Proofs.Ytkalomdbbgeemaa
open Go.RowKit

theorem short8_three {a b c : List Int} : short8B [a, b, c] [] [] = (decide (a.length ≤ 60) && (decide (b.length ≤ 60) && decide (c.length ≤ 60))) := by simp [short8B, shortB]
theorem opAt_mk {w : World} {kind pos : Int} {pv tv : Value} {q to : List Int} (hp : Ints w pv q) (ht : Ints w tv to) :
    OpAt w (.agg #[.int .i64 kind, pv, tv, .int .i64 pos, .bool false, .slice none 0 0, .slice none 0 0, .slice none 0 0, .slice none 0 0, .slice none 0 0, .slice none 0 0, .bool false, .slice none 0 0, .int .i64 0, .slice none 0 0, .int .i64 0, .bool false, .slice none 0 0, .int .i64 0, .slice none 0 0, .int .i64 0]) kind q to pos :=
  ⟨_, _, _, _, _, _, _, _, _, _, _, _, _, _, _, _, _, _, _, rfl, hp, ht⟩

set_option maxHeartbeats 8000000 in
theorem law_move8 (xs q to : List Int) (v1 v2 v3 : Value) (w : World) (h1 : Ints w v1 xs) (h2 : Ints w v2 q) (h3 : Ints w v3 to) :
    Calls Try.prog 10 #[v1, v2, v3] w (True_ w) := by
  obtain ⟨a1, c1, rfl⟩ := h1.slice
  obtain ⟨a2, c2, rfl⟩ := h2.slice
  obtain ⟨a3, c3, rfl⟩ := h3.slice
  obtain ⟨i0, hi, hz0, hz1, hz2⟩ := info_parts info_int
  have HI := Lib.hid hi; have HZ0 := Lib.hid hz0; have HZ1 := Lib.hid hz1; have HZ2 := Lib.hid hz2
  clear hi hz0 hz1 hz2
  go_enter Try.func10, Try.ntmps10
  go_wp2_with fail
  refine (live8_any _).mono ?_
  rintro e w1 ⟨rfl, hb⟩
  have i1 := h1.below hb (Nat.le_refl _)
  have i2 := h2.below hb (Nat.le_refl _)
  have i3 := h3.below hb (Nat.le_refl _)
  clear h1 h2 h3
  go_wp2_with fail
  refine (short8_any [xs, q, to] [] [] 0 0 _ _ _ ⟨_, _, _, _, _, _, _, _, _, _, _, _, _, _, _, _, _, _, _, rfl, Ints.nil _, Ints.nil _⟩ (lit_three w1 _ _ _ _ xs q to rfl i1 i2 i3)).mono ?_
  rintro e w2 ⟨rfl, hbx⟩
  rw [short8_three]
  cases hs : (decide (xs.length ≤ 60) && (decide (q.length ≤ 60) && decide (to.length ≤ 60)))
  · replace hb := gr_tr (gr_al hb _) hbx
    go_wp2
    go_ret
    exact ⟨rfl, hb⟩
  obtain ⟨t1, t2, t3⟩ : xs.length ≤ 60 ∧ q.length ≤ 60 ∧ to.length ≤ 60 := by simpa using hs
  clear hs
  have hby := gr_tr (gr_al (gr_refl w1) _) hbx
  replace hb := gr_tr hb hby
  replace i1 := i1.below hby (Nat.le_refl _)
  replace i2 := i2.below hby (Nat.le_refl _)
  replace i3 := i3.below hby (Nat.le_refl _)
  clear hby hbx
  go_wp2_with fail
  refine (rsmall_any _ _ _ i1).mono ?_
  rintro e w' ⟨rfl, rfl⟩
  cases s1 : smallB xs
  · go_wp2
    go_ret
    exact ⟨rfl, hb⟩
  go_wp2_with fail
  refine (rsmall_any _ _ _ i2).mono ?_
  rintro e w' ⟨rfl, rfl⟩
  cases s2 : smallB q
  · go_wp2
    go_ret
    exact ⟨rfl, hb⟩
  go_wp2_with fail
  refine (rsmall_any _ _ _ i3).mono ?_
  rintro e w' ⟨rfl, rfl⟩
  cases s3 : smallB to
  · go_wp2
    go_ret
    exact ⟨rfl, hb⟩
  rcases Nat.eq_zero_or_pos q.length with h0 | hq
  · have f0 : ((q.length : Int) == 0) = true := by simp [h0]
    have H0 := Lib.hid h0
    clear h0
    go_wp2
    go_ret
    exact ⟨rfl, hb⟩
  have f0 : ((q.length : Int) == 0) = false := by rw [beq_eq_false_iff_ne]; omega
  rcases Nat.eq_zero_or_pos to.length with h0 | ht
  · have f1 : ((to.length : Int) == 0) = true := by simp [h0]
    have H0 := Lib.hid h0
    clear h0
    go_wp2
    go_ret
    exact ⟨rfl, hb⟩
  have f1 : ((to.length : Int) == 0) = false := by rw [beq_eq_false_iff_ne]; omega
  have S1 := Lib.hid s1
  have S2 := Lib.hid s2
  have S3 := Lib.hid s3
  clear s1 s2 s3
  have L1 := Lib.hid (show (xs.map (Value.int .i64)).length = xs.length * 1 by simp)
  have L2 := Lib.hid (show (q.map (Value.int .i64)).length = q.length * 1 by simp)
  have L3 := Lib.hid (show (to.map (Value.int .i64)).length = to.length * 1 by simp)
  have M1 := Lib.hid (show 0 + xs.length ≤ maxLen by unfold maxLen; omega)
  have M2 := Lib.hid (show xs.length + q.length ≤ maxLen by unfold maxLen; omega)
  have M3 := Lib.hid (show (xs ++ q).length + to.length ≤ maxLen by rw [List.length_append]; unfold maxLen; omega)
  have N1 := Lib.hid (show (0 + xs.length) * 8 ≤ 140737488355328 by omega)
  have N2 := Lib.hid (show (xs.length + q.length) * 8 ≤ 140737488355328 by omega)
  have N3 := Lib.hid (show ((xs ++ q).length + to.length) * 8 ≤ 140737488355328 by rw [List.length_append]; omega)
  have NB := Lib.hid (show (((xs ++ q) ++ to).length) ≤ 180 by rw [List.length_append, List.length_append]; omega)
  have ND := Lib.hid (show (((xs ++ q)).length + to.length) * 8 ≤ 140737488351232 by rw [List.length_append]; omega)
  have NC := Lib.hid (show (xs.length + q.length) * 8 ≤ 140737488351232 by omega)
  have NM := Lib.hid (show (to.length + xs.length) * 8 ≤ 140737488351232 by omega)
  have NQ := Lib.hid (show ∀ n, n ≤ to.length + xs.length → (q.length + n) * 8 ≤ 140737488351232 from fun n hn => by omega)
  obtain ⟨_, s2, s3⟩ := i1.src
  have H2 := Lib.hid s2; have H3 := Lib.hid s3
  clear s2 s3
  go_wp2_with (at_builtin; refine wpList_append_any _ rfl _ _ 22 rfl w2.heap.size 3 i0 (.int .i64 0) 1 8 Try.underlying22 HI.out HZ0.out HZ1.out HZ2.out rfl (by decide) _ 0 [] rfl (World.ownsRow_nil _ _ _ _) a1 xs.length c1 (xs.map (Value.int .i64)) rfl L1.out H2.out H3.out (ints_one xs) M1.out N1.out (Nat.le_refl _) ?_)
  intro u3 w3 hown hgrow
  have hb3 : Below w2.heap.size w2 w3 := (Below.refl _ w2).grown hgrow (Nat.le_refl _) (by intro k hk; simp [Value.ownBlock] at hk)
  have o3 : w3.ownsRow w2.heap.size 3 1 u3 xs.length (xs.map (Value.int .i64)) := by simpa using hown
  clear hown hgrow H2 H3
  obtain ⟨_, s2, s3⟩ := (i2.below hb3 (Nat.le_refl _)).src
  have H2 := Lib.hid s2; have H3 := Lib.hid s3; have O3 := Lib.hid o3
  clear s2 s3 o3
  go_wp2_with (at_builtin; refine wpList_append_any _ rfl _ _ 22 rfl w2.heap.size 3 i0 (.int .i64 0) 1 8 Try.underlying22 HI.out HZ0.out HZ1.out HZ2.out rfl (by decide) _ xs.length (xs.map (Value.int .i64)) rfl O3.out a2 q.length c2 (q.map (Value.int .i64)) rfl L2.out H2.out H3.out (ints_one q) M2.out N2.out hb3.size ?_)
  intro u4 w4 hown hgrow
  have hb4 : Below w2.heap.size w2 w4 := hb3.grown hgrow hb3.size (fun g hg => (O3.out.lt g hg).1)
  have o4 := own_append hown NC.out
  clear hown hgrow H2 H3 O3
  obtain ⟨_, s2, s3⟩ := (i3.below hb4 (Nat.le_refl _)).src
  have H2 := Lib.hid s2; have H3 := Lib.hid s3; have O4 := Lib.hid o4
  clear s2 s3 o4 hb3
  go_wp2_with (at_builtin; refine wpList_append_any _ rfl _ _ 22 rfl w2.heap.size 3 i0 (.int .i64 0) 1 8 Try.underlying22 HI.out HZ0.out HZ1.out HZ2.out rfl (by decide) _ (xs ++ q).length ((xs ++ q).map (Value.int .i64)) rfl O4.out.1 a3 to.length c3 (to.map (Value.int .i64)) rfl L3.out H2.out H3.out (ints_one to) M3.out N3.out hb4.size ?_)
  intro u5 w5 hown hgrow
  have hb5 : Below w2.heap.size w2 w5 := hb4.grown hgrow hb4.size (fun g hg => (O4.out.1.lt g hg).1)
  have o5 := (own_append (xs := xs ++ q) (ys := to) (by simpa using hown) ND.out).ints
  clear hown hgrow H2 H3 O4 hb4
  replace hb := gr_tr hb hb5
  replace i1 := i1.below hb5 (Nat.le_refl _)
  replace i2 := i2.below hb5 (Nat.le_refl _)
  replace i3 := i3.below hb5 (Nat.le_refl _)
  clear hb5
  have MB : Hid (lowB ((xs ++ q) ++ to) = true → ∃ a, moveP xs 5 q to 0 = some a ∧ moveP a 5 to q 0 = some xs ∧ a.length ≤ to.length + xs.length) :=
    fun h => move_back S1.out S2.out S3.out (low_append.1 (low_append.1 h).1).1 hq ht
  generalize (xs ++ q) ++ to = l at *
  obtain ⟨a', c', rfl, l1, _, o1⟩ := o5.open_
  have O1 := Lib.hid o1
  have lb := NB.out
  clear o1 hq ht t1 t2 t3
  go_wp2_with fail
  go_loop [54] (fun i => ∃ k : Nat, k ≤ l.length ∧ i = .int .i64 k ∧ Hid (∀ j, j < k → (l.getD j 0 == 1048576) = false)) (fun i => l.length - (intOf i).toNat)
  case atStart => exact ⟨0, Nat.zero_le _, rfl, by intro j hj; omega⟩
  case round =>
    obtain ⟨k, hk, rfl, HR⟩ := hrel
    by_cases hlt : k < l.length
    · obtain ⟨b, off, rfl, hc⟩ := O1.out (by omega)
      have hck := hc k hlt
      clear hc
      generalize hx : l.getD k 0 = x at *
      have HX := Lib.hid hx
      clear hx
      cases hxx : (x == 1048576)
      · go_wp2
        go_round
        case rel =>
          refine ⟨k + 1, by omega, by go_num, ?_⟩
          intro j hj
          by_cases hjk : j = k
          · subst hjk; rw [HX.out]; exact hxx
          · exact HR.out j (by omega)
        case measure => simp [intOf]; omega
      · have HXX := Lib.hid hxx
        go_wp2
        go_ret
        exact ⟨rfl, hb⟩
    · have hkn : k = l.length := by omega
      subst hkn
      obtain ⟨a, m1, m2, m3⟩ := MB.out (low_of HR.out)
      have MV1 := Lib.hid m1; have MV2 := Lib.hid m2
      have NA := Lib.hid (NQ.out _ m3)
      clear hlt hk m1 m2 m3 HR O1 MB
      go_wp2_with fail
      refine (xmove_any xs q to 5 0 _ _ _ i1 (opAt_mk i2 i3) NM.out).mono ?_
      rintro e w6 ⟨v6, rfl, ho, hbx⟩
      rw [MV1.out] at ho
      rw [MV1.out]
      have i6 := ho.ints
      rw [show (some a).getD [] = a from rfl] at i6
      replace hb := gr_tr hb hbx
      replace i1 := i1.below hbx (Nat.le_refl _)
      replace i2 := i2.below hbx (Nat.le_refl _)
      replace i3 := i3.below hbx (Nat.le_refl _)
      obtain ⟨a6, n6, c6, rfl⟩ := i6.slice3
      clear ho hbx
      go_wp2_with fail
      refine (xmove_any a to q 5 0 _ _ _ i6 (opAt_mk i3 i2) NA.out).mono ?_
      rintro e w7 ⟨v7, rfl, ho, hbx⟩
      rw [MV2.out] at ho
      rw [MV2.out]
      have i7 := ho.ints
      rw [show (some xs).getD [] = xs from rfl] at i7
      replace hb := gr_tr hb hbx
      replace i1 := i1.below hbx (Nat.le_refl _)
      obtain ⟨a7, n7, c7, rfl⟩ := i7.slice3
      clear ho hbx
      go_wp2_with fail
      refine (same_any _ _ _ _ _ i7 i1).mono ?_
      rintro e w8 ⟨rfl, hs⟩
      rw [show decide (xs = xs) = true from by simp]
      go_wp2
      go_ret
      exact ⟨rfl, gr_sm hb hs⟩

theorem law_move8' (xs q to : List Int) (v1 v2 v3 : Value) (w : World) (h1 : Ints w v1 xs ∧ I64 xs) (h2 : Ints w v2 q ∧ I64 q) (h3 : Ints w v3 to ∧ I64 to) :
    Calls Try.prog 10 #[v1, v2, v3] w (True_ w) := law_move8 xs q to v1 v2 v3 w h1.1 h2.1 h3.1
end Go.Proofs.Ytkalomdbbgeemaa
