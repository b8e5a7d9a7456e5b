/- Walks of Go's slices.Grow (of nil) and slices.Concat at []int; of redlineref02.With. -/
import Derived.Test.YtkalomdbbgeemaaXpath1
import Derived.Lib.AppendZerosOnto
import Derived.Lib.SliceRun
namespace Go.Proofs.Ytkalomdbbgeemaa
open Go.RowKit

set_option maxHeartbeats 1000000 in
theorem grow_nil (n : Nat) (w : World) (hn : n * 8 ≤ 140737488355328) :
    Calls Try.prog 60 #[.slice none 0 0, .int .i64 n] w fun e w' => ∃ v', e = .returned v' ∧ Own w' w.heap.size v' [] ∧ Below w.heap.size w w' := by
  rcases Nat.eq_zero_or_pos n with h0 | hp
  · subst h0
    go_enter Try.func60, Try.ntmps60
    go_wp2
    go_ret
    exact ⟨_, rfl, Own.nil _ _, Below.refl _ _⟩
  · obtain ⟨i0, hi, hz0, hz1, hz2⟩ := info_parts info_int
    have hold : (Builtin.firstCells i0.size 0 (.slice none 0 0)).run Try.prog w.drew = .ok ([] : List Value).toArray w.drew := run_firstCells_none w.drew i0.size 0 0 0
    have hrz : ∀ ty, (Builtin.append_ #[22, 3] ty #[.slice none 0 0, .int .i64 (n : Int)]).run Try.prog w =
        .ok (.slice (some ⟨w.heap.size, 0, none⟩) (0 + n) (grownCap w (0 + n) 0 3)) (w.drew.alloc (.cells (([] : List Value).toArray ++ Builtin.zeroCells (Value.int .i64 0).cells n ++ Builtin.zeroCells (Value.int .i64 0).cells (grownCap w (0 + n) 0 3 - (0 + n))) 3)) := fun ty =>
      Lib.run_append_grow_zeros w 22 3 ty 3 i0 (.int .i64 0) .i64 .i64 Try.underlying22 Try.underlying3 hi hz0 none 0 0 [] hold n hp (by omega) (by omega) (by omega) (by rw [hz2]; omega)
        (growslice_fits (by omega) (by rw [hz2]; omega))
    have hge : 0 + n ≤ grownCap w (0 + n) 0 3 := grownCap_ge w _ _ _
    have hle := grownCap_le_maxLen w (0 + n) 0 3 (by unfold maxLen; omega)
    obtain ⟨G, hG⟩ : ∃ G, G = grownCap w (0 + n) 0 3 := ⟨_, rfl⟩
    rw [← hG] at hge hle
    simp only [← hG] at hrz
    have HR := Lib.hid hrz
    have h1 : (0 : Int) < (n : Int) := by omega
    have hG63 : G ≤ 9223372036854775807 := by unfold maxLen at hle; omega
    have HM := Lib.hid hle
    clear hold hrz hG hi hz0 hz1 hz2 hle
    go_enter Try.func60, Try.ntmps60
    go_wp2_with (at_builtin; refine Lib.wpList_append_run _ rfl _ _ _ _ rfl _ _ rfl rfl _ _ (HR.out _) ?_)
    go_ret
    refine ⟨_, rfl, ⟨?_, by simp⟩, gr_al (gr_dr (gr_refl w)) _⟩
    refine ⟨rfl, .inr ⟨w.heap.size, G, _, rfl, Nat.le_refl _, heap_alloc_new w.drew _, Nat.zero_le _, HM.out, ?_, by simp⟩⟩
    simp [Builtin.zeroCells]
    omega

/-- Appending a slice of ints onto one of the call's own, in one law. -/
theorem own_append {w1 : World} {B : Nat} {v' : Value} {xs ys : List Int} (hown : w1.ownsRow B 3 1 v' (xs.length + ys.length) (xs.map (Value.int .i64) ++ ys.map (Value.int .i64))) (hb : (xs.length + ys.length) * 8 ≤ 140737488351232) :
    Own w1 B v' (xs ++ ys) := ⟨by rw [List.length_append, List.map_append]; exact hown, by rw [List.length_append]; exact hb⟩

set_option maxHeartbeats 1000000 in
theorem rwith_any (xs ys : List Int) (v1 v2 : Value) (w : World) (h1 : Ints w v1 xs) (h2 : Ints w v2 ys) (hl : (xs.length + ys.length) * 8 ≤ 140737488351232) :
    Calls Try.prog 56 #[v1, v2] w fun e w' => ∃ v', e = .returned v' ∧ Own w' w.heap.size v' (xs ++ ys) ∧ Below w.heap.size w w' := by
  obtain ⟨a2, c2, rfl⟩ := h2.slice
  obtain ⟨i0, hi, hz0, hz1, hz2⟩ := info_parts info_int
  have HI := Lib.hid hi; have HZ0 := Lib.hid hz0; have HZ1 := Lib.hid hz1; have HZ2 := Lib.hid hz2
  have HB := Lib.hid hl
  clear hi hz0 hz1 hz2 hl
  go_enter Try.func56, Try.ntmps56
  go_wp2_with fail
  refine (rcopy_any xs v1 _ h1).mono ?_
  rintro e w1 ⟨v', rfl, ho, hb⟩
  obtain ⟨_, s2, s3⟩ := (h2.below hb (Nat.le_refl _)).src
  have H2 := Lib.hid s2; have H3 := Lib.hid s3; have HO := Lib.hid ho
  have H1 : Hid ((ys.map (Value.int .i64)).length = ys.length * 1) := by show _ = _; simp
  have H5 : Hid (xs.length + ys.length ≤ maxLen) := by show _ ≤ _; have := HB.out; unfold maxLen; omega
  have H6 : Hid ((xs.length + ys.length) * 8 ≤ 140737488355328) := by show _ ≤ _; have := HB.out; omega
  clear s2 s3 ho
  go_wp2_with (at_builtin; refine wpList_append_any _ rfl _ _ 22 rfl w.heap.size 3 i0 (.int .i64 0) 1 8 Try.underlying22 HI.out HZ0.out HZ1.out HZ2.out rfl (by decide) _ xs.length (xs.map (Value.int .i64)) rfl HO.out.1 a2 ys.length c2 (ys.map (Value.int .i64)) rfl H1.out H2.out H3.out (ints_one ys) H5.out H6.out hb.size ?_)
  intro v2 w2 hown hgrow
  go_wp2
  go_ret
  exact ⟨_, rfl, own_append hown HB.out, hb.grown hgrow hb.size (fun g hg => (HO.out.1.lt g hg).1)⟩

/-- All of them, one behind the other. -/
def flatK (xss : List (List Int)) (k : Nat) : List Int := (xss.take k).flatten
theorem flatK_succ {xss : List (List Int)} {k : Nat} (h : k < xss.length) : flatK xss (k + 1) = flatK xss k ++ xss.getD k [] := by
  unfold flatK
  rw [List.take_succ_eq_append_getElem h, List.flatten_append]
  simp [h]
theorem flatK_le (xss : List (List Int)) (k : Nat) : (flatK xss k).length ≤ xss.flatten.length := by
  have h : xss.flatten = flatK xss k ++ (xss.drop k).flatten := by
    unfold flatK
    rw [← List.flatten_append, List.take_append_drop]
  rw [h, List.length_append]
  omega
theorem flatK_all (xss : List (List Int)) : flatK xss xss.length = xss.flatten := by simp [flatK]

set_option maxHeartbeats 2000000 in
theorem concat_any (xss : List (List Int)) (v : Value) (w : World) (h : IntsL w v xss) (hl : xss.flatten.length * 8 ≤ 140737488351232) :
    Calls Try.prog 54 #[v] w fun e w' => ∃ v', e = .returned v' ∧ Own w' w.heap.size v' xss.flatten ∧ Below w.heap.size w w' := by
  obtain ⟨a1, c1, e1⟩ : ∃ a c, v = .slice a xss.length c := by obtain ⟨a, c, _, h, _⟩ := h; exact ⟨a, c, h⟩
  subst e1
  have b1 : xss.length * 24 ≤ 140737488351232 := by obtain ⟨_, _, _, _, _, _, _, h, _⟩ := h; exact h
  obtain ⟨i0, hi, hz0, hz1, hz2⟩ := info_parts info_int
  have HI := Lib.hid hi; have HZ0 := Lib.hid hz0; have HZ1 := Lib.hid hz1; have HZ2 := Lib.hid hz2
  have HB := Lib.hid hl
  clear hi hz0 hz1 hz2 hl
  go_enter Try.func54, Try.ntmps54
  go_wp2
  go_loop [11, 3] (fun i s => ∃ k m : Nat, k ≤ xss.length ∧ i = .int .i64 k ∧ s = .int .i64 m ∧ Hid (m = (flatK xss k).length)) (fun i _ => xss.length - (intOf i).toNat)
  case atStart => exact ⟨0, 0, Nat.zero_le _, rfl, rfl, rfl⟩
  case round =>
    obtain ⟨k, m, hk, rfl, rfl, HM⟩ := hrel
    have hmb : m * 8 ≤ 140737488351232 := by have := HM.out; have := flatK_le xss k; have := HB.out; omega
    by_cases hlt : k < xss.length
    · obtain ⟨p1, f1, c1', u1, hv1, l1, _, d1, g1⟩ := h.at_ k hlt
      simp only [Value.slice.injEq] at hv1
      obtain ⟨rfl, x1, rfl⟩ := hv1
      clear x1
      obtain ⟨av, cv, rfl⟩ := g1.slice
      have hfl := flatK_succ hlt
      have hnb : (m + (xss.getD k []).length) * 8 ≤ 140737488351232 := by
        have h1 := HM.out
        have h2 := flatK_le xss (k + 1)
        have h3 := HB.out
        rw [hfl, List.length_append] at h2
        omega
      have HS : Hid (m + (xss.getD k []).length = (flatK xss (k + 1)).length) := by show _ = _; rw [hfl, List.length_append, ← HM.out]
      clear hfl g1
      generalize (xss.getD k []).length = d at *
      go_wp2
      go_round
      case rel => exact ⟨k + 1, m + d, by omega, by go_num, by go_num, HS.out⟩
      case measure => simp [intOf]; omega
    · have hkn : xss.length ≤ k := by omega
      have hm2 : Hid (k = xss.length) := by show _ = _; omega
      go_wp2_with fail
      refine (grow_nil m _ (by omega)).mono ?_
      rintro e w1 ⟨vn, rfl, ho, hb⟩
      have H := h
      have HO := Lib.hid ho
      clear ho hk hlt hkn
      go_wp2_with fail
      go_loopw [27, 6] (fun i v wr => ∃ k : Nat, k ≤ xss.length ∧ i = .int .i64 k ∧ Own wr w.heap.size v (flatK xss k) ∧ Below w.heap.size w wr) (fun i _ _ => xss.length - (intOf i).toNat)
      case atStart => exact ⟨0, Nat.zero_le _, rfl, HO.out, hb⟩
      case round =>
        clear hb HO
        obtain ⟨k2, hk2, rfl, ho2, hb2⟩ := hrel
        by_cases hlt2 : k2 < xss.length
        · obtain ⟨p1, f1, c1', u1, hv1, l1, _, d1, g1⟩ := (h.below hb2 (Nat.le_refl _)).at_ k2 hlt2
          simp only [Value.slice.injEq] at hv1
          obtain ⟨rfl, x1, rfl⟩ := hv1
          clear x1
          have hfl := flatK_succ hlt2
          obtain ⟨ys, hys⟩ : ∃ ys, xss.getD k2 [] = ys := ⟨_, rfl⟩
          rw [hys] at g1 hfl
          clear hys
          obtain ⟨av, cv, rfl⟩ := g1.slice
          obtain ⟨_, s2, s3⟩ := g1.src
          have hnb : ((flatK xss k2).length + ys.length) * 8 ≤ 140737488351232 := by
            have h2 := flatK_le xss (k2 + 1)
            have h3 := HB.out
            rw [hfl, List.length_append] at h2
            omega
          have HF := Lib.hid hfl
          have H2 := Lib.hid s2; have H3 := Lib.hid s3; have HO := Lib.hid ho2; have HNB := Lib.hid hnb
          have H1 : Hid ((ys.map (Value.int .i64)).length = ys.length * 1) := by show _ = _; simp
          have H5 : Hid ((flatK xss k2).length + ys.length ≤ maxLen) := by show _ ≤ _; unfold maxLen; omega
          have H6 : Hid (((flatK xss k2).length + ys.length) * 8 ≤ 140737488355328) := by show _ ≤ _; omega
          obtain ⟨ao, no, co, rfl⟩ := ho2.ints.slice3
          clear s2 s3 ho2 hfl hnb g1
          go_wp2_with (at_builtin; refine wpList_append_any _ rfl _ _ 22 rfl w.heap.size 3 i0 (.int .i64 0) 1 8 Try.underlying22 HI.out HZ0.out HZ1.out HZ2.out rfl (by decide) _ (flatK xss k2).length ((flatK xss k2).map (Value.int .i64)) rfl HO.out.1 av ys.length cv (ys.map (Value.int .i64)) rfl H1.out H2.out H3.out (ints_one _) H5.out H6.out hb2.size ?_)
          intro v2 w2 hown hgrow
          have ho3 : Own w2 w.heap.size v2 (flatK xss (k2 + 1)) := by rw [HF.out]; exact own_append hown HNB.out
          have hb3 := hb2.grown hgrow hb2.size (fun g hg => (HO.out.1.lt g hg).1)
          clear hown hgrow
          go_wp2
          go_roundw
          case rel => exact ⟨k2 + 1, by omega, by go_num, ho3, hb3⟩
          case measure => simp [intOf]; omega
        · have hkn2 : k2 = xss.length := by omega
          subst hkn2
          clear hlt2 hk2
          go_wp2
          go_ret
          exact ⟨_, rfl, by rw [flatK_all] at ho2; exact ho2, hb2⟩
end Go.Proofs.Ytkalomdbbgeemaa
