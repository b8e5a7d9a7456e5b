/- Walks of Go's slices.Grow (of nil) and slices.Concat at []int; of redlineref02.With. The walk of xpath.Move, a theorem a case. The walk of xpath.Move, of the kind that moves a node, and of kinds that move nothing. The walk of xpath.Move, all cases joined. -/
import Derived.Test.YtcbljiiomnhbjaaRefs
import Derived.Lib.AppendZerosOnto
import Derived.Lib.SliceRun
import Derived.Test.YtcbljiiomnhbjaaXpathL
import Derived.Deep.RegionHeld3
namespace Go.Proofs.Ytcbljiiomnhbjaa
set_option maxRecDepth 100000
open Go.RowKit

/- Walks of Go's slices.Grow (of nil) and slices.Concat at []int; of redlineref02.With. -/
set_option maxHeartbeats 1000000 in
theorem grow_nil (n : Nat) (w : World) (hn : n * 8 ≤ 140737488355328) :
    Calls Try.prog 65 #[.slice none 0 0, .int .i64 n] w fun e w' => ∃ v', e = .returned v' ∧ Own w' w.heap.size v' [] ∧ Below w.heap.size w w' := by
  rcases Nat.eq_zero_or_pos n with h0 | hp
  · subst h0
    go_enter Try.func65, Try.ntmps65
    go_wp2
    go_ret
    exact ⟨_, rfl, Own.nil _ _, Below.refl _ _⟩
  · obtain ⟨i0, hi, hz0, hz1, hz2⟩ := info_parts info_int
    have hold : (Builtin.firstCells i0.size 0 (.slice none 0 0)).run Try.prog w.drew = .ok ([] : List Value).toArray w.drew := run_firstCells_none w.drew i0.size 0 0 0
    have hrz : ∀ ty, (Builtin.append_ #[22, 3] ty #[.slice none 0 0, .int .i64 (n : Int)]).run Try.prog w =
        .ok (.slice (some ⟨w.heap.size, 0, none⟩) (0 + n) (grownCap w (0 + n) 0 3)) (w.drew.alloc (.cells (([] : List Value).toArray ++ Builtin.zeroCells (Value.int .i64 0).cells n ++ Builtin.zeroCells (Value.int .i64 0).cells (grownCap w (0 + n) 0 3 - (0 + n))) 3)) := fun ty =>
      Lib.run_append_grow_zeros w 22 3 ty 3 i0 (.int .i64 0) .i64 .i64 Try.underlying22 Try.underlying3 hi hz0 none 0 0 [] hold n hp (by omega) (by omega) (by omega) (by rw [hz2]; omega)
        (growslice_fits (by omega) (by rw [hz2]; omega))
    have hge : 0 + n ≤ grownCap w (0 + n) 0 3 := grownCap_ge w _ _ _
    have hle := grownCap_le_maxLen w (0 + n) 0 3 (by unfold maxLen; omega)
    obtain ⟨G, hG⟩ : ∃ G, G = grownCap w (0 + n) 0 3 := ⟨_, rfl⟩
    rw [← hG] at hge hle
    simp only [← hG] at hrz
    have HR := Lib.hid hrz
    have h1 : (0 : Int) < (n : Int) := by omega
    have hG63 : G ≤ 9223372036854775807 := by unfold maxLen at hle; omega
    have HM := Lib.hid hle
    clear hold hrz hG hi hz0 hz1 hz2 hle
    go_enter Try.func65, Try.ntmps65
    go_wp2_with (at_builtin; refine Lib.wpList_append_run _ rfl _ _ _ _ rfl _ _ rfl rfl _ _ (HR.out _) ?_)
    go_ret
    refine ⟨_, rfl, ⟨?_, by simp⟩, gr_al (gr_dr (gr_refl w)) _⟩
    refine ⟨rfl, .inr ⟨w.heap.size, G, _, rfl, Nat.le_refl _, heap_alloc_new w.drew _, Nat.zero_le _, HM.out, ?_, by simp⟩⟩
    simp [Builtin.zeroCells]
    omega

/-- Appending a slice of ints onto one of the call's own, in one law. -/
theorem own_append {w1 : World} {B : Nat} {v' : Value} {xs ys : List Int} (hown : w1.ownsRow B 3 1 v' (xs.length + ys.length) (xs.map (Value.int .i64) ++ ys.map (Value.int .i64))) (hb : (xs.length + ys.length) * 8 ≤ 140737488351232) :
    Own w1 B v' (xs ++ ys) := ⟨by rw [List.length_append, List.map_append]; exact hown, by rw [List.length_append]; exact hb⟩

/-- All of them, one behind the other. -/
def flatK (xss : List (List Int)) (k : Nat) : List Int := (xss.take k).flatten
theorem flatK_succ {xss : List (List Int)} {k : Nat} (h : k < xss.length) : flatK xss (k + 1) = flatK xss k ++ xss.getD k [] := by
  unfold flatK
  rw [List.take_succ_eq_append_getElem h, List.flatten_append]
  simp [h]
theorem flatK_le (xss : List (List Int)) (k : Nat) : (flatK xss k).length ≤ xss.flatten.length := by
  have h : xss.flatten = flatK xss k ++ (xss.drop k).flatten := by
    unfold flatK
    rw [← List.flatten_append, List.take_append_drop]
  rw [h, List.length_append]
  omega
theorem flatK_all (xss : List (List Int)) : flatK xss xss.length = xss.flatten := by simp [flatK]

set_option maxHeartbeats 2000000 in
theorem concat_any (xss : List (List Int)) (v : Value) (w : World) (h : IntsL w v xss) (hl : xss.flatten.length * 8 ≤ 140737488351232) :
    Calls Try.prog 49 #[v] w fun e w' => ∃ v', e = .returned v' ∧ Own w' w.heap.size v' xss.flatten ∧ Below w.heap.size w w' := by
  obtain ⟨a1, c1, e1⟩ : ∃ a c, v = .slice a xss.length c := by obtain ⟨a, c, _, h, _⟩ := h; exact ⟨a, c, h⟩
  subst e1
  have b1 : xss.length * 24 ≤ 140737488351232 := by obtain ⟨_, _, _, _, _, _, _, h, _⟩ := h; exact h
  obtain ⟨i0, hi, hz0, hz1, hz2⟩ := info_parts info_int
  have HI := Lib.hid hi; have HZ0 := Lib.hid hz0; have HZ1 := Lib.hid hz1; have HZ2 := Lib.hid hz2
  have HB := Lib.hid hl
  clear hi hz0 hz1 hz2 hl
  go_enter Try.func49, Try.ntmps49
  go_wp2
  go_loop [11, 3] (fun i s => ∃ k m : Nat, k ≤ xss.length ∧ i = .int .i64 k ∧ s = .int .i64 m ∧ Hid (m = (flatK xss k).length)) (fun i _ => xss.length - (intOf i).toNat)
  case atStart => exact ⟨0, 0, Nat.zero_le _, rfl, rfl, rfl⟩
  case round =>
    obtain ⟨k, m, hk, rfl, rfl, HM⟩ := hrel
    have hmb : m * 8 ≤ 140737488351232 := by have := HM.out; have := flatK_le xss k; have := HB.out; omega
    by_cases hlt : k < xss.length
    · obtain ⟨p1, f1, c1', u1, hv1, l1, _, d1, g1⟩ := h.at_ k hlt
      simp only [Value.slice.injEq] at hv1
      obtain ⟨rfl, x1, rfl⟩ := hv1
      clear x1
      obtain ⟨av, cv, rfl⟩ := g1.slice
      have hfl := flatK_succ hlt
      have hnb : (m + (xss.getD k []).length) * 8 ≤ 140737488351232 := by
        have h1 := HM.out
        have h2 := flatK_le xss (k + 1)
        have h3 := HB.out
        rw [hfl, List.length_append] at h2
        omega
      have HS : Hid (m + (xss.getD k []).length = (flatK xss (k + 1)).length) := by show _ = _; rw [hfl, List.length_append, ← HM.out]
      clear hfl g1
      generalize (xss.getD k []).length = d at *
      go_wp2
      go_round
      case rel => exact ⟨k + 1, m + d, by omega, by go_num, by go_num, HS.out⟩
      case measure => simp [intOf]; omega
    · have hkn : xss.length ≤ k := by omega
      have hm2 : Hid (k = xss.length) := by show _ = _; omega
      go_wp2_with fail
      refine (grow_nil m _ (by omega)).mono ?_
      rintro e w1 ⟨vn, rfl, ho, hb⟩
      have H := h
      have HO := Lib.hid ho
      clear ho hk hlt hkn
      go_wp2_with fail
      go_loopw [27, 6] (fun i v wr => ∃ k : Nat, k ≤ xss.length ∧ i = .int .i64 k ∧ Own wr w.heap.size v (flatK xss k) ∧ Below w.heap.size w wr) (fun i _ _ => xss.length - (intOf i).toNat)
      case atStart => exact ⟨0, Nat.zero_le _, rfl, HO.out, hb⟩
      case round =>
        clear hb HO
        obtain ⟨k2, hk2, rfl, ho2, hb2⟩ := hrel
        by_cases hlt2 : k2 < xss.length
        · obtain ⟨p1, f1, c1', u1, hv1, l1, _, d1, g1⟩ := (h.below hb2 (Nat.le_refl _)).at_ k2 hlt2
          simp only [Value.slice.injEq] at hv1
          obtain ⟨rfl, x1, rfl⟩ := hv1
          clear x1
          have hfl := flatK_succ hlt2
          obtain ⟨ys, hys⟩ : ∃ ys, xss.getD k2 [] = ys := ⟨_, rfl⟩
          rw [hys] at g1 hfl
          clear hys
          obtain ⟨av, cv, rfl⟩ := g1.slice
          obtain ⟨_, s2, s3⟩ := g1.src
          have hnb : ((flatK xss k2).length + ys.length) * 8 ≤ 140737488351232 := by
            have h2 := flatK_le xss (k2 + 1)
            have h3 := HB.out
            rw [hfl, List.length_append] at h2
            omega
          have HF := Lib.hid hfl
          have H2 := Lib.hid s2; have H3 := Lib.hid s3; have HO := Lib.hid ho2; have HNB := Lib.hid hnb
          have H1 : Hid ((ys.map (Value.int .i64)).length = ys.length * 1) := by show _ = _; simp
          have H5 : Hid ((flatK xss k2).length + ys.length ≤ maxLen) := by show _ ≤ _; unfold maxLen; omega
          have H6 : Hid (((flatK xss k2).length + ys.length) * 8 ≤ 140737488355328) := by show _ ≤ _; omega
          obtain ⟨ao, no, co, rfl⟩ := ho2.ints.slice3
          clear s2 s3 ho2 hfl hnb g1
          go_wp2_with (at_builtin; refine wpList_append_any _ rfl _ _ 22 rfl w.heap.size 3 i0 (.int .i64 0) 1 8 Try.underlying22 HI.out HZ0.out HZ1.out HZ2.out rfl (by decide) _ (flatK xss k2).length ((flatK xss k2).map (Value.int .i64)) rfl HO.out.1 av ys.length cv (ys.map (Value.int .i64)) rfl H1.out H2.out H3.out (ints_one _) H5.out H6.out hb2.size ?_)
          intro v2 w2 hown hgrow
          have ho3 : Own w2 w.heap.size v2 (flatK xss (k2 + 1)) := by rw [HF.out]; exact own_append hown HNB.out
          have hb3 := hb2.grown hgrow hb2.size (fun g hg => (HO.out.1.lt g hg).1)
          clear hown hgrow
          go_wp2
          go_roundw
          case rel => exact ⟨k2 + 1, by omega, by go_num, ho3, hb3⟩
          case measure => simp [intOf]; omega
        · have hkn2 : k2 = xss.length := by omega
          subst hkn2
          clear hlt2 hk2
          go_wp2
          go_ret
          exact ⟨_, rfl, by rw [flatK_all] at ho2; exact ho2, hb2⟩

/- The walk of xpath.Move, a theorem a case. -/
theorem ints_two (w : World) (g : Nat) (v1 v2 : Value) (xs ys : List Int) (hg : w.heap.size = g) (h1 : Ints w v1 xs) (h2 : Ints w v2 ys) :
    IntsL (w.alloc (.cells #[v1, v2] 22)) (.slice (some ⟨g, 0, none⟩) 2 2) [xs, ys] := by
  subst hg
  refine ⟨_, 2, [v1, v2], rfl, Nat.le_refl _, by unfold maxLen; omega, rfl, by simp, fun _ => ⟨w.heap.size, 0, rfl, fun j hj => ?_⟩, fun j hj => ?_⟩
  · rw [cell_of_row _ w.heap.size (0 + j) _ _ (0, 0) (heap_alloc_new w _)]
    match j, hj with
    | 0, _ => rfl
    | 1, _ => rfl
  · match j, hj with
    | 0, _ => exact h1.alloc _
    | 1, _ => exact h2.alloc _

/-- The end of a slice. -/
theorem Ints.drop {w : World} {a : Option Addr} {n cap k : Nat} {xs : List Int} (h : Ints w (.slice a n cap) xs) (hk : k ≤ n) (hlt : k < cap) : ∃ b off, a = some ⟨b, off, none⟩ ∧ Ints w (.slice (some ⟨b, off + k, none⟩) (n - k) (cap - k)) (xs.drop k) := by
  obtain ⟨a', cap', he, h1, hm, h2, h4⟩ := h
  simp only [Value.slice.injEq] at he
  obtain ⟨rfl, rfl, rfl⟩ := he
  obtain ⟨b, off, rfl, hc⟩ := h4 (by omega)
  refine ⟨b, off, rfl, _, cap - k, by simp, by simp; omega, by omega, by simp; omega, fun _ => ⟨b, off + k, rfl, fun j hj => ?_⟩⟩
  simp at hj
  have := hc (k + j) (by omega)
  rw [Nat.add_assoc, this]
  simp
theorem Ints.drop_end {w : World} {a : Option Addr} {n cap k c : Nat} {xs : List Int} (h : Ints w (.slice a n cap) xs) (hk : n ≤ k) : Ints w (.slice a 0 0) (xs.drop k) ∧ (c = 0 → Ints w (.slice a 0 c) (xs.drop k)) := by
  obtain ⟨a', cap', he, h1, hm, h2, h4⟩ := h
  simp only [Value.slice.injEq] at he
  obtain ⟨rfl, rfl, rfl⟩ := he
  have hd : xs.drop k = [] := List.drop_of_length_le hk
  rw [hd]
  have h0 : Ints w (.slice a 0 0) [] := ⟨a, 0, rfl, Nat.le_refl _, by unfold maxLen; omega, by simp, fun h => by omega⟩
  exact ⟨h0, fun hc => by subst hc; exact h0⟩

set_option maxHeartbeats 2000000 in
theorem xmove_e1 (xs q to : List Int) (pos : Int) (kind : Int) (v1 v2 : Value) (w : World) (h1 : Ints w v1 xs) (h2 : OpAt w v2 kind q to pos) (s1 : smallB xs = false)
    (hm : moveP xs kind q to pos = none) :
    Calls Try.prog 23 #[v1, v2] w (Mv (moveP xs kind q to pos) w) := by
  obtain ⟨pv, tv, r4, r5, r6, r7, r8, r9, r10, r11, r12, r13, r14, r15, r16, r17, r18, r19, r20, rfl, hp, ht⟩ := h2
  have HM := Lib.hid hm
  obtain ⟨a1, c1, rfl⟩ := h1.slice
  have b1 := h1.len
  obtain ⟨a2, n2, c2, rfl⟩ := hp.slice3
  obtain ⟨a3, n3, c3, rfl⟩ := ht.slice3
  clear hm
  go_enter Try.func23, Try.ntmps23
  go_wp2_with fail
  refine (small_any _ _ _ (h1.alloc _)).mono ?_
  rintro e w1 ⟨rfl, rfl⟩
  rw [s1]
  go_wp2
  go_ret2
  exact Mv.none_ HM.out (gr_al (gr_refl w) _)

set_option maxHeartbeats 2000000 in
theorem xmove_e2 (xs q to : List Int) (pos : Int) (kind : Int) (v1 v2 : Value) (w : World) (h1 : Ints w v1 xs) (h2 : OpAt w v2 kind q to pos) (s1 : smallB xs = true) (s2 : smallB q = false)
    (hm : moveP xs kind q to pos = none) :
    Calls Try.prog 23 #[v1, v2] w (Mv (moveP xs kind q to pos) w) := by
  obtain ⟨pv, tv, r4, r5, r6, r7, r8, r9, r10, r11, r12, r13, r14, r15, r16, r17, r18, r19, r20, rfl, hp, ht⟩ := h2
  have HM := Lib.hid hm
  obtain ⟨a1, c1, rfl⟩ := h1.slice
  have b1 := h1.len
  obtain ⟨a2, n2, c2, rfl⟩ := hp.slice3
  obtain ⟨a3, n3, c3, rfl⟩ := ht.slice3
  clear hm
  go_enter Try.func23, Try.ntmps23
  go_wp2_with fail
  refine (small_any _ _ _ (h1.alloc _)).mono ?_
  rintro e w1 ⟨rfl, rfl⟩
  rw [s1]
  go_wp2_with fail
  refine (small_any _ _ _ (hp.alloc _)).mono ?_
  rintro e w1 ⟨rfl, rfl⟩
  rw [s2]
  go_wp2
  go_ret2
  exact Mv.none_ HM.out (gr_al (gr_refl w) _)

set_option maxHeartbeats 2000000 in
theorem xmove_e3 (xs q to : List Int) (pos : Int) (kind : Int) (v1 v2 : Value) (w : World) (h1 : Ints w v1 xs) (h2 : OpAt w v2 kind q to pos) (s1 : smallB xs = true) (s2 : smallB q = true) (s3 : smallB to = false)
    (hm : moveP xs kind q to pos = none) :
    Calls Try.prog 23 #[v1, v2] w (Mv (moveP xs kind q to pos) w) := by
  obtain ⟨pv, tv, r4, r5, r6, r7, r8, r9, r10, r11, r12, r13, r14, r15, r16, r17, r18, r19, r20, rfl, hp, ht⟩ := h2
  have HM := Lib.hid hm
  obtain ⟨a1, c1, rfl⟩ := h1.slice
  have b1 := h1.len
  obtain ⟨a2, n2, c2, rfl⟩ := hp.slice3
  obtain ⟨a3, n3, c3, rfl⟩ := ht.slice3
  clear hm
  go_enter Try.func23, Try.ntmps23
  go_wp2_with fail
  refine (small_any _ _ _ (h1.alloc _)).mono ?_
  rintro e w1 ⟨rfl, rfl⟩
  rw [s1]
  go_wp2_with fail
  refine (small_any _ _ _ (hp.alloc _)).mono ?_
  rintro e w1 ⟨rfl, rfl⟩
  rw [s2]
  go_wp2_with fail
  refine (small_any _ _ _ (ht.alloc _)).mono ?_
  rintro e w1 ⟨rfl, rfl⟩
  rw [s3]
  go_wp2
  go_ret2
  exact Mv.none_ HM.out (gr_al (gr_refl w) _)

set_option maxHeartbeats 2000000 in
theorem xmove_e4 (xs q to : List Int) (pos : Int) (kind : Int) (v1 v2 : Value) (w : World) (h1 : Ints w v1 xs) (h2 : OpAt w v2 kind q to pos) (s1 : smallB xs = true) (s2 : smallB q = true) (s3 : smallB to = true) (s4 : smallB [pos] = false)
    (hm : moveP xs kind q to pos = none) :
    Calls Try.prog 23 #[v1, v2] w (Mv (moveP xs kind q to pos) w) := by
  obtain ⟨pv, tv, r4, r5, r6, r7, r8, r9, r10, r11, r12, r13, r14, r15, r16, r17, r18, r19, r20, rfl, hp, ht⟩ := h2
  have HM := Lib.hid hm
  obtain ⟨a1, c1, rfl⟩ := h1.slice
  have b1 := h1.len
  obtain ⟨a2, n2, c2, rfl⟩ := hp.slice3
  obtain ⟨a3, n3, c3, rfl⟩ := ht.slice3
  clear hm
  go_enter Try.func23, Try.ntmps23
  go_wp2_with fail
  refine (small_any _ _ _ (h1.alloc _)).mono ?_
  rintro e w1 ⟨rfl, rfl⟩
  rw [s1]
  go_wp2_with fail
  refine (small_any _ _ _ (hp.alloc _)).mono ?_
  rintro e w1 ⟨rfl, rfl⟩
  rw [s2]
  go_wp2_with fail
  refine (small_any _ _ _ (ht.alloc _)).mono ?_
  rintro e w1 ⟨rfl, rfl⟩
  rw [s3]
  go_wp2_with fail
  refine (small_any [pos] _ _ (lit_ints (w.alloc _) _ 1 (w.heap.size + 1) _ (by simp) rfl rfl (by simp))).mono ?_
  rintro e w1 ⟨rfl, rfl⟩
  rw [s4]
  go_wp2
  go_ret2
  exact Mv.none_ HM.out (gr_al (gr_al (gr_refl w) _) _)

set_option maxHeartbeats 2000000 in
theorem xmove_z (xs q to : List Int) (pos : Int) (kind : Int) (v1 v2 : Value) (w : World) (h1 : Ints w v1 xs) (h2 : OpAt w v2 kind q to pos) (s1 : smallB xs = true) (s2 : smallB q = true) (s3 : smallB to = true) (s4 : smallB [pos] = true) (hq : q.length = 0)
    (hm : moveP xs kind q to pos = some xs) :
    Calls Try.prog 23 #[v1, v2] w (Mv (moveP xs kind q to pos) w) := by
  obtain ⟨pv, tv, r4, r5, r6, r7, r8, r9, r10, r11, r12, r13, r14, r15, r16, r17, r18, r19, r20, rfl, hp, ht⟩ := h2
  have HM := Lib.hid hm
  obtain ⟨a1, c1, rfl⟩ := h1.slice
  have b1 := h1.len
  have HH : Hid (standsN q xs = 0) := by show _ = _; rw [standsN, if_pos hq]
  obtain ⟨a2, c2, rfl⟩ := hp.slice_len hq
  obtain ⟨a3, n3, c3, rfl⟩ := ht.slice3
  clear hm hq
  go_enter Try.func23, Try.ntmps23
  go_wp2_with fail
  refine (small_any _ _ _ (h1.alloc _)).mono ?_
  rintro e w1 ⟨rfl, rfl⟩
  rw [s1]
  go_wp2_with fail
  refine (small_any _ _ _ (hp.alloc _)).mono ?_
  rintro e w1 ⟨rfl, rfl⟩
  rw [s2]
  go_wp2_with fail
  refine (small_any _ _ _ (ht.alloc _)).mono ?_
  rintro e w1 ⟨rfl, rfl⟩
  rw [s3]
  go_wp2_with fail
  refine (small_any [pos] _ _ (lit_ints (w.alloc _) _ 1 (w.heap.size + 1) _ (by simp) rfl rfl (by simp))).mono ?_
  rintro e w1 ⟨rfl, rfl⟩
  rw [s4]
  go_wp2_with fail
  refine (stands_any _ _ _ _ _ ((hp.alloc _).alloc _) ((h1.alloc _).alloc _)).mono ?_
  rintro e w2 ⟨rfl, hs⟩
  rw [HH.out]
  have q0 := (hs.cell _).trans (box_cell w _ _ _ 0 _ rfl)
  have q1 := (hs.cell _).trans (box_cell w _ _ _ 1 _ rfl)
  have q2 := (hs.cell _).trans (box_cell w _ _ _ 2 _ rfl)
  have q3 := (hs.cell _).trans (box_cell w _ _ _ 3 _ rfl)
  have hb := gr_sm (gr_al (gr_al (gr_refl w) _) _) hs
  have i1 := ((h1.alloc _).alloc _).same hs
  have i2 := ((hp.alloc _).alloc _).same hs
  have i3 := ((ht.alloc _).alloc _).same hs
  have hsz : w.heap.size < w2.heap.size := by rw [hs.size]; simp; omega
  clear h1 hp ht
  go_wp2_with fail
  refine (clone_ints xs _ _ i1).mono ?_
  rintro e w3 ⟨v', rfl, ho, hbk⟩
  go_wp2
  go_ret2
  exact Mv.some_ HM.out (ho.mono hb.size) (gr_tr hb hbk)

set_option maxHeartbeats 2000000 in
theorem xmove_k1h0 (xs q to : List Int) (pos : Int) (v1 v2 : Value) (w : World) (h1 : Ints w v1 xs) (h2 : OpAt w v2 1 q to pos) (s1 : smallB xs = true) (s2 : smallB q = true) (s3 : smallB to = true) (s4 : smallB [pos] = true) (hq : 0 < q.length) (hh : standsN q xs = 0)
    (hm : moveP xs 1 q to pos = some (insL xs q)) :
    Calls Try.prog 23 #[v1, v2] w (Mv (moveP xs 1 q to pos) w) := by
  obtain ⟨pv, tv, r4, r5, r6, r7, r8, r9, r10, r11, r12, r13, r14, r15, r16, r17, r18, r19, r20, rfl, hp, ht⟩ := h2
  have HM := Lib.hid hm
  obtain ⟨a1, c1, rfl⟩ := h1.slice
  have b1 := h1.len
  have HH := Lib.hid hh
  obtain ⟨n, hn⟩ : ∃ n, q.length = n + 1 := ⟨q.length - 1, by omega⟩
  have HN := Lib.hid hn
  obtain ⟨a2, c2, rfl⟩ := hp.slice_len hn
  obtain ⟨a3, n3, c3, rfl⟩ := ht.slice3
  have b2 := hp.len
  rw [hn] at b2
  have SS1 := Lib.hid s1
  clear hm hh hn hq
  go_enter Try.func23, Try.ntmps23
  go_wp2_with fail
  refine (small_any _ _ _ (h1.alloc _)).mono ?_
  rintro e w1 ⟨rfl, rfl⟩
  rw [s1]
  go_wp2_with fail
  refine (small_any _ _ _ (hp.alloc _)).mono ?_
  rintro e w1 ⟨rfl, rfl⟩
  rw [s2]
  go_wp2_with fail
  refine (small_any _ _ _ (ht.alloc _)).mono ?_
  rintro e w1 ⟨rfl, rfl⟩
  rw [s3]
  go_wp2_with fail
  refine (small_any [pos] _ _ (lit_ints (w.alloc _) _ 1 (w.heap.size + 1) _ (by simp) rfl rfl (by simp))).mono ?_
  rintro e w1 ⟨rfl, rfl⟩
  rw [s4]
  go_wp2_with fail
  refine (stands_any _ _ _ _ _ ((hp.alloc _).alloc _) ((h1.alloc _).alloc _)).mono ?_
  rintro e w2 ⟨rfl, hs⟩
  rw [HH.out]
  have q0 := (hs.cell _).trans (box_cell w _ _ _ 0 _ rfl)
  have q1 := (hs.cell _).trans (box_cell w _ _ _ 1 _ rfl)
  have q2 := (hs.cell _).trans (box_cell w _ _ _ 2 _ rfl)
  have q3 := (hs.cell _).trans (box_cell w _ _ _ 3 _ rfl)
  have hb := gr_sm (gr_al (gr_al (gr_refl w) _) _) hs
  have i1 := ((h1.alloc _).alloc _).same hs
  have i2 := ((hp.alloc _).alloc _).same hs
  have i3 := ((ht.alloc _).alloc _).same hs
  have hsz : w.heap.size < w2.heap.size := by rw [hs.size]; simp; omega
  clear h1 hp ht
  go_wp2_with fail
  refine (inserted_any xs q _ _ _ i1 i2 (by intro x hx; have := smallB_iff.1 SS1.out x hx; omega)).mono ?_
  rintro e w3 ⟨v', rfl, ho, hbk⟩
  go_wp2
  go_ret2
  exact Mv.some_ HM.out (ho.mono hb.size) (gr_tr hb hbk)

set_option maxHeartbeats 2000000 in
theorem xmove_k1h1 (xs q to : List Int) (pos : Int) (v1 v2 : Value) (w : World) (h1 : Ints w v1 xs) (h2 : OpAt w v2 1 q to pos) (s1 : smallB xs = true) (s2 : smallB q = true) (s3 : smallB to = true) (s4 : smallB [pos] = true) (hq : 0 < q.length) (hh : standsN q xs = 1)
    (hm : moveP xs 1 q to pos = some (insL xs q)) :
    Calls Try.prog 23 #[v1, v2] w (Mv (moveP xs 1 q to pos) w) := by
  obtain ⟨pv, tv, r4, r5, r6, r7, r8, r9, r10, r11, r12, r13, r14, r15, r16, r17, r18, r19, r20, rfl, hp, ht⟩ := h2
  have HM := Lib.hid hm
  obtain ⟨a1, c1, rfl⟩ := h1.slice
  have b1 := h1.len
  have HH := Lib.hid hh
  obtain ⟨n, hn⟩ : ∃ n, q.length = n + 1 := ⟨q.length - 1, by omega⟩
  have HN := Lib.hid hn
  obtain ⟨a2, c2, rfl⟩ := hp.slice_len hn
  obtain ⟨a3, n3, c3, rfl⟩ := ht.slice3
  have b2 := hp.len
  rw [hn] at b2
  have l1 : n + 1 ≤ xs.length := by have := (stands_len (q := q) (p := xs) (by rw [hh]; decide)).2; omega
  have SS1 := Lib.hid s1
  clear hm hh hn hq
  go_enter Try.func23, Try.ntmps23
  go_wp2_with fail
  refine (small_any _ _ _ (h1.alloc _)).mono ?_
  rintro e w1 ⟨rfl, rfl⟩
  rw [s1]
  go_wp2_with fail
  refine (small_any _ _ _ (hp.alloc _)).mono ?_
  rintro e w1 ⟨rfl, rfl⟩
  rw [s2]
  go_wp2_with fail
  refine (small_any _ _ _ (ht.alloc _)).mono ?_
  rintro e w1 ⟨rfl, rfl⟩
  rw [s3]
  go_wp2_with fail
  refine (small_any [pos] _ _ (lit_ints (w.alloc _) _ 1 (w.heap.size + 1) _ (by simp) rfl rfl (by simp))).mono ?_
  rintro e w1 ⟨rfl, rfl⟩
  rw [s4]
  go_wp2_with fail
  refine (stands_any _ _ _ _ _ ((hp.alloc _).alloc _) ((h1.alloc _).alloc _)).mono ?_
  rintro e w2 ⟨rfl, hs⟩
  rw [HH.out]
  have q0 := (hs.cell _).trans (box_cell w _ _ _ 0 _ rfl)
  have q1 := (hs.cell _).trans (box_cell w _ _ _ 1 _ rfl)
  have q2 := (hs.cell _).trans (box_cell w _ _ _ 2 _ rfl)
  have q3 := (hs.cell _).trans (box_cell w _ _ _ 3 _ rfl)
  have hb := gr_sm (gr_al (gr_al (gr_refl w) _) _) hs
  have i1 := ((h1.alloc _).alloc _).same hs
  have i2 := ((hp.alloc _).alloc _).same hs
  have i3 := ((ht.alloc _).alloc _).same hs
  have hsz : w.heap.size < w2.heap.size := by rw [hs.size]; simp; omega
  clear h1 hp ht
  go_wp2_with fail
  refine (inserted_any xs q _ _ _ i1 i2 (by intro x hx; have := smallB_iff.1 SS1.out x hx; omega)).mono ?_
  rintro e w3 ⟨v', rfl, ho, hbk⟩
  go_wp2
  go_ret2
  exact Mv.some_ HM.out (ho.mono hb.size) (gr_tr hb hbk)

set_option maxHeartbeats 2000000 in
theorem xmove_k1h2 (xs q to : List Int) (pos : Int) (v1 v2 : Value) (w : World) (h1 : Ints w v1 xs) (h2 : OpAt w v2 1 q to pos) (s1 : smallB xs = true) (s2 : smallB q = true) (s3 : smallB to = true) (s4 : smallB [pos] = true) (hq : 0 < q.length) (hh : standsN q xs = 2)
    (hm : moveP xs 1 q to pos = some (insL xs q)) :
    Calls Try.prog 23 #[v1, v2] w (Mv (moveP xs 1 q to pos) w) := by
  obtain ⟨pv, tv, r4, r5, r6, r7, r8, r9, r10, r11, r12, r13, r14, r15, r16, r17, r18, r19, r20, rfl, hp, ht⟩ := h2
  have HM := Lib.hid hm
  obtain ⟨a1, c1, rfl⟩ := h1.slice
  have b1 := h1.len
  have HH := Lib.hid hh
  obtain ⟨n, hn⟩ : ∃ n, q.length = n + 1 := ⟨q.length - 1, by omega⟩
  have HN := Lib.hid hn
  obtain ⟨a2, c2, rfl⟩ := hp.slice_len hn
  obtain ⟨a3, n3, c3, rfl⟩ := ht.slice3
  have b2 := hp.len
  rw [hn] at b2
  have l1 : n + 1 ≤ xs.length := by have := (stands_len (q := q) (p := xs) (by rw [hh]; decide)).2; omega
  have l2 : n + 1 < xs.length := by have := stands_above_lt hh; omega
  have SS1 := Lib.hid s1
  clear hm hh hn hq
  go_enter Try.func23, Try.ntmps23
  go_wp2_with fail
  refine (small_any _ _ _ (h1.alloc _)).mono ?_
  rintro e w1 ⟨rfl, rfl⟩
  rw [s1]
  go_wp2_with fail
  refine (small_any _ _ _ (hp.alloc _)).mono ?_
  rintro e w1 ⟨rfl, rfl⟩
  rw [s2]
  go_wp2_with fail
  refine (small_any _ _ _ (ht.alloc _)).mono ?_
  rintro e w1 ⟨rfl, rfl⟩
  rw [s3]
  go_wp2_with fail
  refine (small_any [pos] _ _ (lit_ints (w.alloc _) _ 1 (w.heap.size + 1) _ (by simp) rfl rfl (by simp))).mono ?_
  rintro e w1 ⟨rfl, rfl⟩
  rw [s4]
  go_wp2_with fail
  refine (stands_any _ _ _ _ _ ((hp.alloc _).alloc _) ((h1.alloc _).alloc _)).mono ?_
  rintro e w2 ⟨rfl, hs⟩
  rw [HH.out]
  have q0 := (hs.cell _).trans (box_cell w _ _ _ 0 _ rfl)
  have q1 := (hs.cell _).trans (box_cell w _ _ _ 1 _ rfl)
  have q2 := (hs.cell _).trans (box_cell w _ _ _ 2 _ rfl)
  have q3 := (hs.cell _).trans (box_cell w _ _ _ 3 _ rfl)
  have hb := gr_sm (gr_al (gr_al (gr_refl w) _) _) hs
  have i1 := ((h1.alloc _).alloc _).same hs
  have i2 := ((hp.alloc _).alloc _).same hs
  have i3 := ((ht.alloc _).alloc _).same hs
  have hsz : w.heap.size < w2.heap.size := by rw [hs.size]; simp; omega
  clear h1 hp ht
  go_wp2_with fail
  refine (inserted_any xs q _ _ _ i1 i2 (by intro x hx; have := smallB_iff.1 SS1.out x hx; omega)).mono ?_
  rintro e w3 ⟨v', rfl, ho, hbk⟩
  go_wp2
  go_ret2
  exact Mv.some_ HM.out (ho.mono hb.size) (gr_tr hb hbk)

set_option maxHeartbeats 2000000 in
theorem xmove_k1h3 (xs q to : List Int) (pos : Int) (v1 v2 : Value) (w : World) (h1 : Ints w v1 xs) (h2 : OpAt w v2 1 q to pos) (s1 : smallB xs = true) (s2 : smallB q = true) (s3 : smallB to = true) (s4 : smallB [pos] = true) (hq : 0 < q.length) (hh : standsN q xs = 3)
    (hm : moveP xs 1 q to pos = some (insL xs q)) :
    Calls Try.prog 23 #[v1, v2] w (Mv (moveP xs 1 q to pos) w) := by
  obtain ⟨pv, tv, r4, r5, r6, r7, r8, r9, r10, r11, r12, r13, r14, r15, r16, r17, r18, r19, r20, rfl, hp, ht⟩ := h2
  have HM := Lib.hid hm
  obtain ⟨a1, c1, rfl⟩ := h1.slice
  have b1 := h1.len
  have HH := Lib.hid hh
  obtain ⟨n, hn⟩ : ∃ n, q.length = n + 1 := ⟨q.length - 1, by omega⟩
  have HN := Lib.hid hn
  obtain ⟨a2, c2, rfl⟩ := hp.slice_len hn
  obtain ⟨a3, n3, c3, rfl⟩ := ht.slice3
  have b2 := hp.len
  rw [hn] at b2
  have l1 : n + 1 ≤ xs.length := by have := (stands_len (q := q) (p := xs) (by rw [hh]; decide)).2; omega
  have SS1 := Lib.hid s1
  clear hm hh hn hq
  go_enter Try.func23, Try.ntmps23
  go_wp2_with fail
  refine (small_any _ _ _ (h1.alloc _)).mono ?_
  rintro e w1 ⟨rfl, rfl⟩
  rw [s1]
  go_wp2_with fail
  refine (small_any _ _ _ (hp.alloc _)).mono ?_
  rintro e w1 ⟨rfl, rfl⟩
  rw [s2]
  go_wp2_with fail
  refine (small_any _ _ _ (ht.alloc _)).mono ?_
  rintro e w1 ⟨rfl, rfl⟩
  rw [s3]
  go_wp2_with fail
  refine (small_any [pos] _ _ (lit_ints (w.alloc _) _ 1 (w.heap.size + 1) _ (by simp) rfl rfl (by simp))).mono ?_
  rintro e w1 ⟨rfl, rfl⟩
  rw [s4]
  go_wp2_with fail
  refine (stands_any _ _ _ _ _ ((hp.alloc _).alloc _) ((h1.alloc _).alloc _)).mono ?_
  rintro e w2 ⟨rfl, hs⟩
  rw [HH.out]
  have q0 := (hs.cell _).trans (box_cell w _ _ _ 0 _ rfl)
  have q1 := (hs.cell _).trans (box_cell w _ _ _ 1 _ rfl)
  have q2 := (hs.cell _).trans (box_cell w _ _ _ 2 _ rfl)
  have q3 := (hs.cell _).trans (box_cell w _ _ _ 3 _ rfl)
  have hb := gr_sm (gr_al (gr_al (gr_refl w) _) _) hs
  have i1 := ((h1.alloc _).alloc _).same hs
  have i2 := ((hp.alloc _).alloc _).same hs
  have i3 := ((ht.alloc _).alloc _).same hs
  have hsz : w.heap.size < w2.heap.size := by rw [hs.size]; simp; omega
  clear h1 hp ht
  go_wp2_with fail
  refine (inserted_any xs q _ _ _ i1 i2 (by intro x hx; have := smallB_iff.1 SS1.out x hx; omega)).mono ?_
  rintro e w3 ⟨v', rfl, ho, hbk⟩
  go_wp2
  go_ret2
  exact Mv.some_ HM.out (ho.mono hb.size) (gr_tr hb hbk)

set_option maxHeartbeats 2000000 in
theorem xmove_k2h3 (xs q to : List Int) (pos : Int) (v1 v2 : Value) (w : World) (h1 : Ints w v1 xs) (h2 : OpAt w v2 2 q to pos) (s1 : smallB xs = true) (s2 : smallB q = true) (s3 : smallB to = true) (s4 : smallB [pos] = true) (hq : 0 < q.length) (hh : standsN q xs = 3)
    (hm : moveP xs 2 q to pos = none) :
    Calls Try.prog 23 #[v1, v2] w (Mv (moveP xs 2 q to pos) w) := by
  obtain ⟨pv, tv, r4, r5, r6, r7, r8, r9, r10, r11, r12, r13, r14, r15, r16, r17, r18, r19, r20, rfl, hp, ht⟩ := h2
  have HM := Lib.hid hm
  obtain ⟨a1, c1, rfl⟩ := h1.slice
  have b1 := h1.len
  have HH := Lib.hid hh
  obtain ⟨n, hn⟩ : ∃ n, q.length = n + 1 := ⟨q.length - 1, by omega⟩
  have HN := Lib.hid hn
  obtain ⟨a2, c2, rfl⟩ := hp.slice_len hn
  obtain ⟨a3, n3, c3, rfl⟩ := ht.slice3
  have b2 := hp.len
  rw [hn] at b2
  have l1 : n + 1 ≤ xs.length := by have := (stands_len (q := q) (p := xs) (by rw [hh]; decide)).2; omega
  clear hm hh hn hq
  go_enter Try.func23, Try.ntmps23
  go_wp2_with fail
  refine (small_any _ _ _ (h1.alloc _)).mono ?_
  rintro e w1 ⟨rfl, rfl⟩
  rw [s1]
  go_wp2_with fail
  refine (small_any _ _ _ (hp.alloc _)).mono ?_
  rintro e w1 ⟨rfl, rfl⟩
  rw [s2]
  go_wp2_with fail
  refine (small_any _ _ _ (ht.alloc _)).mono ?_
  rintro e w1 ⟨rfl, rfl⟩
  rw [s3]
  go_wp2_with fail
  refine (small_any [pos] _ _ (lit_ints (w.alloc _) _ 1 (w.heap.size + 1) _ (by simp) rfl rfl (by simp))).mono ?_
  rintro e w1 ⟨rfl, rfl⟩
  rw [s4]
  go_wp2_with fail
  refine (stands_any _ _ _ _ _ ((hp.alloc _).alloc _) ((h1.alloc _).alloc _)).mono ?_
  rintro e w2 ⟨rfl, hs⟩
  rw [HH.out]
  have q0 := (hs.cell _).trans (box_cell w _ _ _ 0 _ rfl)
  have q1 := (hs.cell _).trans (box_cell w _ _ _ 1 _ rfl)
  have q2 := (hs.cell _).trans (box_cell w _ _ _ 2 _ rfl)
  have q3 := (hs.cell _).trans (box_cell w _ _ _ 3 _ rfl)
  have hb := gr_sm (gr_al (gr_al (gr_refl w) _) _) hs
  have i1 := ((h1.alloc _).alloc _).same hs
  have i2 := ((hp.alloc _).alloc _).same hs
  have i3 := ((ht.alloc _).alloc _).same hs
  have hsz : w.heap.size < w2.heap.size := by rw [hs.size]; simp; omega
  clear h1 hp ht
  go_wp2
  go_ret2
  exact Mv.none_ HM.out hb

set_option maxHeartbeats 2000000 in
theorem xmove_k2h2 (xs q to : List Int) (pos : Int) (v1 v2 : Value) (w : World) (h1 : Ints w v1 xs) (h2 : OpAt w v2 2 q to pos) (s1 : smallB xs = true) (s2 : smallB q = true) (s3 : smallB to = true) (s4 : smallB [pos] = true) (hq : 0 < q.length) (hh : standsN q xs = 2)
    (hm : moveP xs 2 q to pos = none) :
    Calls Try.prog 23 #[v1, v2] w (Mv (moveP xs 2 q to pos) w) := by
  obtain ⟨pv, tv, r4, r5, r6, r7, r8, r9, r10, r11, r12, r13, r14, r15, r16, r17, r18, r19, r20, rfl, hp, ht⟩ := h2
  have HM := Lib.hid hm
  obtain ⟨a1, c1, rfl⟩ := h1.slice
  have b1 := h1.len
  have HH := Lib.hid hh
  obtain ⟨n, hn⟩ : ∃ n, q.length = n + 1 := ⟨q.length - 1, by omega⟩
  have HN := Lib.hid hn
  obtain ⟨a2, c2, rfl⟩ := hp.slice_len hn
  obtain ⟨a3, n3, c3, rfl⟩ := ht.slice3
  have b2 := hp.len
  rw [hn] at b2
  have l1 : n + 1 ≤ xs.length := by have := (stands_len (q := q) (p := xs) (by rw [hh]; decide)).2; omega
  have l2 : n + 1 < xs.length := by have := stands_above_lt hh; omega
  clear hm hh hn hq
  go_enter Try.func23, Try.ntmps23
  go_wp2_with fail
  refine (small_any _ _ _ (h1.alloc _)).mono ?_
  rintro e w1 ⟨rfl, rfl⟩
  rw [s1]
  go_wp2_with fail
  refine (small_any _ _ _ (hp.alloc _)).mono ?_
  rintro e w1 ⟨rfl, rfl⟩
  rw [s2]
  go_wp2_with fail
  refine (small_any _ _ _ (ht.alloc _)).mono ?_
  rintro e w1 ⟨rfl, rfl⟩
  rw [s3]
  go_wp2_with fail
  refine (small_any [pos] _ _ (lit_ints (w.alloc _) _ 1 (w.heap.size + 1) _ (by simp) rfl rfl (by simp))).mono ?_
  rintro e w1 ⟨rfl, rfl⟩
  rw [s4]
  go_wp2_with fail
  refine (stands_any _ _ _ _ _ ((hp.alloc _).alloc _) ((h1.alloc _).alloc _)).mono ?_
  rintro e w2 ⟨rfl, hs⟩
  rw [HH.out]
  have q0 := (hs.cell _).trans (box_cell w _ _ _ 0 _ rfl)
  have q1 := (hs.cell _).trans (box_cell w _ _ _ 1 _ rfl)
  have q2 := (hs.cell _).trans (box_cell w _ _ _ 2 _ rfl)
  have q3 := (hs.cell _).trans (box_cell w _ _ _ 3 _ rfl)
  have hb := gr_sm (gr_al (gr_al (gr_refl w) _) _) hs
  have i1 := ((h1.alloc _).alloc _).same hs
  have i2 := ((hp.alloc _).alloc _).same hs
  have i3 := ((ht.alloc _).alloc _).same hs
  have hsz : w.heap.size < w2.heap.size := by rw [hs.size]; simp; omega
  clear h1 hp ht
  go_wp2
  go_ret2
  exact Mv.none_ HM.out hb

set_option maxHeartbeats 2000000 in
theorem xmove_k2h1 (xs q to : List Int) (pos : Int) (v1 v2 : Value) (w : World) (h1 : Ints w v1 xs) (h2 : OpAt w v2 2 q to pos) (s1 : smallB xs = true) (s2 : smallB q = true) (s3 : smallB to = true) (s4 : smallB [pos] = true) (hq : 0 < q.length) (hh : standsN q xs = 1)
    (hm : moveP xs 2 q to pos = some (shiftL xs (q.length - 1) (-1))) :
    Calls Try.prog 23 #[v1, v2] w (Mv (moveP xs 2 q to pos) w) := by
  obtain ⟨pv, tv, r4, r5, r6, r7, r8, r9, r10, r11, r12, r13, r14, r15, r16, r17, r18, r19, r20, rfl, hp, ht⟩ := h2
  have HM := Lib.hid hm
  obtain ⟨a1, c1, rfl⟩ := h1.slice
  have b1 := h1.len
  have HH := Lib.hid hh
  obtain ⟨n, hn⟩ : ∃ n, q.length = n + 1 := ⟨q.length - 1, by omega⟩
  have HN := Lib.hid hn
  obtain ⟨a2, c2, rfl⟩ := hp.slice_len hn
  obtain ⟨a3, n3, c3, rfl⟩ := ht.slice3
  have b2 := hp.len
  rw [hn] at b2
  have l1 : n + 1 ≤ xs.length := by have := (stands_len (q := q) (p := xs) (by rw [hh]; decide)).2; omega
  have SS1 := Lib.hid s1
  clear hm hh hn hq
  go_enter Try.func23, Try.ntmps23
  go_wp2_with fail
  refine (small_any _ _ _ (h1.alloc _)).mono ?_
  rintro e w1 ⟨rfl, rfl⟩
  rw [s1]
  go_wp2_with fail
  refine (small_any _ _ _ (hp.alloc _)).mono ?_
  rintro e w1 ⟨rfl, rfl⟩
  rw [s2]
  go_wp2_with fail
  refine (small_any _ _ _ (ht.alloc _)).mono ?_
  rintro e w1 ⟨rfl, rfl⟩
  rw [s3]
  go_wp2_with fail
  refine (small_any [pos] _ _ (lit_ints (w.alloc _) _ 1 (w.heap.size + 1) _ (by simp) rfl rfl (by simp))).mono ?_
  rintro e w1 ⟨rfl, rfl⟩
  rw [s4]
  go_wp2_with fail
  refine (stands_any _ _ _ _ _ ((hp.alloc _).alloc _) ((h1.alloc _).alloc _)).mono ?_
  rintro e w2 ⟨rfl, hs⟩
  rw [HH.out]
  have q0 := (hs.cell _).trans (box_cell w _ _ _ 0 _ rfl)
  have q1 := (hs.cell _).trans (box_cell w _ _ _ 1 _ rfl)
  have q2 := (hs.cell _).trans (box_cell w _ _ _ 2 _ rfl)
  have q3 := (hs.cell _).trans (box_cell w _ _ _ 3 _ rfl)
  have hb := gr_sm (gr_al (gr_al (gr_refl w) _) _) hs
  have i1 := ((h1.alloc _).alloc _).same hs
  have i2 := ((hp.alloc _).alloc _).same hs
  have i3 := ((ht.alloc _).alloc _).same hs
  have hsz : w.heap.size < w2.heap.size := by rw [hs.size]; simp; omega
  clear h1 hp ht
  go_wp2_with fail
  refine (shift_any xs _ n (-1) _ i1 (by omega) (by have := small_get SS1.out n; omega)).mono ?_
  rintro e w3 ⟨v', rfl, ho, hbk⟩
  go_wp2
  go_ret2
  have hfin : q.length - 1 = n := by have := HN.out; omega
  exact Mv.some_ HM.out (by rw [hfin]; exact ho.mono hb.size) (gr_tr hb hbk)

set_option maxHeartbeats 2000000 in
theorem xmove_k2h0 (xs q to : List Int) (pos : Int) (v1 v2 : Value) (w : World) (h1 : Ints w v1 xs) (h2 : OpAt w v2 2 q to pos) (s1 : smallB xs = true) (s2 : smallB q = true) (s3 : smallB to = true) (s4 : smallB [pos] = true) (hq : 0 < q.length) (hh : standsN q xs = 0)
    (hm : moveP xs 2 q to pos = some xs) :
    Calls Try.prog 23 #[v1, v2] w (Mv (moveP xs 2 q to pos) w) := by
  obtain ⟨pv, tv, r4, r5, r6, r7, r8, r9, r10, r11, r12, r13, r14, r15, r16, r17, r18, r19, r20, rfl, hp, ht⟩ := h2
  have HM := Lib.hid hm
  obtain ⟨a1, c1, rfl⟩ := h1.slice
  have b1 := h1.len
  have HH := Lib.hid hh
  obtain ⟨n, hn⟩ : ∃ n, q.length = n + 1 := ⟨q.length - 1, by omega⟩
  have HN := Lib.hid hn
  obtain ⟨a2, c2, rfl⟩ := hp.slice_len hn
  obtain ⟨a3, n3, c3, rfl⟩ := ht.slice3
  have b2 := hp.len
  rw [hn] at b2
  clear hm hh hn hq
  go_enter Try.func23, Try.ntmps23
  go_wp2_with fail
  refine (small_any _ _ _ (h1.alloc _)).mono ?_
  rintro e w1 ⟨rfl, rfl⟩
  rw [s1]
  go_wp2_with fail
  refine (small_any _ _ _ (hp.alloc _)).mono ?_
  rintro e w1 ⟨rfl, rfl⟩
  rw [s2]
  go_wp2_with fail
  refine (small_any _ _ _ (ht.alloc _)).mono ?_
  rintro e w1 ⟨rfl, rfl⟩
  rw [s3]
  go_wp2_with fail
  refine (small_any [pos] _ _ (lit_ints (w.alloc _) _ 1 (w.heap.size + 1) _ (by simp) rfl rfl (by simp))).mono ?_
  rintro e w1 ⟨rfl, rfl⟩
  rw [s4]
  go_wp2_with fail
  refine (stands_any _ _ _ _ _ ((hp.alloc _).alloc _) ((h1.alloc _).alloc _)).mono ?_
  rintro e w2 ⟨rfl, hs⟩
  rw [HH.out]
  have q0 := (hs.cell _).trans (box_cell w _ _ _ 0 _ rfl)
  have q1 := (hs.cell _).trans (box_cell w _ _ _ 1 _ rfl)
  have q2 := (hs.cell _).trans (box_cell w _ _ _ 2 _ rfl)
  have q3 := (hs.cell _).trans (box_cell w _ _ _ 3 _ rfl)
  have hb := gr_sm (gr_al (gr_al (gr_refl w) _) _) hs
  have i1 := ((h1.alloc _).alloc _).same hs
  have i2 := ((hp.alloc _).alloc _).same hs
  have i3 := ((ht.alloc _).alloc _).same hs
  have hsz : w.heap.size < w2.heap.size := by rw [hs.size]; simp; omega
  clear h1 hp ht
  go_wp2_with fail
  refine (clone_ints xs _ _ i1).mono ?_
  rintro e w3 ⟨v', rfl, ho, hbk⟩
  go_wp2
  go_ret2
  exact Mv.some_ HM.out (ho.mono hb.size) (gr_tr hb hbk)

set_option maxHeartbeats 2000000 in
theorem xmove_k3zh0 (xs q to : List Int) (pos : Int) (v1 v2 : Value) (w : World) (h1 : Ints w v1 xs) (h2 : OpAt w v2 3 q to pos) (s1 : smallB xs = true) (s2 : smallB q = true) (s3 : smallB to = true) (s4 : smallB [pos] = true) (hz : q.getD (q.length - 1) 0 = 0) (hq : 0 < q.length) (hh : standsN q xs = 0)
    (hm : moveP xs 3 q to pos = none) :
    Calls Try.prog 23 #[v1, v2] w (Mv (moveP xs 3 q to pos) w) := by
  obtain ⟨pv, tv, r4, r5, r6, r7, r8, r9, r10, r11, r12, r13, r14, r15, r16, r17, r18, r19, r20, rfl, hp, ht⟩ := h2
  have HM := Lib.hid hm
  obtain ⟨a1, c1, rfl⟩ := h1.slice
  have b1 := h1.len
  have HH := Lib.hid hh
  obtain ⟨n, hn⟩ : ∃ n, q.length = n + 1 := ⟨q.length - 1, by omega⟩
  have HN := Lib.hid hn
  obtain ⟨a2, c2, rfl⟩ := hp.slice_len hn
  obtain ⟨a3, n3, c3, rfl⟩ := ht.slice3
  have b2 := hp.len
  rw [hn] at b2
  have hz2 : (q.getD n 0 == 0) = true := by rw [beq_iff_eq]; rw [hn] at hz; exact hz
  clear hz
  clear hm hh hn hq
  go_enter Try.func23, Try.ntmps23
  go_wp2_with fail
  refine (small_any _ _ _ (h1.alloc _)).mono ?_
  rintro e w1 ⟨rfl, rfl⟩
  rw [s1]
  go_wp2_with fail
  refine (small_any _ _ _ (hp.alloc _)).mono ?_
  rintro e w1 ⟨rfl, rfl⟩
  rw [s2]
  go_wp2_with fail
  refine (small_any _ _ _ (ht.alloc _)).mono ?_
  rintro e w1 ⟨rfl, rfl⟩
  rw [s3]
  go_wp2_with fail
  refine (small_any [pos] _ _ (lit_ints (w.alloc _) _ 1 (w.heap.size + 1) _ (by simp) rfl rfl (by simp))).mono ?_
  rintro e w1 ⟨rfl, rfl⟩
  rw [s4]
  go_wp2_with fail
  refine (stands_any _ _ _ _ _ ((hp.alloc _).alloc _) ((h1.alloc _).alloc _)).mono ?_
  rintro e w2 ⟨rfl, hs⟩
  rw [HH.out]
  have q0 := (hs.cell _).trans (box_cell w _ _ _ 0 _ rfl)
  have q1 := (hs.cell _).trans (box_cell w _ _ _ 1 _ rfl)
  have q2 := (hs.cell _).trans (box_cell w _ _ _ 2 _ rfl)
  have q3 := (hs.cell _).trans (box_cell w _ _ _ 3 _ rfl)
  have hb := gr_sm (gr_al (gr_al (gr_refl w) _) _) hs
  have i1 := ((h1.alloc _).alloc _).same hs
  have i2 := ((hp.alloc _).alloc _).same hs
  have i3 := ((ht.alloc _).alloc _).same hs
  have hsz : w.heap.size < w2.heap.size := by rw [hs.size]; simp; omega
  clear h1 hp ht
  obtain ⟨a', c', he, _, _, o2⟩ := i2.open_
  simp only [Value.slice.injEq] at he
  obtain ⟨rfl, hx, rfl⟩ := he
  clear hx
  obtain ⟨pb, pf, rfl, hc⟩ := o2 (by have := HN.out; omega)
  have qc : w2.cell? ⟨pb, pf + n, none⟩ = some (.int .i64 (q.getD n 0)) := hc n (by have := HN.out; omega)
  clear hc o2
  generalize q.getD n 0 = z at *
  go_wp2
  go_ret2
  exact Mv.none_ HM.out hb

set_option maxHeartbeats 2000000 in
theorem xmove_k3zh1 (xs q to : List Int) (pos : Int) (v1 v2 : Value) (w : World) (h1 : Ints w v1 xs) (h2 : OpAt w v2 3 q to pos) (s1 : smallB xs = true) (s2 : smallB q = true) (s3 : smallB to = true) (s4 : smallB [pos] = true) (hz : q.getD (q.length - 1) 0 = 0) (hq : 0 < q.length) (hh : standsN q xs = 1)
    (hm : moveP xs 3 q to pos = none) :
    Calls Try.prog 23 #[v1, v2] w (Mv (moveP xs 3 q to pos) w) := by
  obtain ⟨pv, tv, r4, r5, r6, r7, r8, r9, r10, r11, r12, r13, r14, r15, r16, r17, r18, r19, r20, rfl, hp, ht⟩ := h2
  have HM := Lib.hid hm
  obtain ⟨a1, c1, rfl⟩ := h1.slice
  have b1 := h1.len
  have HH := Lib.hid hh
  obtain ⟨n, hn⟩ : ∃ n, q.length = n + 1 := ⟨q.length - 1, by omega⟩
  have HN := Lib.hid hn
  obtain ⟨a2, c2, rfl⟩ := hp.slice_len hn
  obtain ⟨a3, n3, c3, rfl⟩ := ht.slice3
  have b2 := hp.len
  rw [hn] at b2
  have l1 : n + 1 ≤ xs.length := by have := (stands_len (q := q) (p := xs) (by rw [hh]; decide)).2; omega
  have hz2 : (q.getD n 0 == 0) = true := by rw [beq_iff_eq]; rw [hn] at hz; exact hz
  clear hz
  clear hm hh hn hq
  go_enter Try.func23, Try.ntmps23
  go_wp2_with fail
  refine (small_any _ _ _ (h1.alloc _)).mono ?_
  rintro e w1 ⟨rfl, rfl⟩
  rw [s1]
  go_wp2_with fail
  refine (small_any _ _ _ (hp.alloc _)).mono ?_
  rintro e w1 ⟨rfl, rfl⟩
  rw [s2]
  go_wp2_with fail
  refine (small_any _ _ _ (ht.alloc _)).mono ?_
  rintro e w1 ⟨rfl, rfl⟩
  rw [s3]
  go_wp2_with fail
  refine (small_any [pos] _ _ (lit_ints (w.alloc _) _ 1 (w.heap.size + 1) _ (by simp) rfl rfl (by simp))).mono ?_
  rintro e w1 ⟨rfl, rfl⟩
  rw [s4]
  go_wp2_with fail
  refine (stands_any _ _ _ _ _ ((hp.alloc _).alloc _) ((h1.alloc _).alloc _)).mono ?_
  rintro e w2 ⟨rfl, hs⟩
  rw [HH.out]
  have q0 := (hs.cell _).trans (box_cell w _ _ _ 0 _ rfl)
  have q1 := (hs.cell _).trans (box_cell w _ _ _ 1 _ rfl)
  have q2 := (hs.cell _).trans (box_cell w _ _ _ 2 _ rfl)
  have q3 := (hs.cell _).trans (box_cell w _ _ _ 3 _ rfl)
  have hb := gr_sm (gr_al (gr_al (gr_refl w) _) _) hs
  have i1 := ((h1.alloc _).alloc _).same hs
  have i2 := ((hp.alloc _).alloc _).same hs
  have i3 := ((ht.alloc _).alloc _).same hs
  have hsz : w.heap.size < w2.heap.size := by rw [hs.size]; simp; omega
  clear h1 hp ht
  obtain ⟨a', c', he, _, _, o2⟩ := i2.open_
  simp only [Value.slice.injEq] at he
  obtain ⟨rfl, hx, rfl⟩ := he
  clear hx
  obtain ⟨pb, pf, rfl, hc⟩ := o2 (by have := HN.out; omega)
  have qc : w2.cell? ⟨pb, pf + n, none⟩ = some (.int .i64 (q.getD n 0)) := hc n (by have := HN.out; omega)
  clear hc o2
  generalize q.getD n 0 = z at *
  go_wp2
  go_ret2
  exact Mv.none_ HM.out hb

set_option maxHeartbeats 2000000 in
theorem xmove_k3zh2 (xs q to : List Int) (pos : Int) (v1 v2 : Value) (w : World) (h1 : Ints w v1 xs) (h2 : OpAt w v2 3 q to pos) (s1 : smallB xs = true) (s2 : smallB q = true) (s3 : smallB to = true) (s4 : smallB [pos] = true) (hz : q.getD (q.length - 1) 0 = 0) (hq : 0 < q.length) (hh : standsN q xs = 2)
    (hm : moveP xs 3 q to pos = none) :
    Calls Try.prog 23 #[v1, v2] w (Mv (moveP xs 3 q to pos) w) := by
  obtain ⟨pv, tv, r4, r5, r6, r7, r8, r9, r10, r11, r12, r13, r14, r15, r16, r17, r18, r19, r20, rfl, hp, ht⟩ := h2
  have HM := Lib.hid hm
  obtain ⟨a1, c1, rfl⟩ := h1.slice
  have b1 := h1.len
  have HH := Lib.hid hh
  obtain ⟨n, hn⟩ : ∃ n, q.length = n + 1 := ⟨q.length - 1, by omega⟩
  have HN := Lib.hid hn
  obtain ⟨a2, c2, rfl⟩ := hp.slice_len hn
  obtain ⟨a3, n3, c3, rfl⟩ := ht.slice3
  have b2 := hp.len
  rw [hn] at b2
  have l1 : n + 1 ≤ xs.length := by have := (stands_len (q := q) (p := xs) (by rw [hh]; decide)).2; omega
  have l2 : n + 1 < xs.length := by have := stands_above_lt hh; omega
  have hz2 : (q.getD n 0 == 0) = true := by rw [beq_iff_eq]; rw [hn] at hz; exact hz
  clear hz
  clear hm hh hn hq
  go_enter Try.func23, Try.ntmps23
  go_wp2_with fail
  refine (small_any _ _ _ (h1.alloc _)).mono ?_
  rintro e w1 ⟨rfl, rfl⟩
  rw [s1]
  go_wp2_with fail
  refine (small_any _ _ _ (hp.alloc _)).mono ?_
  rintro e w1 ⟨rfl, rfl⟩
  rw [s2]
  go_wp2_with fail
  refine (small_any _ _ _ (ht.alloc _)).mono ?_
  rintro e w1 ⟨rfl, rfl⟩
  rw [s3]
  go_wp2_with fail
  refine (small_any [pos] _ _ (lit_ints (w.alloc _) _ 1 (w.heap.size + 1) _ (by simp) rfl rfl (by simp))).mono ?_
  rintro e w1 ⟨rfl, rfl⟩
  rw [s4]
  go_wp2_with fail
  refine (stands_any _ _ _ _ _ ((hp.alloc _).alloc _) ((h1.alloc _).alloc _)).mono ?_
  rintro e w2 ⟨rfl, hs⟩
  rw [HH.out]
  have q0 := (hs.cell _).trans (box_cell w _ _ _ 0 _ rfl)
  have q1 := (hs.cell _).trans (box_cell w _ _ _ 1 _ rfl)
  have q2 := (hs.cell _).trans (box_cell w _ _ _ 2 _ rfl)
  have q3 := (hs.cell _).trans (box_cell w _ _ _ 3 _ rfl)
  have hb := gr_sm (gr_al (gr_al (gr_refl w) _) _) hs
  have i1 := ((h1.alloc _).alloc _).same hs
  have i2 := ((hp.alloc _).alloc _).same hs
  have i3 := ((ht.alloc _).alloc _).same hs
  have hsz : w.heap.size < w2.heap.size := by rw [hs.size]; simp; omega
  clear h1 hp ht
  obtain ⟨a', c', he, _, _, o2⟩ := i2.open_
  simp only [Value.slice.injEq] at he
  obtain ⟨rfl, hx, rfl⟩ := he
  clear hx
  obtain ⟨pb, pf, rfl, hc⟩ := o2 (by have := HN.out; omega)
  have qc : w2.cell? ⟨pb, pf + n, none⟩ = some (.int .i64 (q.getD n 0)) := hc n (by have := HN.out; omega)
  clear hc o2
  generalize q.getD n 0 = z at *
  go_wp2
  go_ret2
  exact Mv.none_ HM.out hb

set_option maxHeartbeats 2000000 in
theorem xmove_k3zh3 (xs q to : List Int) (pos : Int) (v1 v2 : Value) (w : World) (h1 : Ints w v1 xs) (h2 : OpAt w v2 3 q to pos) (s1 : smallB xs = true) (s2 : smallB q = true) (s3 : smallB to = true) (s4 : smallB [pos] = true) (hz : q.getD (q.length - 1) 0 = 0) (hq : 0 < q.length) (hh : standsN q xs = 3)
    (hm : moveP xs 3 q to pos = none) :
    Calls Try.prog 23 #[v1, v2] w (Mv (moveP xs 3 q to pos) w) := by
  obtain ⟨pv, tv, r4, r5, r6, r7, r8, r9, r10, r11, r12, r13, r14, r15, r16, r17, r18, r19, r20, rfl, hp, ht⟩ := h2
  have HM := Lib.hid hm
  obtain ⟨a1, c1, rfl⟩ := h1.slice
  have b1 := h1.len
  have HH := Lib.hid hh
  obtain ⟨n, hn⟩ : ∃ n, q.length = n + 1 := ⟨q.length - 1, by omega⟩
  have HN := Lib.hid hn
  obtain ⟨a2, c2, rfl⟩ := hp.slice_len hn
  obtain ⟨a3, n3, c3, rfl⟩ := ht.slice3
  have b2 := hp.len
  rw [hn] at b2
  have l1 : n + 1 ≤ xs.length := by have := (stands_len (q := q) (p := xs) (by rw [hh]; decide)).2; omega
  have hz2 : (q.getD n 0 == 0) = true := by rw [beq_iff_eq]; rw [hn] at hz; exact hz
  clear hz
  clear hm hh hn hq
  go_enter Try.func23, Try.ntmps23
  go_wp2_with fail
  refine (small_any _ _ _ (h1.alloc _)).mono ?_
  rintro e w1 ⟨rfl, rfl⟩
  rw [s1]
  go_wp2_with fail
  refine (small_any _ _ _ (hp.alloc _)).mono ?_
  rintro e w1 ⟨rfl, rfl⟩
  rw [s2]
  go_wp2_with fail
  refine (small_any _ _ _ (ht.alloc _)).mono ?_
  rintro e w1 ⟨rfl, rfl⟩
  rw [s3]
  go_wp2_with fail
  refine (small_any [pos] _ _ (lit_ints (w.alloc _) _ 1 (w.heap.size + 1) _ (by simp) rfl rfl (by simp))).mono ?_
  rintro e w1 ⟨rfl, rfl⟩
  rw [s4]
  go_wp2_with fail
  refine (stands_any _ _ _ _ _ ((hp.alloc _).alloc _) ((h1.alloc _).alloc _)).mono ?_
  rintro e w2 ⟨rfl, hs⟩
  rw [HH.out]
  have q0 := (hs.cell _).trans (box_cell w _ _ _ 0 _ rfl)
  have q1 := (hs.cell _).trans (box_cell w _ _ _ 1 _ rfl)
  have q2 := (hs.cell _).trans (box_cell w _ _ _ 2 _ rfl)
  have q3 := (hs.cell _).trans (box_cell w _ _ _ 3 _ rfl)
  have hb := gr_sm (gr_al (gr_al (gr_refl w) _) _) hs
  have i1 := ((h1.alloc _).alloc _).same hs
  have i2 := ((hp.alloc _).alloc _).same hs
  have i3 := ((ht.alloc _).alloc _).same hs
  have hsz : w.heap.size < w2.heap.size := by rw [hs.size]; simp; omega
  clear h1 hp ht
  obtain ⟨a', c', he, _, _, o2⟩ := i2.open_
  simp only [Value.slice.injEq] at he
  obtain ⟨rfl, hx, rfl⟩ := he
  clear hx
  obtain ⟨pb, pf, rfl, hc⟩ := o2 (by have := HN.out; omega)
  have qc : w2.cell? ⟨pb, pf + n, none⟩ = some (.int .i64 (q.getD n 0)) := hc n (by have := HN.out; omega)
  clear hc o2
  generalize q.getD n 0 = z at *
  go_wp2
  go_ret2
  exact Mv.none_ HM.out hb

set_option maxHeartbeats 2000000 in
theorem xmove_k3h1 (xs q to : List Int) (pos : Int) (v1 v2 : Value) (w : World) (h1 : Ints w v1 xs) (h2 : OpAt w v2 3 q to pos) (s1 : smallB xs = true) (s2 : smallB q = true) (s3 : smallB to = true) (s4 : smallB [pos] = true) (hz : ¬ q.getD (q.length - 1) 0 = 0) (hq : 0 < q.length) (hh : standsN q xs = 1)
    (hm : moveP xs 3 q to pos = some (shiftL xs (q.length - 1) (-1))) :
    Calls Try.prog 23 #[v1, v2] w (Mv (moveP xs 3 q to pos) w) := by
  obtain ⟨pv, tv, r4, r5, r6, r7, r8, r9, r10, r11, r12, r13, r14, r15, r16, r17, r18, r19, r20, rfl, hp, ht⟩ := h2
  have HM := Lib.hid hm
  obtain ⟨a1, c1, rfl⟩ := h1.slice
  have b1 := h1.len
  have HH := Lib.hid hh
  obtain ⟨n, hn⟩ : ∃ n, q.length = n + 1 := ⟨q.length - 1, by omega⟩
  have HN := Lib.hid hn
  obtain ⟨a2, c2, rfl⟩ := hp.slice_len hn
  obtain ⟨a3, n3, c3, rfl⟩ := ht.slice3
  have b2 := hp.len
  rw [hn] at b2
  have l1 : n + 1 ≤ xs.length := by have := (stands_len (q := q) (p := xs) (by rw [hh]; decide)).2; omega
  have SS1 := Lib.hid s1
  have hz2 : (q.getD n 0 == 0) = false := by rw [beq_eq_false_iff_ne]; rw [hn] at hz; exact hz
  clear hz
  clear hm hh hn hq
  go_enter Try.func23, Try.ntmps23
  go_wp2_with fail
  refine (small_any _ _ _ (h1.alloc _)).mono ?_
  rintro e w1 ⟨rfl, rfl⟩
  rw [s1]
  go_wp2_with fail
  refine (small_any _ _ _ (hp.alloc _)).mono ?_
  rintro e w1 ⟨rfl, rfl⟩
  rw [s2]
  go_wp2_with fail
  refine (small_any _ _ _ (ht.alloc _)).mono ?_
  rintro e w1 ⟨rfl, rfl⟩
  rw [s3]
  go_wp2_with fail
  refine (small_any [pos] _ _ (lit_ints (w.alloc _) _ 1 (w.heap.size + 1) _ (by simp) rfl rfl (by simp))).mono ?_
  rintro e w1 ⟨rfl, rfl⟩
  rw [s4]
  go_wp2_with fail
  refine (stands_any _ _ _ _ _ ((hp.alloc _).alloc _) ((h1.alloc _).alloc _)).mono ?_
  rintro e w2 ⟨rfl, hs⟩
  rw [HH.out]
  have q0 := (hs.cell _).trans (box_cell w _ _ _ 0 _ rfl)
  have q1 := (hs.cell _).trans (box_cell w _ _ _ 1 _ rfl)
  have q2 := (hs.cell _).trans (box_cell w _ _ _ 2 _ rfl)
  have q3 := (hs.cell _).trans (box_cell w _ _ _ 3 _ rfl)
  have hb := gr_sm (gr_al (gr_al (gr_refl w) _) _) hs
  have i1 := ((h1.alloc _).alloc _).same hs
  have i2 := ((hp.alloc _).alloc _).same hs
  have i3 := ((ht.alloc _).alloc _).same hs
  have hsz : w.heap.size < w2.heap.size := by rw [hs.size]; simp; omega
  clear h1 hp ht
  obtain ⟨a', c', he, _, _, o2⟩ := i2.open_
  simp only [Value.slice.injEq] at he
  obtain ⟨rfl, hx, rfl⟩ := he
  clear hx
  obtain ⟨pb, pf, rfl, hc⟩ := o2 (by have := HN.out; omega)
  have qc : w2.cell? ⟨pb, pf + n, none⟩ = some (.int .i64 (q.getD n 0)) := hc n (by have := HN.out; omega)
  clear hc o2
  generalize q.getD n 0 = z at *
  go_wp2_with fail
  refine (shift_any xs _ n (-1) _ i1 (by omega) (by have := small_get SS1.out n; omega)).mono ?_
  rintro e w3 ⟨v', rfl, ho, hbk⟩
  go_wp2
  go_ret2
  have hfin : q.length - 1 = n := by have := HN.out; omega
  exact Mv.some_ HM.out (by rw [hfin]; exact ho.mono hb.size) (gr_tr hb hbk)

set_option maxHeartbeats 2000000 in
theorem xmove_k3h3 (xs q to : List Int) (pos : Int) (v1 v2 : Value) (w : World) (h1 : Ints w v1 xs) (h2 : OpAt w v2 3 q to pos) (s1 : smallB xs = true) (s2 : smallB q = true) (s3 : smallB to = true) (s4 : smallB [pos] = true) (hz : ¬ q.getD (q.length - 1) 0 = 0) (hq : 0 < q.length) (hh : standsN q xs = 3)
    (hm : moveP xs 3 q to pos = some (shiftL xs (q.length - 1) (-1))) :
    Calls Try.prog 23 #[v1, v2] w (Mv (moveP xs 3 q to pos) w) := by
  obtain ⟨pv, tv, r4, r5, r6, r7, r8, r9, r10, r11, r12, r13, r14, r15, r16, r17, r18, r19, r20, rfl, hp, ht⟩ := h2
  have HM := Lib.hid hm
  obtain ⟨a1, c1, rfl⟩ := h1.slice
  have b1 := h1.len
  have HH := Lib.hid hh
  obtain ⟨n, hn⟩ : ∃ n, q.length = n + 1 := ⟨q.length - 1, by omega⟩
  have HN := Lib.hid hn
  obtain ⟨a2, c2, rfl⟩ := hp.slice_len hn
  obtain ⟨a3, n3, c3, rfl⟩ := ht.slice3
  have b2 := hp.len
  rw [hn] at b2
  have l1 : n + 1 ≤ xs.length := by have := (stands_len (q := q) (p := xs) (by rw [hh]; decide)).2; omega
  have SS1 := Lib.hid s1
  have hz2 : (q.getD n 0 == 0) = false := by rw [beq_eq_false_iff_ne]; rw [hn] at hz; exact hz
  clear hz
  clear hm hh hn hq
  go_enter Try.func23, Try.ntmps23
  go_wp2_with fail
  refine (small_any _ _ _ (h1.alloc _)).mono ?_
  rintro e w1 ⟨rfl, rfl⟩
  rw [s1]
  go_wp2_with fail
  refine (small_any _ _ _ (hp.alloc _)).mono ?_
  rintro e w1 ⟨rfl, rfl⟩
  rw [s2]
  go_wp2_with fail
  refine (small_any _ _ _ (ht.alloc _)).mono ?_
  rintro e w1 ⟨rfl, rfl⟩
  rw [s3]
  go_wp2_with fail
  refine (small_any [pos] _ _ (lit_ints (w.alloc _) _ 1 (w.heap.size + 1) _ (by simp) rfl rfl (by simp))).mono ?_
  rintro e w1 ⟨rfl, rfl⟩
  rw [s4]
  go_wp2_with fail
  refine (stands_any _ _ _ _ _ ((hp.alloc _).alloc _) ((h1.alloc _).alloc _)).mono ?_
  rintro e w2 ⟨rfl, hs⟩
  rw [HH.out]
  have q0 := (hs.cell _).trans (box_cell w _ _ _ 0 _ rfl)
  have q1 := (hs.cell _).trans (box_cell w _ _ _ 1 _ rfl)
  have q2 := (hs.cell _).trans (box_cell w _ _ _ 2 _ rfl)
  have q3 := (hs.cell _).trans (box_cell w _ _ _ 3 _ rfl)
  have hb := gr_sm (gr_al (gr_al (gr_refl w) _) _) hs
  have i1 := ((h1.alloc _).alloc _).same hs
  have i2 := ((hp.alloc _).alloc _).same hs
  have i3 := ((ht.alloc _).alloc _).same hs
  have hsz : w.heap.size < w2.heap.size := by rw [hs.size]; simp; omega
  clear h1 hp ht
  obtain ⟨a', c', he, _, _, o2⟩ := i2.open_
  simp only [Value.slice.injEq] at he
  obtain ⟨rfl, hx, rfl⟩ := he
  clear hx
  obtain ⟨pb, pf, rfl, hc⟩ := o2 (by have := HN.out; omega)
  have qc : w2.cell? ⟨pb, pf + n, none⟩ = some (.int .i64 (q.getD n 0)) := hc n (by have := HN.out; omega)
  clear hc o2
  generalize q.getD n 0 = z at *
  go_wp2_with fail
  refine (shift_any xs _ n (-1) _ i1 (by omega) (by have := small_get SS1.out n; omega)).mono ?_
  rintro e w3 ⟨v', rfl, ho, hbk⟩
  go_wp2
  go_ret2
  have hfin : q.length - 1 = n := by have := HN.out; omega
  exact Mv.some_ HM.out (by rw [hfin]; exact ho.mono hb.size) (gr_tr hb hbk)

set_option maxHeartbeats 2000000 in
theorem xmove_k3h0 (xs q to : List Int) (pos : Int) (v1 v2 : Value) (w : World) (h1 : Ints w v1 xs) (h2 : OpAt w v2 3 q to pos) (s1 : smallB xs = true) (s2 : smallB q = true) (s3 : smallB to = true) (s4 : smallB [pos] = true) (hz : ¬ q.getD (q.length - 1) 0 = 0) (hq : 0 < q.length) (hh : standsN q xs = 0)
    (hm : moveP xs 3 q to pos = some xs) :
    Calls Try.prog 23 #[v1, v2] w (Mv (moveP xs 3 q to pos) w) := by
  obtain ⟨pv, tv, r4, r5, r6, r7, r8, r9, r10, r11, r12, r13, r14, r15, r16, r17, r18, r19, r20, rfl, hp, ht⟩ := h2
  have HM := Lib.hid hm
  obtain ⟨a1, c1, rfl⟩ := h1.slice
  have b1 := h1.len
  have HH := Lib.hid hh
  obtain ⟨n, hn⟩ : ∃ n, q.length = n + 1 := ⟨q.length - 1, by omega⟩
  have HN := Lib.hid hn
  obtain ⟨a2, c2, rfl⟩ := hp.slice_len hn
  obtain ⟨a3, n3, c3, rfl⟩ := ht.slice3
  have b2 := hp.len
  rw [hn] at b2
  have hz2 : (q.getD n 0 == 0) = false := by rw [beq_eq_false_iff_ne]; rw [hn] at hz; exact hz
  clear hz
  clear hm hh hn hq
  go_enter Try.func23, Try.ntmps23
  go_wp2_with fail
  refine (small_any _ _ _ (h1.alloc _)).mono ?_
  rintro e w1 ⟨rfl, rfl⟩
  rw [s1]
  go_wp2_with fail
  refine (small_any _ _ _ (hp.alloc _)).mono ?_
  rintro e w1 ⟨rfl, rfl⟩
  rw [s2]
  go_wp2_with fail
  refine (small_any _ _ _ (ht.alloc _)).mono ?_
  rintro e w1 ⟨rfl, rfl⟩
  rw [s3]
  go_wp2_with fail
  refine (small_any [pos] _ _ (lit_ints (w.alloc _) _ 1 (w.heap.size + 1) _ (by simp) rfl rfl (by simp))).mono ?_
  rintro e w1 ⟨rfl, rfl⟩
  rw [s4]
  go_wp2_with fail
  refine (stands_any _ _ _ _ _ ((hp.alloc _).alloc _) ((h1.alloc _).alloc _)).mono ?_
  rintro e w2 ⟨rfl, hs⟩
  rw [HH.out]
  have q0 := (hs.cell _).trans (box_cell w _ _ _ 0 _ rfl)
  have q1 := (hs.cell _).trans (box_cell w _ _ _ 1 _ rfl)
  have q2 := (hs.cell _).trans (box_cell w _ _ _ 2 _ rfl)
  have q3 := (hs.cell _).trans (box_cell w _ _ _ 3 _ rfl)
  have hb := gr_sm (gr_al (gr_al (gr_refl w) _) _) hs
  have i1 := ((h1.alloc _).alloc _).same hs
  have i2 := ((hp.alloc _).alloc _).same hs
  have i3 := ((ht.alloc _).alloc _).same hs
  have hsz : w.heap.size < w2.heap.size := by rw [hs.size]; simp; omega
  clear h1 hp ht
  obtain ⟨a', c', he, _, _, o2⟩ := i2.open_
  simp only [Value.slice.injEq] at he
  obtain ⟨rfl, hx, rfl⟩ := he
  clear hx
  obtain ⟨pb, pf, rfl, hc⟩ := o2 (by have := HN.out; omega)
  have qc : w2.cell? ⟨pb, pf + n, none⟩ = some (.int .i64 (q.getD n 0)) := hc n (by have := HN.out; omega)
  clear hc o2
  generalize q.getD n 0 = z at *
  go_wp2_with fail
  refine (clone_ints xs _ _ i1).mono ?_
  rintro e w3 ⟨v', rfl, ho, hbk⟩
  go_wp2
  go_ret2
  exact Mv.some_ HM.out (ho.mono hb.size) (gr_tr hb hbk)

set_option maxHeartbeats 2000000 in
theorem xmove_k3h2 (xs q to : List Int) (pos : Int) (v1 v2 : Value) (w : World) (h1 : Ints w v1 xs) (h2 : OpAt w v2 3 q to pos) (s1 : smallB xs = true) (s2 : smallB q = true) (s3 : smallB to = true) (s4 : smallB [pos] = true) (hz : ¬ q.getD (q.length - 1) 0 = 0) (hq : 0 < q.length) (hh : standsN q xs = 2)
    (hm : moveP xs 3 q to pos = some (shiftL (shiftL xs q.length pos) (q.length - 1) (-1))) :
    Calls Try.prog 23 #[v1, v2] w (Mv (moveP xs 3 q to pos) w) := by
  obtain ⟨pv, tv, r4, r5, r6, r7, r8, r9, r10, r11, r12, r13, r14, r15, r16, r17, r18, r19, r20, rfl, hp, ht⟩ := h2
  have HM := Lib.hid hm
  obtain ⟨a1, c1, rfl⟩ := h1.slice
  have b1 := h1.len
  have HH := Lib.hid hh
  obtain ⟨n, hn⟩ : ∃ n, q.length = n + 1 := ⟨q.length - 1, by omega⟩
  have HN := Lib.hid hn
  obtain ⟨a2, c2, rfl⟩ := hp.slice_len hn
  obtain ⟨a3, n3, c3, rfl⟩ := ht.slice3
  have b2 := hp.len
  rw [hn] at b2
  have l1 : n + 1 ≤ xs.length := by have := (stands_len (q := q) (p := xs) (by rw [hh]; decide)).2; omega
  have l2 : n + 1 < xs.length := by have := stands_above_lt hh; omega
  have SS1 := Lib.hid s1
  have PB : Hid (0 ≤ pos ∧ pos ≤ 1048576) := by show _ ∧ _; exact smallB_iff.1 s4 pos (by simp)
  have hz2 : (q.getD n 0 == 0) = false := by rw [beq_eq_false_iff_ne]; rw [hn] at hz; exact hz
  clear hz
  clear hm hh hn hq
  go_enter Try.func23, Try.ntmps23
  go_wp2_with fail
  refine (small_any _ _ _ (h1.alloc _)).mono ?_
  rintro e w1 ⟨rfl, rfl⟩
  rw [s1]
  go_wp2_with fail
  refine (small_any _ _ _ (hp.alloc _)).mono ?_
  rintro e w1 ⟨rfl, rfl⟩
  rw [s2]
  go_wp2_with fail
  refine (small_any _ _ _ (ht.alloc _)).mono ?_
  rintro e w1 ⟨rfl, rfl⟩
  rw [s3]
  go_wp2_with fail
  refine (small_any [pos] _ _ (lit_ints (w.alloc _) _ 1 (w.heap.size + 1) _ (by simp) rfl rfl (by simp))).mono ?_
  rintro e w1 ⟨rfl, rfl⟩
  rw [s4]
  go_wp2_with fail
  refine (stands_any _ _ _ _ _ ((hp.alloc _).alloc _) ((h1.alloc _).alloc _)).mono ?_
  rintro e w2 ⟨rfl, hs⟩
  rw [HH.out]
  have q0 := (hs.cell _).trans (box_cell w _ _ _ 0 _ rfl)
  have q1 := (hs.cell _).trans (box_cell w _ _ _ 1 _ rfl)
  have q2 := (hs.cell _).trans (box_cell w _ _ _ 2 _ rfl)
  have q3 := (hs.cell _).trans (box_cell w _ _ _ 3 _ rfl)
  have hb := gr_sm (gr_al (gr_al (gr_refl w) _) _) hs
  have i1 := ((h1.alloc _).alloc _).same hs
  have i2 := ((hp.alloc _).alloc _).same hs
  have i3 := ((ht.alloc _).alloc _).same hs
  have hsz : w.heap.size < w2.heap.size := by rw [hs.size]; simp; omega
  clear h1 hp ht
  obtain ⟨a', c', he, _, _, o2⟩ := i2.open_
  simp only [Value.slice.injEq] at he
  obtain ⟨rfl, hx, rfl⟩ := he
  clear hx
  obtain ⟨pb, pf, rfl, hc⟩ := o2 (by have := HN.out; omega)
  have qc : w2.cell? ⟨pb, pf + n, none⟩ = some (.int .i64 (q.getD n 0)) := hc n (by have := HN.out; omega)
  clear hc o2
  generalize q.getD n 0 = z at *
  go_wp2_with fail
  refine (shift_any xs _ (n + 1) pos _ i1 (by omega) (by have := small_get SS1.out (n + 1); have := PB.out; omega)).mono ?_
  rintro e w3 ⟨v', rfl, ho, hbk⟩
  replace hb := gr_tr hb hbk
  go_wp2_with fail
  refine (shift_any (shiftL xs (n + 1) pos) _ n (-1) _ ho.ints (by rw [shift_len]; omega) (by rw [shift_get_ne (by omega)]; have := small_get SS1.out n; omega)).mono ?_
  rintro e w4 ⟨v4, rfl, ho4, hbk4⟩
  go_wp2
  go_ret2
  have hfin : q.length = n + 1 := HN.out
  exact Mv.some_ HM.out (by rw [hfin]; exact ho4.mono hb.size) (gr_tr hb hbk4)

set_option maxHeartbeats 2000000 in
theorem xmove_k4h2y (xs q to : List Int) (pos : Int) (v1 v2 : Value) (w : World) (h1 : Ints w v1 xs) (h2 : OpAt w v2 4 q to pos) (s1 : smallB xs = true) (s2 : smallB q = true) (s3 : smallB to = true) (s4 : smallB [pos] = true) (hz : pos ≤ xs.getD q.length 0) (hq : 0 < q.length) (hh : standsN q xs = 2)
    (hm : moveP xs 4 q to pos = some (shiftL (shiftL xs q.length (-pos)) (q.length - 1) 1)) :
    Calls Try.prog 23 #[v1, v2] w (Mv (moveP xs 4 q to pos) w) := by
  obtain ⟨pv, tv, r4, r5, r6, r7, r8, r9, r10, r11, r12, r13, r14, r15, r16, r17, r18, r19, r20, rfl, hp, ht⟩ := h2
  have HM := Lib.hid hm
  obtain ⟨a1, c1, rfl⟩ := h1.slice
  have b1 := h1.len
  have HH := Lib.hid hh
  obtain ⟨n, hn⟩ : ∃ n, q.length = n + 1 := ⟨q.length - 1, by omega⟩
  have HN := Lib.hid hn
  obtain ⟨a2, c2, rfl⟩ := hp.slice_len hn
  obtain ⟨a3, n3, c3, rfl⟩ := ht.slice3
  have b2 := hp.len
  rw [hn] at b2
  have l1 : n + 1 ≤ xs.length := by have := (stands_len (q := q) (p := xs) (by rw [hh]; decide)).2; omega
  have l2 : n + 1 < xs.length := by have := stands_above_lt hh; omega
  have SS1 := Lib.hid s1
  have PB : Hid (0 ≤ pos ∧ pos ≤ 1048576) := by show _ ∧ _; exact smallB_iff.1 s4 pos (by simp)
  have hz2 : decide (pos ≤ xs.getD (n + 1) 0) = true := by rw [hn] at hz; simpa using hz
  clear hz
  clear hm hh hn hq
  go_enter Try.func23, Try.ntmps23
  go_wp2_with fail
  refine (small_any _ _ _ (h1.alloc _)).mono ?_
  rintro e w1 ⟨rfl, rfl⟩
  rw [s1]
  go_wp2_with fail
  refine (small_any _ _ _ (hp.alloc _)).mono ?_
  rintro e w1 ⟨rfl, rfl⟩
  rw [s2]
  go_wp2_with fail
  refine (small_any _ _ _ (ht.alloc _)).mono ?_
  rintro e w1 ⟨rfl, rfl⟩
  rw [s3]
  go_wp2_with fail
  refine (small_any [pos] _ _ (lit_ints (w.alloc _) _ 1 (w.heap.size + 1) _ (by simp) rfl rfl (by simp))).mono ?_
  rintro e w1 ⟨rfl, rfl⟩
  rw [s4]
  go_wp2_with fail
  refine (stands_any _ _ _ _ _ ((hp.alloc _).alloc _) ((h1.alloc _).alloc _)).mono ?_
  rintro e w2 ⟨rfl, hs⟩
  rw [HH.out]
  have q0 := (hs.cell _).trans (box_cell w _ _ _ 0 _ rfl)
  have q1 := (hs.cell _).trans (box_cell w _ _ _ 1 _ rfl)
  have q2 := (hs.cell _).trans (box_cell w _ _ _ 2 _ rfl)
  have q3 := (hs.cell _).trans (box_cell w _ _ _ 3 _ rfl)
  have hb := gr_sm (gr_al (gr_al (gr_refl w) _) _) hs
  have i1 := ((h1.alloc _).alloc _).same hs
  have i2 := ((hp.alloc _).alloc _).same hs
  have i3 := ((ht.alloc _).alloc _).same hs
  have hsz : w.heap.size < w2.heap.size := by rw [hs.size]; simp; omega
  clear h1 hp ht
  have hneg : IntKind.i64.wrap (-pos) = -pos := IntWalk.i64_in _ (by have := PB.out; omega)
  obtain ⟨a', c', he, _, _, o1⟩ := i1.open_
  simp only [Value.slice.injEq] at he
  obtain ⟨rfl, hx, rfl⟩ := he
  clear hx
  obtain ⟨pb, pf, rfl, hc⟩ := o1 (by omega)
  have qc : w2.cell? ⟨pb, pf + (n + 1), none⟩ = some (.int .i64 (xs.getD (n + 1) 0)) := hc (n + 1) (by omega)
  clear hc o1
  generalize hzz : xs.getD (n + 1) 0 = z at *
  have HZZ := Lib.hid hzz
  clear hzz
  go_wp2_with fail
  go_quiet (fail)
  replace i1 := i1.same ⟨nq, rfl⟩
  replace hb := gr_dn hb nq
  replace q3 := (drewN_cell w2 nq _).trans q3
  go_wp2_with fail
  refine (shift_any xs _ (n + 1) (-pos) _ i1 (by omega) (by have := small_get SS1.out (n + 1); have := PB.out; omega)).mono ?_
  rintro e w3 ⟨v', rfl, ho, hbk⟩
  replace hb := gr_tr hb hbk
  go_wp2_with fail
  refine (shift_any (shiftL xs (n + 1) (-pos)) _ n 1 _ ho.ints (by rw [shift_len]; omega) (by rw [shift_get_ne (by omega)]; have := small_get SS1.out n; omega)).mono ?_
  rintro e w4 ⟨v4, rfl, ho4, hbk4⟩
  go_wp2
  go_ret2
  have hfin : q.length = n + 1 := HN.out
  exact Mv.some_ HM.out (by rw [hfin]; exact ho4.mono hb.size) (gr_tr hb hbk4)

set_option maxHeartbeats 2000000 in
theorem xmove_k4h2n (xs q to : List Int) (pos : Int) (v1 v2 : Value) (w : World) (h1 : Ints w v1 xs) (h2 : OpAt w v2 4 q to pos) (s1 : smallB xs = true) (s2 : smallB q = true) (s3 : smallB to = true) (s4 : smallB [pos] = true) (hz : ¬ pos ≤ xs.getD q.length 0) (hq : 0 < q.length) (hh : standsN q xs = 2)
    (hm : moveP xs 4 q to pos = some xs) :
    Calls Try.prog 23 #[v1, v2] w (Mv (moveP xs 4 q to pos) w) := by
  obtain ⟨pv, tv, r4, r5, r6, r7, r8, r9, r10, r11, r12, r13, r14, r15, r16, r17, r18, r19, r20, rfl, hp, ht⟩ := h2
  have HM := Lib.hid hm
  obtain ⟨a1, c1, rfl⟩ := h1.slice
  have b1 := h1.len
  have HH := Lib.hid hh
  obtain ⟨n, hn⟩ : ∃ n, q.length = n + 1 := ⟨q.length - 1, by omega⟩
  have HN := Lib.hid hn
  obtain ⟨a2, c2, rfl⟩ := hp.slice_len hn
  obtain ⟨a3, n3, c3, rfl⟩ := ht.slice3
  have b2 := hp.len
  rw [hn] at b2
  have l1 : n + 1 ≤ xs.length := by have := (stands_len (q := q) (p := xs) (by rw [hh]; decide)).2; omega
  have l2 : n + 1 < xs.length := by have := stands_above_lt hh; omega
  have PB : Hid (0 ≤ pos ∧ pos ≤ 1048576) := by show _ ∧ _; exact smallB_iff.1 s4 pos (by simp)
  have hz2 : decide (pos ≤ xs.getD (n + 1) 0) = false := by rw [hn] at hz; simpa using hz
  clear hz
  clear hm hh hn hq
  go_enter Try.func23, Try.ntmps23
  go_wp2_with fail
  refine (small_any _ _ _ (h1.alloc _)).mono ?_
  rintro e w1 ⟨rfl, rfl⟩
  rw [s1]
  go_wp2_with fail
  refine (small_any _ _ _ (hp.alloc _)).mono ?_
  rintro e w1 ⟨rfl, rfl⟩
  rw [s2]
  go_wp2_with fail
  refine (small_any _ _ _ (ht.alloc _)).mono ?_
  rintro e w1 ⟨rfl, rfl⟩
  rw [s3]
  go_wp2_with fail
  refine (small_any [pos] _ _ (lit_ints (w.alloc _) _ 1 (w.heap.size + 1) _ (by simp) rfl rfl (by simp))).mono ?_
  rintro e w1 ⟨rfl, rfl⟩
  rw [s4]
  go_wp2_with fail
  refine (stands_any _ _ _ _ _ ((hp.alloc _).alloc _) ((h1.alloc _).alloc _)).mono ?_
  rintro e w2 ⟨rfl, hs⟩
  rw [HH.out]
  have q0 := (hs.cell _).trans (box_cell w _ _ _ 0 _ rfl)
  have q1 := (hs.cell _).trans (box_cell w _ _ _ 1 _ rfl)
  have q2 := (hs.cell _).trans (box_cell w _ _ _ 2 _ rfl)
  have q3 := (hs.cell _).trans (box_cell w _ _ _ 3 _ rfl)
  have hb := gr_sm (gr_al (gr_al (gr_refl w) _) _) hs
  have i1 := ((h1.alloc _).alloc _).same hs
  have i2 := ((hp.alloc _).alloc _).same hs
  have i3 := ((ht.alloc _).alloc _).same hs
  have hsz : w.heap.size < w2.heap.size := by rw [hs.size]; simp; omega
  clear h1 hp ht
  obtain ⟨a', c', he, _, _, o1⟩ := i1.open_
  simp only [Value.slice.injEq] at he
  obtain ⟨rfl, hx, rfl⟩ := he
  clear hx
  obtain ⟨pb, pf, rfl, hc⟩ := o1 (by omega)
  have qc : w2.cell? ⟨pb, pf + (n + 1), none⟩ = some (.int .i64 (xs.getD (n + 1) 0)) := hc (n + 1) (by omega)
  clear hc o1
  generalize hzz : xs.getD (n + 1) 0 = z at *
  have HZZ := Lib.hid hzz
  clear hzz
  go_wp2_with fail
  go_quiet (fail)
  replace i1 := i1.same ⟨nq, rfl⟩
  replace hb := gr_dn hb nq
  replace q3 := (drewN_cell w2 nq _).trans q3
  go_wp2_with fail
  refine (clone_ints xs _ _ i1).mono ?_
  rintro e w3 ⟨v', rfl, ho, hbk⟩
  go_wp2
  go_ret2
  exact Mv.some_ HM.out (ho.mono hb.size) (gr_tr hb hbk)

set_option maxHeartbeats 2000000 in
theorem xmove_k4h1 (xs q to : List Int) (pos : Int) (v1 v2 : Value) (w : World) (h1 : Ints w v1 xs) (h2 : OpAt w v2 4 q to pos) (s1 : smallB xs = true) (s2 : smallB q = true) (s3 : smallB to = true) (s4 : smallB [pos] = true) (hq : 0 < q.length) (hh : standsN q xs = 1)
    (hm : moveP xs 4 q to pos = some (shiftL xs (q.length - 1) 1)) :
    Calls Try.prog 23 #[v1, v2] w (Mv (moveP xs 4 q to pos) w) := by
  obtain ⟨pv, tv, r4, r5, r6, r7, r8, r9, r10, r11, r12, r13, r14, r15, r16, r17, r18, r19, r20, rfl, hp, ht⟩ := h2
  have HM := Lib.hid hm
  obtain ⟨a1, c1, rfl⟩ := h1.slice
  have b1 := h1.len
  have HH := Lib.hid hh
  obtain ⟨n, hn⟩ : ∃ n, q.length = n + 1 := ⟨q.length - 1, by omega⟩
  have HN := Lib.hid hn
  obtain ⟨a2, c2, rfl⟩ := hp.slice_len hn
  obtain ⟨a3, n3, c3, rfl⟩ := ht.slice3
  have b2 := hp.len
  rw [hn] at b2
  have l1 : n + 1 ≤ xs.length := by have := (stands_len (q := q) (p := xs) (by rw [hh]; decide)).2; omega
  have SS1 := Lib.hid s1
  clear hm hh hn hq
  go_enter Try.func23, Try.ntmps23
  go_wp2_with fail
  refine (small_any _ _ _ (h1.alloc _)).mono ?_
  rintro e w1 ⟨rfl, rfl⟩
  rw [s1]
  go_wp2_with fail
  refine (small_any _ _ _ (hp.alloc _)).mono ?_
  rintro e w1 ⟨rfl, rfl⟩
  rw [s2]
  go_wp2_with fail
  refine (small_any _ _ _ (ht.alloc _)).mono ?_
  rintro e w1 ⟨rfl, rfl⟩
  rw [s3]
  go_wp2_with fail
  refine (small_any [pos] _ _ (lit_ints (w.alloc _) _ 1 (w.heap.size + 1) _ (by simp) rfl rfl (by simp))).mono ?_
  rintro e w1 ⟨rfl, rfl⟩
  rw [s4]
  go_wp2_with fail
  refine (stands_any _ _ _ _ _ ((hp.alloc _).alloc _) ((h1.alloc _).alloc _)).mono ?_
  rintro e w2 ⟨rfl, hs⟩
  rw [HH.out]
  have q0 := (hs.cell _).trans (box_cell w _ _ _ 0 _ rfl)
  have q1 := (hs.cell _).trans (box_cell w _ _ _ 1 _ rfl)
  have q2 := (hs.cell _).trans (box_cell w _ _ _ 2 _ rfl)
  have q3 := (hs.cell _).trans (box_cell w _ _ _ 3 _ rfl)
  have hb := gr_sm (gr_al (gr_al (gr_refl w) _) _) hs
  have i1 := ((h1.alloc _).alloc _).same hs
  have i2 := ((hp.alloc _).alloc _).same hs
  have i3 := ((ht.alloc _).alloc _).same hs
  have hsz : w.heap.size < w2.heap.size := by rw [hs.size]; simp; omega
  clear h1 hp ht
  go_wp2_with fail
  go_quiet (fail)
  replace i1 := i1.same ⟨nq, rfl⟩
  replace hb := gr_dn hb nq
  replace q3 := (drewN_cell w2 nq _).trans q3
  go_wp2_with fail
  refine (shift_any xs _ n 1 _ i1 (by omega) (by have := small_get SS1.out n; omega)).mono ?_
  rintro e w3 ⟨v', rfl, ho, hbk⟩
  go_wp2
  go_ret2
  have hfin : q.length - 1 = n := by have := HN.out; omega
  exact Mv.some_ HM.out (by rw [hfin]; exact ho.mono hb.size) (gr_tr hb hbk)

set_option maxHeartbeats 2000000 in
theorem xmove_k4h0 (xs q to : List Int) (pos : Int) (v1 v2 : Value) (w : World) (h1 : Ints w v1 xs) (h2 : OpAt w v2 4 q to pos) (s1 : smallB xs = true) (s2 : smallB q = true) (s3 : smallB to = true) (s4 : smallB [pos] = true) (hq : 0 < q.length) (hh : standsN q xs = 0)
    (hm : moveP xs 4 q to pos = some xs) :
    Calls Try.prog 23 #[v1, v2] w (Mv (moveP xs 4 q to pos) w) := by
  obtain ⟨pv, tv, r4, r5, r6, r7, r8, r9, r10, r11, r12, r13, r14, r15, r16, r17, r18, r19, r20, rfl, hp, ht⟩ := h2
  have HM := Lib.hid hm
  obtain ⟨a1, c1, rfl⟩ := h1.slice
  have b1 := h1.len
  have HH := Lib.hid hh
  obtain ⟨n, hn⟩ : ∃ n, q.length = n + 1 := ⟨q.length - 1, by omega⟩
  have HN := Lib.hid hn
  obtain ⟨a2, c2, rfl⟩ := hp.slice_len hn
  obtain ⟨a3, n3, c3, rfl⟩ := ht.slice3
  have b2 := hp.len
  rw [hn] at b2
  clear hm hh hn hq
  go_enter Try.func23, Try.ntmps23
  go_wp2_with fail
  refine (small_any _ _ _ (h1.alloc _)).mono ?_
  rintro e w1 ⟨rfl, rfl⟩
  rw [s1]
  go_wp2_with fail
  refine (small_any _ _ _ (hp.alloc _)).mono ?_
  rintro e w1 ⟨rfl, rfl⟩
  rw [s2]
  go_wp2_with fail
  refine (small_any _ _ _ (ht.alloc _)).mono ?_
  rintro e w1 ⟨rfl, rfl⟩
  rw [s3]
  go_wp2_with fail
  refine (small_any [pos] _ _ (lit_ints (w.alloc _) _ 1 (w.heap.size + 1) _ (by simp) rfl rfl (by simp))).mono ?_
  rintro e w1 ⟨rfl, rfl⟩
  rw [s4]
  go_wp2_with fail
  refine (stands_any _ _ _ _ _ ((hp.alloc _).alloc _) ((h1.alloc _).alloc _)).mono ?_
  rintro e w2 ⟨rfl, hs⟩
  rw [HH.out]
  have q0 := (hs.cell _).trans (box_cell w _ _ _ 0 _ rfl)
  have q1 := (hs.cell _).trans (box_cell w _ _ _ 1 _ rfl)
  have q2 := (hs.cell _).trans (box_cell w _ _ _ 2 _ rfl)
  have q3 := (hs.cell _).trans (box_cell w _ _ _ 3 _ rfl)
  have hb := gr_sm (gr_al (gr_al (gr_refl w) _) _) hs
  have i1 := ((h1.alloc _).alloc _).same hs
  have i2 := ((hp.alloc _).alloc _).same hs
  have i3 := ((ht.alloc _).alloc _).same hs
  have hsz : w.heap.size < w2.heap.size := by rw [hs.size]; simp; omega
  clear h1 hp ht
  go_wp2_with fail
  go_quiet (fail)
  replace i1 := i1.same ⟨nq, rfl⟩
  replace hb := gr_dn hb nq
  replace q3 := (drewN_cell w2 nq _).trans q3
  go_wp2_with fail
  refine (clone_ints xs _ _ i1).mono ?_
  rintro e w3 ⟨v', rfl, ho, hbk⟩
  go_wp2
  go_ret2
  exact Mv.some_ HM.out (ho.mono hb.size) (gr_tr hb hbk)

set_option maxHeartbeats 2000000 in
theorem xmove_k4h3 (xs q to : List Int) (pos : Int) (v1 v2 : Value) (w : World) (h1 : Ints w v1 xs) (h2 : OpAt w v2 4 q to pos) (s1 : smallB xs = true) (s2 : smallB q = true) (s3 : smallB to = true) (s4 : smallB [pos] = true) (hq : 0 < q.length) (hh : standsN q xs = 3)
    (hm : moveP xs 4 q to pos = some xs) :
    Calls Try.prog 23 #[v1, v2] w (Mv (moveP xs 4 q to pos) w) := by
  obtain ⟨pv, tv, r4, r5, r6, r7, r8, r9, r10, r11, r12, r13, r14, r15, r16, r17, r18, r19, r20, rfl, hp, ht⟩ := h2
  have HM := Lib.hid hm
  obtain ⟨a1, c1, rfl⟩ := h1.slice
  have b1 := h1.len
  have HH := Lib.hid hh
  obtain ⟨n, hn⟩ : ∃ n, q.length = n + 1 := ⟨q.length - 1, by omega⟩
  have HN := Lib.hid hn
  obtain ⟨a2, c2, rfl⟩ := hp.slice_len hn
  obtain ⟨a3, n3, c3, rfl⟩ := ht.slice3
  have b2 := hp.len
  rw [hn] at b2
  have l1 : n + 1 ≤ xs.length := by have := (stands_len (q := q) (p := xs) (by rw [hh]; decide)).2; omega
  clear hm hh hn hq
  go_enter Try.func23, Try.ntmps23
  go_wp2_with fail
  refine (small_any _ _ _ (h1.alloc _)).mono ?_
  rintro e w1 ⟨rfl, rfl⟩
  rw [s1]
  go_wp2_with fail
  refine (small_any _ _ _ (hp.alloc _)).mono ?_
  rintro e w1 ⟨rfl, rfl⟩
  rw [s2]
  go_wp2_with fail
  refine (small_any _ _ _ (ht.alloc _)).mono ?_
  rintro e w1 ⟨rfl, rfl⟩
  rw [s3]
  go_wp2_with fail
  refine (small_any [pos] _ _ (lit_ints (w.alloc _) _ 1 (w.heap.size + 1) _ (by simp) rfl rfl (by simp))).mono ?_
  rintro e w1 ⟨rfl, rfl⟩
  rw [s4]
  go_wp2_with fail
  refine (stands_any _ _ _ _ _ ((hp.alloc _).alloc _) ((h1.alloc _).alloc _)).mono ?_
  rintro e w2 ⟨rfl, hs⟩
  rw [HH.out]
  have q0 := (hs.cell _).trans (box_cell w _ _ _ 0 _ rfl)
  have q1 := (hs.cell _).trans (box_cell w _ _ _ 1 _ rfl)
  have q2 := (hs.cell _).trans (box_cell w _ _ _ 2 _ rfl)
  have q3 := (hs.cell _).trans (box_cell w _ _ _ 3 _ rfl)
  have hb := gr_sm (gr_al (gr_al (gr_refl w) _) _) hs
  have i1 := ((h1.alloc _).alloc _).same hs
  have i2 := ((hp.alloc _).alloc _).same hs
  have i3 := ((ht.alloc _).alloc _).same hs
  have hsz : w.heap.size < w2.heap.size := by rw [hs.size]; simp; omega
  clear h1 hp ht
  go_wp2_with fail
  go_quiet (fail)
  replace i1 := i1.same ⟨nq, rfl⟩
  replace hb := gr_dn hb nq
  replace q3 := (drewN_cell w2 nq _).trans q3
  go_wp2_with fail
  refine (clone_ints xs _ _ i1).mono ?_
  rintro e w3 ⟨v', rfl, ho, hbk⟩
  go_wp2
  go_ret2
  exact Mv.some_ HM.out (ho.mono hb.size) (gr_tr hb hbk)

/- The walk of xpath.Move, of the kind that moves a node, and of kinds that move nothing. -/
set_option maxHeartbeats 2000000 in
theorem xmove_k5h2 (xs q to : List Int) (pos : Int) (v1 v2 : Value) (w : World) (h1 : Ints w v1 xs) (h2 : OpAt w v2 5 q to pos) (s1 : smallB xs = true) (s2 : smallB q = true) (s3 : smallB to = true) (s4 : smallB [pos] = true) (hlen : (to.length + xs.length) * 8 ≤ 140737488351232) (hq : 0 < q.length) (hh : standsN q xs = 2)
    (hm : moveP xs 5 q to pos = some (to ++ xs.drop q.length)) :
    Calls Try.prog 23 #[v1, v2] w (Mv (moveP xs 5 q to pos) w) := by
  obtain ⟨pv, tv, r4, r5, r6, r7, r8, r9, r10, r11, r12, r13, r14, r15, r16, r17, r18, r19, r20, rfl, hp, ht⟩ := h2
  have HM := Lib.hid hm
  obtain ⟨a1, c1, rfl⟩ := h1.slice
  have b1 := h1.len
  have HH := Lib.hid hh
  obtain ⟨n, hn⟩ : ∃ n, q.length = n + 1 := ⟨q.length - 1, by omega⟩
  have HN := Lib.hid hn
  obtain ⟨a2, c2, rfl⟩ := hp.slice_len hn
  obtain ⟨a3, n3, c3, rfl⟩ := ht.slice3
  have b2 := hp.len
  rw [hn] at b2
  have l1 : n + 1 ≤ xs.length := by have := (stands_len (q := q) (p := xs) (by rw [hh]; decide)).2; omega
  have l2 : n + 1 < xs.length := by have := stands_above_lt hh; omega
  have CC : Hid (n + 1 < c1) := by show _ < _; obtain ⟨_, _, he, hle, _⟩ := h1; simp only [Value.slice.injEq] at he; omega
  clear hm hh hn hq
  go_enter Try.func23, Try.ntmps23
  go_wp2_with fail
  refine (small_any _ _ _ (h1.alloc _)).mono ?_
  rintro e w1 ⟨rfl, rfl⟩
  rw [s1]
  go_wp2_with fail
  refine (small_any _ _ _ (hp.alloc _)).mono ?_
  rintro e w1 ⟨rfl, rfl⟩
  rw [s2]
  go_wp2_with fail
  refine (small_any _ _ _ (ht.alloc _)).mono ?_
  rintro e w1 ⟨rfl, rfl⟩
  rw [s3]
  go_wp2_with fail
  refine (small_any [pos] _ _ (lit_ints (w.alloc _) _ 1 (w.heap.size + 1) _ (by simp) rfl rfl (by simp))).mono ?_
  rintro e w1 ⟨rfl, rfl⟩
  rw [s4]
  go_wp2_with fail
  refine (stands_any _ _ _ _ _ ((hp.alloc _).alloc _) ((h1.alloc _).alloc _)).mono ?_
  rintro e w2 ⟨rfl, hs⟩
  rw [HH.out]
  have q0 := (hs.cell _).trans (box_cell w _ _ _ 0 _ rfl)
  have q1 := (hs.cell _).trans (box_cell w _ _ _ 1 _ rfl)
  have q2 := (hs.cell _).trans (box_cell w _ _ _ 2 _ rfl)
  have q3 := (hs.cell _).trans (box_cell w _ _ _ 3 _ rfl)
  have hb := gr_sm (gr_al (gr_al (gr_refl w) _) _) hs
  have i1 := ((h1.alloc _).alloc _).same hs
  have i2 := ((hp.alloc _).alloc _).same hs
  have i3 := ((ht.alloc _).alloc _).same hs
  have hsz : w.heap.size < w2.heap.size := by rw [hs.size]; simp; omega
  clear h1 hp ht
  obtain ⟨pb, pf, rfl, idr⟩ := i1.drop (k := n + 1) (by omega) CC.out
  have hcc : ¬ (c1 = n + 1) := by have := CC.out; omega
  have hlf : [to, xs.drop (n + 1)].flatten.length * 8 ≤ 140737488351232 := by simp; omega
  have hl1 : (n : Int) + 1 ≤ (xs.length : Int) := by omega
  have hl2 : 0 ≤ (n : Int) + 1 := by omega
  have hl3 : ((n : Int) + 1).toNat = n + 1 := by omega
  have hl4 : IntKind.i64.wrap ((n : Int) + 1) = (n : Int) + 1 := IntWalk.i64_in _ (by omega)
  have hc := fun m => concat_any [to, xs.drop (n + 1)] _ _ (ints_two (w2.drewN m) w2.heap.size _ _ to (xs.drop (n + 1)) rfl (i3.same ⟨m, rfl⟩) (idr.same ⟨m, rfl⟩)) hlf
  have HC := Lib.hid hc
  clear hlf hc
  go_wp2_with fail
  go_region_held3 (fun w' => w'.cell? ⟨w.heap.size, 2, none⟩ = some (.slice a3 n3 c3)) (first | go_keep | (exact (hbk.cell (p := ⟨w.heap.size, 2, none⟩) (by simp; omega)).trans (by go_keep)))
    (first | (go_at_call 49; refine (HC.out 1).mono ?_; rintro e w3 ⟨v', rfl, ho, hbk⟩))
  go_wp2
  go_ret2
  have hfin : q.length = n + 1 := HN.out
  refine Mv.some_ HM.out ?_ (gr_tr (gr_al (gr_dn hb 1) _) hbk)
  rw [hfin]
  refine (show Own w3 _ _ (to ++ xs.drop (n + 1)) from by simpa using ho).mono ?_
  exact Nat.le_succ_of_le hb.size

set_option maxHeartbeats 2000000 in
theorem xmove_k5h3r (xs q to : List Int) (pos : Int) (v1 v2 : Value) (w : World) (h1 : Ints w v1 xs) (h2 : OpAt w v2 5 q to pos) (s1 : smallB xs = true) (s2 : smallB q = true) (s3 : smallB to = true) (s4 : smallB [pos] = true) (hlen : (to.length + xs.length) * 8 ≤ 140737488351232) (hroom : ∀ a n c, v1 = .slice a n c → q.length < c) (hq : 0 < q.length) (hh : standsN q xs = 3)
    (hm : moveP xs 5 q to pos = some (to ++ xs.drop q.length)) :
    Calls Try.prog 23 #[v1, v2] w (Mv (moveP xs 5 q to pos) w) := by
  obtain ⟨pv, tv, r4, r5, r6, r7, r8, r9, r10, r11, r12, r13, r14, r15, r16, r17, r18, r19, r20, rfl, hp, ht⟩ := h2
  have HM := Lib.hid hm
  obtain ⟨a1, c1, rfl⟩ := h1.slice
  have b1 := h1.len
  have HH := Lib.hid hh
  obtain ⟨n, hn⟩ : ∃ n, q.length = n + 1 := ⟨q.length - 1, by omega⟩
  have HN := Lib.hid hn
  obtain ⟨a2, c2, rfl⟩ := hp.slice_len hn
  obtain ⟨a3, n3, c3, rfl⟩ := ht.slice3
  have b2 := hp.len
  rw [hn] at b2
  have l1 : n + 1 ≤ xs.length := by have := (stands_len (q := q) (p := xs) (by rw [hh]; decide)).2; omega
  have CC : Hid (n + 1 < c1) := by show _ < _; rw [← hn]; exact hroom _ _ _ rfl
  clear hroom
  clear hm hh hn hq
  go_enter Try.func23, Try.ntmps23
  go_wp2_with fail
  refine (small_any _ _ _ (h1.alloc _)).mono ?_
  rintro e w1 ⟨rfl, rfl⟩
  rw [s1]
  go_wp2_with fail
  refine (small_any _ _ _ (hp.alloc _)).mono ?_
  rintro e w1 ⟨rfl, rfl⟩
  rw [s2]
  go_wp2_with fail
  refine (small_any _ _ _ (ht.alloc _)).mono ?_
  rintro e w1 ⟨rfl, rfl⟩
  rw [s3]
  go_wp2_with fail
  refine (small_any [pos] _ _ (lit_ints (w.alloc _) _ 1 (w.heap.size + 1) _ (by simp) rfl rfl (by simp))).mono ?_
  rintro e w1 ⟨rfl, rfl⟩
  rw [s4]
  go_wp2_with fail
  refine (stands_any _ _ _ _ _ ((hp.alloc _).alloc _) ((h1.alloc _).alloc _)).mono ?_
  rintro e w2 ⟨rfl, hs⟩
  rw [HH.out]
  have q0 := (hs.cell _).trans (box_cell w _ _ _ 0 _ rfl)
  have q1 := (hs.cell _).trans (box_cell w _ _ _ 1 _ rfl)
  have q2 := (hs.cell _).trans (box_cell w _ _ _ 2 _ rfl)
  have q3 := (hs.cell _).trans (box_cell w _ _ _ 3 _ rfl)
  have hb := gr_sm (gr_al (gr_al (gr_refl w) _) _) hs
  have i1 := ((h1.alloc _).alloc _).same hs
  have i2 := ((hp.alloc _).alloc _).same hs
  have i3 := ((ht.alloc _).alloc _).same hs
  have hsz : w.heap.size < w2.heap.size := by rw [hs.size]; simp; omega
  clear h1 hp ht
  obtain ⟨pb, pf, rfl, idr⟩ := i1.drop (k := n + 1) (by omega) CC.out
  have hcc : ¬ (c1 = n + 1) := by have := CC.out; omega
  have hlf : [to, xs.drop (n + 1)].flatten.length * 8 ≤ 140737488351232 := by simp; omega
  have hl1 : (n : Int) + 1 ≤ (xs.length : Int) := by omega
  have hl2 : 0 ≤ (n : Int) + 1 := by omega
  have hl3 : ((n : Int) + 1).toNat = n + 1 := by omega
  have hl4 : IntKind.i64.wrap ((n : Int) + 1) = (n : Int) + 1 := IntWalk.i64_in _ (by omega)
  have hc := fun m => concat_any [to, xs.drop (n + 1)] _ _ (ints_two (w2.drewN m) w2.heap.size _ _ to (xs.drop (n + 1)) rfl (i3.same ⟨m, rfl⟩) (idr.same ⟨m, rfl⟩)) hlf
  have HC := Lib.hid hc
  clear hlf hc
  go_wp2_with fail
  go_region_held3 (fun w' => w'.cell? ⟨w.heap.size, 2, none⟩ = some (.slice a3 n3 c3)) (first | go_keep | (exact (hbk.cell (p := ⟨w.heap.size, 2, none⟩) (by simp; omega)).trans (by go_keep)))
    (first | (go_at_call 49; refine (HC.out 1).mono ?_; rintro e w3 ⟨v', rfl, ho, hbk⟩))
  go_wp2
  go_ret2
  have hfin : q.length = n + 1 := HN.out
  refine Mv.some_ HM.out ?_ (gr_tr (gr_al (gr_dn hb 1) _) hbk)
  rw [hfin]
  refine (show Own w3 _ _ (to ++ xs.drop (n + 1)) from by simpa using ho).mono ?_
  exact Nat.le_succ_of_le hb.size

set_option maxHeartbeats 2000000 in
theorem xmove_k5h3n (xs q to : List Int) (pos : Int) (v1 v2 : Value) (w : World) (h1 : Ints w v1 xs) (h2 : OpAt w v2 5 q to pos) (s1 : smallB xs = true) (s2 : smallB q = true) (s3 : smallB to = true) (s4 : smallB [pos] = true) (hlen : (to.length + xs.length) * 8 ≤ 140737488351232) (hroom : ∀ a n c, v1 = .slice a n c → c = q.length) (hq : 0 < q.length) (hh : standsN q xs = 3)
    (hm : moveP xs 5 q to pos = some (to ++ xs.drop q.length)) :
    Calls Try.prog 23 #[v1, v2] w (Mv (moveP xs 5 q to pos) w) := by
  obtain ⟨pv, tv, r4, r5, r6, r7, r8, r9, r10, r11, r12, r13, r14, r15, r16, r17, r18, r19, r20, rfl, hp, ht⟩ := h2
  have HM := Lib.hid hm
  obtain ⟨a1, c1, rfl⟩ := h1.slice
  have b1 := h1.len
  have HH := Lib.hid hh
  obtain ⟨n, hn⟩ : ∃ n, q.length = n + 1 := ⟨q.length - 1, by omega⟩
  have HN := Lib.hid hn
  obtain ⟨a2, c2, rfl⟩ := hp.slice_len hn
  obtain ⟨a3, n3, c3, rfl⟩ := ht.slice3
  have b2 := hp.len
  rw [hn] at b2
  have l1 : n + 1 ≤ xs.length := by have := (stands_len (q := q) (p := xs) (by rw [hh]; decide)).2; omega
  have CC : Hid (c1 = n + 1) := by show _ = _; rw [← hn]; exact hroom _ _ _ rfl
  clear hroom
  clear hm hh hn hq
  go_enter Try.func23, Try.ntmps23
  go_wp2_with fail
  refine (small_any _ _ _ (h1.alloc _)).mono ?_
  rintro e w1 ⟨rfl, rfl⟩
  rw [s1]
  go_wp2_with fail
  refine (small_any _ _ _ (hp.alloc _)).mono ?_
  rintro e w1 ⟨rfl, rfl⟩
  rw [s2]
  go_wp2_with fail
  refine (small_any _ _ _ (ht.alloc _)).mono ?_
  rintro e w1 ⟨rfl, rfl⟩
  rw [s3]
  go_wp2_with fail
  refine (small_any [pos] _ _ (lit_ints (w.alloc _) _ 1 (w.heap.size + 1) _ (by simp) rfl rfl (by simp))).mono ?_
  rintro e w1 ⟨rfl, rfl⟩
  rw [s4]
  go_wp2_with fail
  refine (stands_any _ _ _ _ _ ((hp.alloc _).alloc _) ((h1.alloc _).alloc _)).mono ?_
  rintro e w2 ⟨rfl, hs⟩
  rw [HH.out]
  have q0 := (hs.cell _).trans (box_cell w _ _ _ 0 _ rfl)
  have q1 := (hs.cell _).trans (box_cell w _ _ _ 1 _ rfl)
  have q2 := (hs.cell _).trans (box_cell w _ _ _ 2 _ rfl)
  have q3 := (hs.cell _).trans (box_cell w _ _ _ 3 _ rfl)
  have hb := gr_sm (gr_al (gr_al (gr_refl w) _) _) hs
  have i1 := ((h1.alloc _).alloc _).same hs
  have i2 := ((hp.alloc _).alloc _).same hs
  have i3 := ((ht.alloc _).alloc _).same hs
  have hsz : w.heap.size < w2.heap.size := by rw [hs.size]; simp; omega
  clear h1 hp ht
  obtain rfl := CC.out
  have hxl : xs.length = n + 1 := by obtain ⟨_, _, he, hle, _⟩ := i1; simp only [Value.slice.injEq] at he; omega
  have idr : Ints w2 (.slice a1 (xs.length - (n + 1)) 0) (xs.drop (n + 1)) := by rw [show xs.length - (n + 1) = 0 from by omega]; exact (i1.drop_end (k := n + 1) (c := 0) (by omega)).1
  have HXL := Lib.hid hxl
  clear hxl
  have hlf : [to, xs.drop (n + 1)].flatten.length * 8 ≤ 140737488351232 := by simp; omega
  have hl1 : (n : Int) + 1 ≤ (xs.length : Int) := by omega
  have hl2 : 0 ≤ (n : Int) + 1 := by omega
  have hl3 : ((n : Int) + 1).toNat = n + 1 := by omega
  have hl4 : IntKind.i64.wrap ((n : Int) + 1) = (n : Int) + 1 := IntWalk.i64_in _ (by omega)
  have hc := fun m => concat_any [to, xs.drop (n + 1)] _ _ (ints_two (w2.drewN m) w2.heap.size _ _ to (xs.drop (n + 1)) rfl (i3.same ⟨m, rfl⟩) (idr.same ⟨m, rfl⟩)) hlf
  have HC := Lib.hid hc
  clear hlf hc
  go_wp2_with fail
  go_region_held3 (fun w' => w'.cell? ⟨w.heap.size, 2, none⟩ = some (.slice a3 n3 c3)) (first | go_keep | (exact (hbk.cell (p := ⟨w.heap.size, 2, none⟩) (by simp; omega)).trans (by go_keep)))
    (first | (go_at_call 49; refine (HC.out 1).mono ?_; rintro e w3 ⟨v', rfl, ho, hbk⟩))
  go_wp2
  go_ret2
  have hfin : q.length = n + 1 := HN.out
  refine Mv.some_ HM.out ?_ (gr_tr (gr_al (gr_dn hb 1) _) hbk)
  rw [hfin]
  refine (show Own w3 _ _ (to ++ xs.drop (n + 1)) from by simpa using ho).mono ?_
  exact Nat.le_succ_of_le hb.size

set_option maxHeartbeats 2000000 in
theorem xmove_k5h1 (xs q to : List Int) (pos : Int) (v1 v2 : Value) (w : World) (h1 : Ints w v1 xs) (h2 : OpAt w v2 5 q to pos) (s1 : smallB xs = true) (s2 : smallB q = true) (s3 : smallB to = true) (s4 : smallB [pos] = true) (hq : 0 < q.length) (hh : standsN q xs = 1)
    (hm : moveP xs 5 q to pos = some (insL (shiftL xs (q.length - 1) (-1)) to)) :
    Calls Try.prog 23 #[v1, v2] w (Mv (moveP xs 5 q to pos) w) := by
  obtain ⟨pv, tv, r4, r5, r6, r7, r8, r9, r10, r11, r12, r13, r14, r15, r16, r17, r18, r19, r20, rfl, hp, ht⟩ := h2
  have HM := Lib.hid hm
  obtain ⟨a1, c1, rfl⟩ := h1.slice
  have b1 := h1.len
  have HH := Lib.hid hh
  obtain ⟨n, hn⟩ : ∃ n, q.length = n + 1 := ⟨q.length - 1, by omega⟩
  have HN := Lib.hid hn
  obtain ⟨a2, c2, rfl⟩ := hp.slice_len hn
  obtain ⟨a3, n3, c3, rfl⟩ := ht.slice3
  have b2 := hp.len
  rw [hn] at b2
  have l1 : n + 1 ≤ xs.length := by have := (stands_len (q := q) (p := xs) (by rw [hh]; decide)).2; omega
  have SS1 := Lib.hid s1
  clear hm hh hn hq
  go_enter Try.func23, Try.ntmps23
  go_wp2_with fail
  refine (small_any _ _ _ (h1.alloc _)).mono ?_
  rintro e w1 ⟨rfl, rfl⟩
  rw [s1]
  go_wp2_with fail
  refine (small_any _ _ _ (hp.alloc _)).mono ?_
  rintro e w1 ⟨rfl, rfl⟩
  rw [s2]
  go_wp2_with fail
  refine (small_any _ _ _ (ht.alloc _)).mono ?_
  rintro e w1 ⟨rfl, rfl⟩
  rw [s3]
  go_wp2_with fail
  refine (small_any [pos] _ _ (lit_ints (w.alloc _) _ 1 (w.heap.size + 1) _ (by simp) rfl rfl (by simp))).mono ?_
  rintro e w1 ⟨rfl, rfl⟩
  rw [s4]
  go_wp2_with fail
  refine (stands_any _ _ _ _ _ ((hp.alloc _).alloc _) ((h1.alloc _).alloc _)).mono ?_
  rintro e w2 ⟨rfl, hs⟩
  rw [HH.out]
  have q0 := (hs.cell _).trans (box_cell w _ _ _ 0 _ rfl)
  have q1 := (hs.cell _).trans (box_cell w _ _ _ 1 _ rfl)
  have q2 := (hs.cell _).trans (box_cell w _ _ _ 2 _ rfl)
  have q3 := (hs.cell _).trans (box_cell w _ _ _ 3 _ rfl)
  have hb := gr_sm (gr_al (gr_al (gr_refl w) _) _) hs
  have i1 := ((h1.alloc _).alloc _).same hs
  have i2 := ((hp.alloc _).alloc _).same hs
  have i3 := ((ht.alloc _).alloc _).same hs
  have hsz : w.heap.size < w2.heap.size := by rw [hs.size]; simp; omega
  clear h1 hp ht
  go_wp2_with fail
  refine (shift_any xs _ n (-1) _ i1 (by omega) (by have := small_get SS1.out n; omega)).mono ?_
  rintro e w3 ⟨v', rfl, ho, hbk⟩
  have q2' := (hbk.cell (p := ⟨w.heap.size, 2, none⟩) (by omega)).trans q2
  have i3' := i3.below hbk (Nat.le_refl _)
  have hb3 := gr_tr hb hbk
  go_wp2_with fail
  refine (inserted_any (shiftL xs n (-1)) to _ _ _ ho.ints i3' (by
    intro x hx
    rcases List.mem_or_eq_of_mem_set hx with h | h
    · have := smallB_iff.1 SS1.out x h; omega
    · have := small_get SS1.out n; omega)).mono ?_
  rintro e w4 ⟨v4, rfl, ho4, hbk4⟩
  go_wp2
  go_ret2
  have hfin : q.length - 1 = n := by have := HN.out; omega
  exact Mv.some_ HM.out (by rw [hfin]; exact ho4.mono hb3.size) (gr_tr hb3 hbk4)

set_option maxHeartbeats 2000000 in
theorem xmove_k5h0 (xs q to : List Int) (pos : Int) (v1 v2 : Value) (w : World) (h1 : Ints w v1 xs) (h2 : OpAt w v2 5 q to pos) (s1 : smallB xs = true) (s2 : smallB q = true) (s3 : smallB to = true) (s4 : smallB [pos] = true) (hq : 0 < q.length) (hh : standsN q xs = 0)
    (hm : moveP xs 5 q to pos = some (insL xs to)) :
    Calls Try.prog 23 #[v1, v2] w (Mv (moveP xs 5 q to pos) w) := by
  obtain ⟨pv, tv, r4, r5, r6, r7, r8, r9, r10, r11, r12, r13, r14, r15, r16, r17, r18, r19, r20, rfl, hp, ht⟩ := h2
  have HM := Lib.hid hm
  obtain ⟨a1, c1, rfl⟩ := h1.slice
  have b1 := h1.len
  have HH := Lib.hid hh
  obtain ⟨n, hn⟩ : ∃ n, q.length = n + 1 := ⟨q.length - 1, by omega⟩
  have HN := Lib.hid hn
  obtain ⟨a2, c2, rfl⟩ := hp.slice_len hn
  obtain ⟨a3, n3, c3, rfl⟩ := ht.slice3
  have b2 := hp.len
  rw [hn] at b2
  have SS1 := Lib.hid s1
  clear hm hh hn hq
  go_enter Try.func23, Try.ntmps23
  go_wp2_with fail
  refine (small_any _ _ _ (h1.alloc _)).mono ?_
  rintro e w1 ⟨rfl, rfl⟩
  rw [s1]
  go_wp2_with fail
  refine (small_any _ _ _ (hp.alloc _)).mono ?_
  rintro e w1 ⟨rfl, rfl⟩
  rw [s2]
  go_wp2_with fail
  refine (small_any _ _ _ (ht.alloc _)).mono ?_
  rintro e w1 ⟨rfl, rfl⟩
  rw [s3]
  go_wp2_with fail
  refine (small_any [pos] _ _ (lit_ints (w.alloc _) _ 1 (w.heap.size + 1) _ (by simp) rfl rfl (by simp))).mono ?_
  rintro e w1 ⟨rfl, rfl⟩
  rw [s4]
  go_wp2_with fail
  refine (stands_any _ _ _ _ _ ((hp.alloc _).alloc _) ((h1.alloc _).alloc _)).mono ?_
  rintro e w2 ⟨rfl, hs⟩
  rw [HH.out]
  have q0 := (hs.cell _).trans (box_cell w _ _ _ 0 _ rfl)
  have q1 := (hs.cell _).trans (box_cell w _ _ _ 1 _ rfl)
  have q2 := (hs.cell _).trans (box_cell w _ _ _ 2 _ rfl)
  have q3 := (hs.cell _).trans (box_cell w _ _ _ 3 _ rfl)
  have hb := gr_sm (gr_al (gr_al (gr_refl w) _) _) hs
  have i1 := ((h1.alloc _).alloc _).same hs
  have i2 := ((hp.alloc _).alloc _).same hs
  have i3 := ((ht.alloc _).alloc _).same hs
  have hsz : w.heap.size < w2.heap.size := by rw [hs.size]; simp; omega
  clear h1 hp ht
  go_wp2_with fail
  refine (inserted_any xs to _ _ _ i1 i3 (by intro x hx; have := smallB_iff.1 SS1.out x hx; omega)).mono ?_
  rintro e w3 ⟨v', rfl, ho, hbk⟩
  go_wp2
  go_ret2
  exact Mv.some_ HM.out (ho.mono hb.size) (gr_tr hb hbk)

set_option maxHeartbeats 2000000 in
theorem xmove_koh0 (xs q to : List Int) (pos : Int) (kind : Int) (v1 v2 : Value) (w : World) (h1 : Ints w v1 xs) (h2 : OpAt w v2 kind q to pos) (s1 : smallB xs = true) (s2 : smallB q = true) (s3 : smallB to = true) (s4 : smallB [pos] = true) (k1 : kind ≠ 1) (k2 : kind ≠ 2) (k3 : kind ≠ 3) (k4 : kind ≠ 4) (k5 : kind ≠ 5) (hq : 0 < q.length) (hh : standsN q xs = 0)
    (hm : moveP xs kind q to pos = some xs) :
    Calls Try.prog 23 #[v1, v2] w (Mv (moveP xs kind q to pos) w) := by
  obtain ⟨pv, tv, r4, r5, r6, r7, r8, r9, r10, r11, r12, r13, r14, r15, r16, r17, r18, r19, r20, rfl, hp, ht⟩ := h2
  have HM := Lib.hid hm
  obtain ⟨a1, c1, rfl⟩ := h1.slice
  have b1 := h1.len
  have HH := Lib.hid hh
  obtain ⟨n, hn⟩ : ∃ n, q.length = n + 1 := ⟨q.length - 1, by omega⟩
  have HN := Lib.hid hn
  obtain ⟨a2, c2, rfl⟩ := hp.slice_len hn
  obtain ⟨a3, n3, c3, rfl⟩ := ht.slice3
  have b2 := hp.len
  rw [hn] at b2
  have f1 : (kind == 1) = false := by simpa using k1
  have f2 : (kind == 2) = false := by simpa using k2
  have f3 : (kind == 3) = false := by simpa using k3
  have f4 : (kind == 4) = false := by simpa using k4
  have f5 : (kind == 5) = false := by simpa using k5
  clear k1 k2 k3 k4 k5
  clear hm hh hn hq
  go_enter Try.func23, Try.ntmps23
  go_wp2_with fail
  refine (small_any _ _ _ (h1.alloc _)).mono ?_
  rintro e w1 ⟨rfl, rfl⟩
  rw [s1]
  go_wp2_with fail
  refine (small_any _ _ _ (hp.alloc _)).mono ?_
  rintro e w1 ⟨rfl, rfl⟩
  rw [s2]
  go_wp2_with fail
  refine (small_any _ _ _ (ht.alloc _)).mono ?_
  rintro e w1 ⟨rfl, rfl⟩
  rw [s3]
  go_wp2_with fail
  refine (small_any [pos] _ _ (lit_ints (w.alloc _) _ 1 (w.heap.size + 1) _ (by simp) rfl rfl (by simp))).mono ?_
  rintro e w1 ⟨rfl, rfl⟩
  rw [s4]
  go_wp2_with fail
  refine (stands_any _ _ _ _ _ ((hp.alloc _).alloc _) ((h1.alloc _).alloc _)).mono ?_
  rintro e w2 ⟨rfl, hs⟩
  rw [HH.out]
  have q0 := (hs.cell _).trans (box_cell w _ _ _ 0 _ rfl)
  have q1 := (hs.cell _).trans (box_cell w _ _ _ 1 _ rfl)
  have q2 := (hs.cell _).trans (box_cell w _ _ _ 2 _ rfl)
  have q3 := (hs.cell _).trans (box_cell w _ _ _ 3 _ rfl)
  have hb := gr_sm (gr_al (gr_al (gr_refl w) _) _) hs
  have i1 := ((h1.alloc _).alloc _).same hs
  have i2 := ((hp.alloc _).alloc _).same hs
  have i3 := ((ht.alloc _).alloc _).same hs
  have hsz : w.heap.size < w2.heap.size := by rw [hs.size]; simp; omega
  clear h1 hp ht
  go_wp2_with fail
  refine (clone_ints xs _ _ i1).mono ?_
  rintro e w3 ⟨v', rfl, ho, hbk⟩
  go_wp2
  go_ret2
  exact Mv.some_ HM.out (ho.mono hb.size) (gr_tr hb hbk)

set_option maxHeartbeats 2000000 in
theorem xmove_koh1 (xs q to : List Int) (pos : Int) (kind : Int) (v1 v2 : Value) (w : World) (h1 : Ints w v1 xs) (h2 : OpAt w v2 kind q to pos) (s1 : smallB xs = true) (s2 : smallB q = true) (s3 : smallB to = true) (s4 : smallB [pos] = true) (k1 : kind ≠ 1) (k2 : kind ≠ 2) (k3 : kind ≠ 3) (k4 : kind ≠ 4) (k5 : kind ≠ 5) (hq : 0 < q.length) (hh : standsN q xs = 1)
    (hm : moveP xs kind q to pos = some xs) :
    Calls Try.prog 23 #[v1, v2] w (Mv (moveP xs kind q to pos) w) := by
  obtain ⟨pv, tv, r4, r5, r6, r7, r8, r9, r10, r11, r12, r13, r14, r15, r16, r17, r18, r19, r20, rfl, hp, ht⟩ := h2
  have HM := Lib.hid hm
  obtain ⟨a1, c1, rfl⟩ := h1.slice
  have b1 := h1.len
  have HH := Lib.hid hh
  obtain ⟨n, hn⟩ : ∃ n, q.length = n + 1 := ⟨q.length - 1, by omega⟩
  have HN := Lib.hid hn
  obtain ⟨a2, c2, rfl⟩ := hp.slice_len hn
  obtain ⟨a3, n3, c3, rfl⟩ := ht.slice3
  have b2 := hp.len
  rw [hn] at b2
  have l1 : n + 1 ≤ xs.length := by have := (stands_len (q := q) (p := xs) (by rw [hh]; decide)).2; omega
  have f1 : (kind == 1) = false := by simpa using k1
  have f2 : (kind == 2) = false := by simpa using k2
  have f3 : (kind == 3) = false := by simpa using k3
  have f4 : (kind == 4) = false := by simpa using k4
  have f5 : (kind == 5) = false := by simpa using k5
  clear k1 k2 k3 k4 k5
  clear hm hh hn hq
  go_enter Try.func23, Try.ntmps23
  go_wp2_with fail
  refine (small_any _ _ _ (h1.alloc _)).mono ?_
  rintro e w1 ⟨rfl, rfl⟩
  rw [s1]
  go_wp2_with fail
  refine (small_any _ _ _ (hp.alloc _)).mono ?_
  rintro e w1 ⟨rfl, rfl⟩
  rw [s2]
  go_wp2_with fail
  refine (small_any _ _ _ (ht.alloc _)).mono ?_
  rintro e w1 ⟨rfl, rfl⟩
  rw [s3]
  go_wp2_with fail
  refine (small_any [pos] _ _ (lit_ints (w.alloc _) _ 1 (w.heap.size + 1) _ (by simp) rfl rfl (by simp))).mono ?_
  rintro e w1 ⟨rfl, rfl⟩
  rw [s4]
  go_wp2_with fail
  refine (stands_any _ _ _ _ _ ((hp.alloc _).alloc _) ((h1.alloc _).alloc _)).mono ?_
  rintro e w2 ⟨rfl, hs⟩
  rw [HH.out]
  have q0 := (hs.cell _).trans (box_cell w _ _ _ 0 _ rfl)
  have q1 := (hs.cell _).trans (box_cell w _ _ _ 1 _ rfl)
  have q2 := (hs.cell _).trans (box_cell w _ _ _ 2 _ rfl)
  have q3 := (hs.cell _).trans (box_cell w _ _ _ 3 _ rfl)
  have hb := gr_sm (gr_al (gr_al (gr_refl w) _) _) hs
  have i1 := ((h1.alloc _).alloc _).same hs
  have i2 := ((hp.alloc _).alloc _).same hs
  have i3 := ((ht.alloc _).alloc _).same hs
  have hsz : w.heap.size < w2.heap.size := by rw [hs.size]; simp; omega
  clear h1 hp ht
  go_wp2_with fail
  refine (clone_ints xs _ _ i1).mono ?_
  rintro e w3 ⟨v', rfl, ho, hbk⟩
  go_wp2
  go_ret2
  exact Mv.some_ HM.out (ho.mono hb.size) (gr_tr hb hbk)

set_option maxHeartbeats 2000000 in
theorem xmove_koh2 (xs q to : List Int) (pos : Int) (kind : Int) (v1 v2 : Value) (w : World) (h1 : Ints w v1 xs) (h2 : OpAt w v2 kind q to pos) (s1 : smallB xs = true) (s2 : smallB q = true) (s3 : smallB to = true) (s4 : smallB [pos] = true) (k1 : kind ≠ 1) (k2 : kind ≠ 2) (k3 : kind ≠ 3) (k4 : kind ≠ 4) (k5 : kind ≠ 5) (hq : 0 < q.length) (hh : standsN q xs = 2)
    (hm : moveP xs kind q to pos = some xs) :
    Calls Try.prog 23 #[v1, v2] w (Mv (moveP xs kind q to pos) w) := by
  obtain ⟨pv, tv, r4, r5, r6, r7, r8, r9, r10, r11, r12, r13, r14, r15, r16, r17, r18, r19, r20, rfl, hp, ht⟩ := h2
  have HM := Lib.hid hm
  obtain ⟨a1, c1, rfl⟩ := h1.slice
  have b1 := h1.len
  have HH := Lib.hid hh
  obtain ⟨n, hn⟩ : ∃ n, q.length = n + 1 := ⟨q.length - 1, by omega⟩
  have HN := Lib.hid hn
  obtain ⟨a2, c2, rfl⟩ := hp.slice_len hn
  obtain ⟨a3, n3, c3, rfl⟩ := ht.slice3
  have b2 := hp.len
  rw [hn] at b2
  have l1 : n + 1 ≤ xs.length := by have := (stands_len (q := q) (p := xs) (by rw [hh]; decide)).2; omega
  have l2 : n + 1 < xs.length := by have := stands_above_lt hh; omega
  have f1 : (kind == 1) = false := by simpa using k1
  have f2 : (kind == 2) = false := by simpa using k2
  have f3 : (kind == 3) = false := by simpa using k3
  have f4 : (kind == 4) = false := by simpa using k4
  have f5 : (kind == 5) = false := by simpa using k5
  clear k1 k2 k3 k4 k5
  clear hm hh hn hq
  go_enter Try.func23, Try.ntmps23
  go_wp2_with fail
  refine (small_any _ _ _ (h1.alloc _)).mono ?_
  rintro e w1 ⟨rfl, rfl⟩
  rw [s1]
  go_wp2_with fail
  refine (small_any _ _ _ (hp.alloc _)).mono ?_
  rintro e w1 ⟨rfl, rfl⟩
  rw [s2]
  go_wp2_with fail
  refine (small_any _ _ _ (ht.alloc _)).mono ?_
  rintro e w1 ⟨rfl, rfl⟩
  rw [s3]
  go_wp2_with fail
  refine (small_any [pos] _ _ (lit_ints (w.alloc _) _ 1 (w.heap.size + 1) _ (by simp) rfl rfl (by simp))).mono ?_
  rintro e w1 ⟨rfl, rfl⟩
  rw [s4]
  go_wp2_with fail
  refine (stands_any _ _ _ _ _ ((hp.alloc _).alloc _) ((h1.alloc _).alloc _)).mono ?_
  rintro e w2 ⟨rfl, hs⟩
  rw [HH.out]
  have q0 := (hs.cell _).trans (box_cell w _ _ _ 0 _ rfl)
  have q1 := (hs.cell _).trans (box_cell w _ _ _ 1 _ rfl)
  have q2 := (hs.cell _).trans (box_cell w _ _ _ 2 _ rfl)
  have q3 := (hs.cell _).trans (box_cell w _ _ _ 3 _ rfl)
  have hb := gr_sm (gr_al (gr_al (gr_refl w) _) _) hs
  have i1 := ((h1.alloc _).alloc _).same hs
  have i2 := ((hp.alloc _).alloc _).same hs
  have i3 := ((ht.alloc _).alloc _).same hs
  have hsz : w.heap.size < w2.heap.size := by rw [hs.size]; simp; omega
  clear h1 hp ht
  go_wp2_with fail
  refine (clone_ints xs _ _ i1).mono ?_
  rintro e w3 ⟨v', rfl, ho, hbk⟩
  go_wp2
  go_ret2
  exact Mv.some_ HM.out (ho.mono hb.size) (gr_tr hb hbk)

set_option maxHeartbeats 2000000 in
theorem xmove_koh3 (xs q to : List Int) (pos : Int) (kind : Int) (v1 v2 : Value) (w : World) (h1 : Ints w v1 xs) (h2 : OpAt w v2 kind q to pos) (s1 : smallB xs = true) (s2 : smallB q = true) (s3 : smallB to = true) (s4 : smallB [pos] = true) (k1 : kind ≠ 1) (k2 : kind ≠ 2) (k3 : kind ≠ 3) (k4 : kind ≠ 4) (k5 : kind ≠ 5) (hq : 0 < q.length) (hh : standsN q xs = 3)
    (hm : moveP xs kind q to pos = some xs) :
    Calls Try.prog 23 #[v1, v2] w (Mv (moveP xs kind q to pos) w) := by
  obtain ⟨pv, tv, r4, r5, r6, r7, r8, r9, r10, r11, r12, r13, r14, r15, r16, r17, r18, r19, r20, rfl, hp, ht⟩ := h2
  have HM := Lib.hid hm
  obtain ⟨a1, c1, rfl⟩ := h1.slice
  have b1 := h1.len
  have HH := Lib.hid hh
  obtain ⟨n, hn⟩ : ∃ n, q.length = n + 1 := ⟨q.length - 1, by omega⟩
  have HN := Lib.hid hn
  obtain ⟨a2, c2, rfl⟩ := hp.slice_len hn
  obtain ⟨a3, n3, c3, rfl⟩ := ht.slice3
  have b2 := hp.len
  rw [hn] at b2
  have l1 : n + 1 ≤ xs.length := by have := (stands_len (q := q) (p := xs) (by rw [hh]; decide)).2; omega
  have f1 : (kind == 1) = false := by simpa using k1
  have f2 : (kind == 2) = false := by simpa using k2
  have f3 : (kind == 3) = false := by simpa using k3
  have f4 : (kind == 4) = false := by simpa using k4
  have f5 : (kind == 5) = false := by simpa using k5
  clear k1 k2 k3 k4 k5
  clear hm hh hn hq
  go_enter Try.func23, Try.ntmps23
  go_wp2_with fail
  refine (small_any _ _ _ (h1.alloc _)).mono ?_
  rintro e w1 ⟨rfl, rfl⟩
  rw [s1]
  go_wp2_with fail
  refine (small_any _ _ _ (hp.alloc _)).mono ?_
  rintro e w1 ⟨rfl, rfl⟩
  rw [s2]
  go_wp2_with fail
  refine (small_any _ _ _ (ht.alloc _)).mono ?_
  rintro e w1 ⟨rfl, rfl⟩
  rw [s3]
  go_wp2_with fail
  refine (small_any [pos] _ _ (lit_ints (w.alloc _) _ 1 (w.heap.size + 1) _ (by simp) rfl rfl (by simp))).mono ?_
  rintro e w1 ⟨rfl, rfl⟩
  rw [s4]
  go_wp2_with fail
  refine (stands_any _ _ _ _ _ ((hp.alloc _).alloc _) ((h1.alloc _).alloc _)).mono ?_
  rintro e w2 ⟨rfl, hs⟩
  rw [HH.out]
  have q0 := (hs.cell _).trans (box_cell w _ _ _ 0 _ rfl)
  have q1 := (hs.cell _).trans (box_cell w _ _ _ 1 _ rfl)
  have q2 := (hs.cell _).trans (box_cell w _ _ _ 2 _ rfl)
  have q3 := (hs.cell _).trans (box_cell w _ _ _ 3 _ rfl)
  have hb := gr_sm (gr_al (gr_al (gr_refl w) _) _) hs
  have i1 := ((h1.alloc _).alloc _).same hs
  have i2 := ((hp.alloc _).alloc _).same hs
  have i3 := ((ht.alloc _).alloc _).same hs
  have hsz : w.heap.size < w2.heap.size := by rw [hs.size]; simp; omega
  clear h1 hp ht
  go_wp2_with fail
  refine (clone_ints xs _ _ i1).mono ?_
  rintro e w3 ⟨v', rfl, ho, hbk⟩
  go_wp2
  go_ret2
  exact Mv.some_ HM.out (ho.mono hb.size) (gr_tr hb hbk)

/- The walk of xpath.Move, all cases joined. -/
theorem xmove_any (xs q to : List Int) (kind pos : Int) (v1 v2 : Value) (w : World) (h1 : Ints w v1 xs) (h2 : OpAt w v2 kind q to pos) (hlen : (to.length + xs.length) * 8 ≤ 140737488351232) :
    Calls Try.prog 23 #[v1, v2] w (Mv (moveP xs kind q to pos) w) := by
  cases s1 : smallB xs
  · exact xmove_e1 xs q to pos kind v1 v2 w h1 h2 s1 (by simp [moveP, s1])
  cases s2 : smallB q
  · exact xmove_e2 xs q to pos kind v1 v2 w h1 h2 s1 s2 (by simp [moveP, s2])
  cases s3 : smallB to
  · exact xmove_e3 xs q to pos kind v1 v2 w h1 h2 s1 s2 s3 (by simp [moveP, s3])
  cases s4 : smallB [pos]
  · exact xmove_e4 xs q to pos kind v1 v2 w h1 h2 s1 s2 s3 s4 (by simp [moveP, s4])
  have hS : smallB xs = true ∧ smallB q = true ∧ smallB to = true ∧ smallB [pos] = true := ⟨s1, s2, s3, s4⟩
  rcases Nat.eq_zero_or_pos q.length with h0 | hq
  · exact xmove_z xs q to pos kind v1 v2 w h1 h2 s1 s2 s3 s4 h0 (by rw [moveP, if_pos hS, if_pos h0])
  have hq' : ¬ q.length = 0 := by omega
  have hM := Eq.refl (moveP xs kind q to pos)
  conv at hM =>
    rhs
    unfold moveP
  rw [if_pos hS, if_neg hq'] at hM
  by_cases k1 : kind = 1
  · subst k1
    rw [if_pos rfl] at hM
    rcases stands_range q xs with hh | hh | hh | hh
    · exact xmove_k1h0 xs q to pos v1 v2 w h1 h2 s1 s2 s3 s4 hq hh hM
    · exact xmove_k1h1 xs q to pos v1 v2 w h1 h2 s1 s2 s3 s4 hq hh hM
    · exact xmove_k1h2 xs q to pos v1 v2 w h1 h2 s1 s2 s3 s4 hq hh hM
    · exact xmove_k1h3 xs q to pos v1 v2 w h1 h2 s1 s2 s3 s4 hq hh hM
  rw [if_neg k1] at hM
  by_cases k2 : kind = 2
  · subst k2
    rw [if_pos rfl] at hM
    rcases stands_range q xs with hh | hh | hh | hh
    · exact xmove_k2h0 xs q to pos v1 v2 w h1 h2 s1 s2 s3 s4 hq hh (by rw [hM, hh]; simp)
    · exact xmove_k2h1 xs q to pos v1 v2 w h1 h2 s1 s2 s3 s4 hq hh (by rw [hM, hh]; simp)
    · exact xmove_k2h2 xs q to pos v1 v2 w h1 h2 s1 s2 s3 s4 hq hh (by rw [hM, hh]; simp)
    · exact xmove_k2h3 xs q to pos v1 v2 w h1 h2 s1 s2 s3 s4 hq hh (by rw [hM, hh]; simp)
  rw [if_neg k2] at hM
  by_cases k3 : kind = 3
  · subst k3
    rw [if_pos rfl] at hM
    by_cases hz : q.getD (q.length - 1) 0 = 0
    · rw [if_pos hz] at hM
      rcases stands_range q xs with hh | hh | hh | hh
      · exact xmove_k3zh0 xs q to pos v1 v2 w h1 h2 s1 s2 s3 s4 hz hq hh hM
      · exact xmove_k3zh1 xs q to pos v1 v2 w h1 h2 s1 s2 s3 s4 hz hq hh hM
      · exact xmove_k3zh2 xs q to pos v1 v2 w h1 h2 s1 s2 s3 s4 hz hq hh hM
      · exact xmove_k3zh3 xs q to pos v1 v2 w h1 h2 s1 s2 s3 s4 hz hq hh hM
    · rw [if_neg hz] at hM
      rcases stands_range q xs with hh | hh | hh | hh
      · exact xmove_k3h0 xs q to pos v1 v2 w h1 h2 s1 s2 s3 s4 hz hq hh (by rw [hM, hh]; simp)
      · exact xmove_k3h1 xs q to pos v1 v2 w h1 h2 s1 s2 s3 s4 hz hq hh (by rw [hM, hh]; simp)
      · exact xmove_k3h2 xs q to pos v1 v2 w h1 h2 s1 s2 s3 s4 hz hq hh (by rw [hM, hh]; simp)
      · exact xmove_k3h3 xs q to pos v1 v2 w h1 h2 s1 s2 s3 s4 hz hq hh (by rw [hM, hh]; simp)
  rw [if_neg k3] at hM
  by_cases k4 : kind = 4
  · subst k4
    rw [if_pos rfl] at hM
    rcases stands_range q xs with hh | hh | hh | hh
    · exact xmove_k4h0 xs q to pos v1 v2 w h1 h2 s1 s2 s3 s4 hq hh (by rw [hM, hh]; simp)
    · exact xmove_k4h1 xs q to pos v1 v2 w h1 h2 s1 s2 s3 s4 hq hh (by rw [hM, hh]; simp)
    · by_cases hz : pos ≤ xs.getD q.length 0
      · exact xmove_k4h2y xs q to pos v1 v2 w h1 h2 s1 s2 s3 s4 hz hq hh (by rw [hM, if_pos ⟨hh, hz⟩])
      · exact xmove_k4h2n xs q to pos v1 v2 w h1 h2 s1 s2 s3 s4 hz hq hh (by rw [hM, if_neg (fun h => hz h.2), hh]; simp)
    · exact xmove_k4h3 xs q to pos v1 v2 w h1 h2 s1 s2 s3 s4 hq hh (by rw [hM, hh]; simp)
  rw [if_neg k4] at hM
  by_cases k5 : kind = 5
  · subst k5
    rw [if_pos rfl] at hM
    rcases stands_range q xs with hh | hh | hh | hh
    · exact xmove_k5h0 xs q to pos v1 v2 w h1 h2 s1 s2 s3 s4 hq hh (by rw [hM, hh]; simp)
    · exact xmove_k5h1 xs q to pos v1 v2 w h1 h2 s1 s2 s3 s4 hq hh (by rw [hM, hh]; simp)
    · exact xmove_k5h2 xs q to pos v1 v2 w h1 h2 s1 s2 s3 s4 hlen hq hh (by rw [hM, hh]; simp)
    · obtain ⟨a, c, he, hle, _⟩ := id h1
      have hqx : q.length ≤ xs.length := (stands_len (q := q) (p := xs) (by rw [hh]; decide)).2
      rcases Nat.lt_or_ge q.length c with hc | hc
      · exact xmove_k5h3r xs q to pos v1 v2 w h1 h2 s1 s2 s3 s4 hlen (by intro a' n' c' h; rw [he] at h; simp only [Value.slice.injEq] at h; omega) hq hh (by rw [hM, hh]; simp)
      · exact xmove_k5h3n xs q to pos v1 v2 w h1 h2 s1 s2 s3 s4 hlen (by intro a' n' c' h; rw [he] at h; simp only [Value.slice.injEq] at h; omega) hq hh (by rw [hM, hh]; simp)
  rw [if_neg k5] at hM
  rcases stands_range q xs with hh | hh | hh | hh
  · exact xmove_koh0 xs q to pos kind v1 v2 w h1 h2 s1 s2 s3 s4 k1 k2 k3 k4 k5 hq hh hM
  · exact xmove_koh1 xs q to pos kind v1 v2 w h1 h2 s1 s2 s3 s4 k1 k2 k3 k4 k5 hq hh hM
  · exact xmove_koh2 xs q to pos kind v1 v2 w h1 h2 s1 s2 s3 s4 k1 k2 k3 k4 k5 hq hh hM
  · exact xmove_koh3 xs q to pos kind v1 v2 w h1 h2 s1 s2 s3 s4 k1 k2 k3 k4 k5 hq hh hM
end Go.Proofs.Ytcbljiiomnhbjaa
