/- The walk of xpath.Move, a theorem a case. -/
import Derived.Test.YtkalomdbbgeemaaXpathP
import Derived.Test.YtkalomdbbgeemaaXpath2
import Derived.Deep.RegionHeld3
namespace Go.Proofs.Ytkalomdbbgeemaa
open Go.RowKit

theorem ints_two (w : World) (g : Nat) (v1 v2 : Value) (xs ys : List Int) (hg : w.heap.size = g) (h1 : Ints w v1 xs) (h2 : Ints w v2 ys) :
    IntsL (w.alloc (.cells #[v1, v2] 22)) (.slice (some ⟨g, 0, none⟩) 2 2) [xs, ys] := by
  subst hg
  refine ⟨_, 2, [v1, v2], rfl, Nat.le_refl _, by unfold maxLen; omega, rfl, by simp, fun _ => ⟨w.heap.size, 0, rfl, fun j hj => ?_⟩, fun j hj => ?_⟩
  · rw [cell_of_row _ w.heap.size (0 + j) _ _ (0, 0) (heap_alloc_new w _)]
    match j, hj with
    | 0, _ => rfl
    | 1, _ => rfl
  · match j, hj with
    | 0, _ => exact h1.alloc _
    | 1, _ => exact h2.alloc _

/-- The end of a slice. -/
theorem Ints.drop {w : World} {a : Option Addr} {n cap k : Nat} {xs : List Int} (h : Ints w (.slice a n cap) xs) (hk : k ≤ n) (hlt : k < cap) : ∃ b off, a = some ⟨b, off, none⟩ ∧ Ints w (.slice (some ⟨b, off + k, none⟩) (n - k) (cap - k)) (xs.drop k) := by
  obtain ⟨a', cap', he, h1, hm, h2, h4⟩ := h
  simp only [Value.slice.injEq] at he
  obtain ⟨rfl, rfl, rfl⟩ := he
  obtain ⟨b, off, rfl, hc⟩ := h4 (by omega)
  refine ⟨b, off, rfl, _, cap - k, by simp, by simp; omega, by omega, by simp; omega, fun _ => ⟨b, off + k, rfl, fun j hj => ?_⟩⟩
  simp at hj
  have := hc (k + j) (by omega)
  rw [Nat.add_assoc, this]
  simp
theorem Ints.drop_end {w : World} {a : Option Addr} {n cap k c : Nat} {xs : List Int} (h : Ints w (.slice a n cap) xs) (hk : n ≤ k) : Ints w (.slice a 0 0) (xs.drop k) ∧ (c = 0 → Ints w (.slice a 0 c) (xs.drop k)) := by
  obtain ⟨a', cap', he, h1, hm, h2, h4⟩ := h
  simp only [Value.slice.injEq] at he
  obtain ⟨rfl, rfl, rfl⟩ := he
  have hd : xs.drop k = [] := List.drop_of_length_le hk
  rw [hd]
  have h0 : Ints w (.slice a 0 0) [] := ⟨a, 0, rfl, Nat.le_refl _, by unfold maxLen; omega, by simp, fun h => by omega⟩
  exact ⟨h0, fun hc => by subst hc; exact h0⟩

set_option maxHeartbeats 2000000 in
theorem xmove_e1 (xs q to : List Int) (pos : Int) (kind : Int) (v1 v2 : Value) (w : World) (h1 : Ints w v1 xs) (h2 : OpAt w v2 kind q to pos) (s1 : smallB xs = false)
    (hm : moveP xs kind q to pos = none) :
    Calls Try.prog 40 #[v1, v2] w (Mv (moveP xs kind q to pos) w) := by
  obtain ⟨pv, tv, r4, r5, r6, r7, r8, r9, r10, r11, r12, r13, r14, r15, r16, r17, r18, r19, r20, rfl, hp, ht⟩ := h2
  have HM := Lib.hid hm
  obtain ⟨a1, c1, rfl⟩ := h1.slice
  have b1 := h1.len
  obtain ⟨a2, n2, c2, rfl⟩ := hp.slice3
  obtain ⟨a3, n3, c3, rfl⟩ := ht.slice3
  clear hm
  go_enter Try.func40, Try.ntmps40
  go_wp2_with fail
  refine (small_any _ _ _ (h1.alloc _)).mono ?_
  rintro e w1 ⟨rfl, rfl⟩
  rw [s1]
  go_wp2
  go_ret2
  exact Mv.none_ HM.out (gr_al (gr_refl w) _)

set_option maxHeartbeats 2000000 in
theorem xmove_e2 (xs q to : List Int) (pos : Int) (kind : Int) (v1 v2 : Value) (w : World) (h1 : Ints w v1 xs) (h2 : OpAt w v2 kind q to pos) (s1 : smallB xs = true) (s2 : smallB q = false)
    (hm : moveP xs kind q to pos = none) :
    Calls Try.prog 40 #[v1, v2] w (Mv (moveP xs kind q to pos) w) := by
  obtain ⟨pv, tv, r4, r5, r6, r7, r8, r9, r10, r11, r12, r13, r14, r15, r16, r17, r18, r19, r20, rfl, hp, ht⟩ := h2
  have HM := Lib.hid hm
  obtain ⟨a1, c1, rfl⟩ := h1.slice
  have b1 := h1.len
  obtain ⟨a2, n2, c2, rfl⟩ := hp.slice3
  obtain ⟨a3, n3, c3, rfl⟩ := ht.slice3
  clear hm
  go_enter Try.func40, Try.ntmps40
  go_wp2_with fail
  refine (small_any _ _ _ (h1.alloc _)).mono ?_
  rintro e w1 ⟨rfl, rfl⟩
  rw [s1]
  go_wp2_with fail
  refine (small_any _ _ _ (hp.alloc _)).mono ?_
  rintro e w1 ⟨rfl, rfl⟩
  rw [s2]
  go_wp2
  go_ret2
  exact Mv.none_ HM.out (gr_al (gr_refl w) _)

set_option maxHeartbeats 2000000 in
theorem xmove_e3 (xs q to : List Int) (pos : Int) (kind : Int) (v1 v2 : Value) (w : World) (h1 : Ints w v1 xs) (h2 : OpAt w v2 kind q to pos) (s1 : smallB xs = true) (s2 : smallB q = true) (s3 : smallB to = false)
    (hm : moveP xs kind q to pos = none) :
    Calls Try.prog 40 #[v1, v2] w (Mv (moveP xs kind q to pos) w) := by
  obtain ⟨pv, tv, r4, r5, r6, r7, r8, r9, r10, r11, r12, r13, r14, r15, r16, r17, r18, r19, r20, rfl, hp, ht⟩ := h2
  have HM := Lib.hid hm
  obtain ⟨a1, c1, rfl⟩ := h1.slice
  have b1 := h1.len
  obtain ⟨a2, n2, c2, rfl⟩ := hp.slice3
  obtain ⟨a3, n3, c3, rfl⟩ := ht.slice3
  clear hm
  go_enter Try.func40, Try.ntmps40
  go_wp2_with fail
  refine (small_any _ _ _ (h1.alloc _)).mono ?_
  rintro e w1 ⟨rfl, rfl⟩
  rw [s1]
  go_wp2_with fail
  refine (small_any _ _ _ (hp.alloc _)).mono ?_
  rintro e w1 ⟨rfl, rfl⟩
  rw [s2]
  go_wp2_with fail
  refine (small_any _ _ _ (ht.alloc _)).mono ?_
  rintro e w1 ⟨rfl, rfl⟩
  rw [s3]
  go_wp2
  go_ret2
  exact Mv.none_ HM.out (gr_al (gr_refl w) _)

set_option maxHeartbeats 2000000 in
theorem xmove_e4 (xs q to : List Int) (pos : Int) (kind : Int) (v1 v2 : Value) (w : World) (h1 : Ints w v1 xs) (h2 : OpAt w v2 kind q to pos) (s1 : smallB xs = true) (s2 : smallB q = true) (s3 : smallB to = true) (s4 : smallB [pos] = false)
    (hm : moveP xs kind q to pos = none) :
    Calls Try.prog 40 #[v1, v2] w (Mv (moveP xs kind q to pos) w) := by
  obtain ⟨pv, tv, r4, r5, r6, r7, r8, r9, r10, r11, r12, r13, r14, r15, r16, r17, r18, r19, r20, rfl, hp, ht⟩ := h2
  have HM := Lib.hid hm
  obtain ⟨a1, c1, rfl⟩ := h1.slice
  have b1 := h1.len
  obtain ⟨a2, n2, c2, rfl⟩ := hp.slice3
  obtain ⟨a3, n3, c3, rfl⟩ := ht.slice3
  clear hm
  go_enter Try.func40, Try.ntmps40
  go_wp2_with fail
  refine (small_any _ _ _ (h1.alloc _)).mono ?_
  rintro e w1 ⟨rfl, rfl⟩
  rw [s1]
  go_wp2_with fail
  refine (small_any _ _ _ (hp.alloc _)).mono ?_
  rintro e w1 ⟨rfl, rfl⟩
  rw [s2]
  go_wp2_with fail
  refine (small_any _ _ _ (ht.alloc _)).mono ?_
  rintro e w1 ⟨rfl, rfl⟩
  rw [s3]
  go_wp2_with fail
  refine (small_any [pos] _ _ (lit_ints (w.alloc _) _ 1 (w.heap.size + 1) _ (by simp) rfl rfl (by simp))).mono ?_
  rintro e w1 ⟨rfl, rfl⟩
  rw [s4]
  go_wp2
  go_ret2
  exact Mv.none_ HM.out (gr_al (gr_al (gr_refl w) _) _)

set_option maxHeartbeats 2000000 in
theorem xmove_z (xs q to : List Int) (pos : Int) (kind : Int) (v1 v2 : Value) (w : World) (h1 : Ints w v1 xs) (h2 : OpAt w v2 kind q to pos) (s1 : smallB xs = true) (s2 : smallB q = true) (s3 : smallB to = true) (s4 : smallB [pos] = true) (hq : q.length = 0)
    (hm : moveP xs kind q to pos = some xs) :
    Calls Try.prog 40 #[v1, v2] w (Mv (moveP xs kind q to pos) w) := by
  obtain ⟨pv, tv, r4, r5, r6, r7, r8, r9, r10, r11, r12, r13, r14, r15, r16, r17, r18, r19, r20, rfl, hp, ht⟩ := h2
  have HM := Lib.hid hm
  obtain ⟨a1, c1, rfl⟩ := h1.slice
  have b1 := h1.len
  have HH : Hid (standsN q xs = 0) := by show _ = _; rw [standsN, if_pos hq]
  obtain ⟨a2, c2, rfl⟩ := hp.slice_len hq
  obtain ⟨a3, n3, c3, rfl⟩ := ht.slice3
  clear hm hq
  go_enter Try.func40, Try.ntmps40
  go_wp2_with fail
  refine (small_any _ _ _ (h1.alloc _)).mono ?_
  rintro e w1 ⟨rfl, rfl⟩
  rw [s1]
  go_wp2_with fail
  refine (small_any _ _ _ (hp.alloc _)).mono ?_
  rintro e w1 ⟨rfl, rfl⟩
  rw [s2]
  go_wp2_with fail
  refine (small_any _ _ _ (ht.alloc _)).mono ?_
  rintro e w1 ⟨rfl, rfl⟩
  rw [s3]
  go_wp2_with fail
  refine (small_any [pos] _ _ (lit_ints (w.alloc _) _ 1 (w.heap.size + 1) _ (by simp) rfl rfl (by simp))).mono ?_
  rintro e w1 ⟨rfl, rfl⟩
  rw [s4]
  go_wp2_with fail
  refine (stands_any _ _ _ _ _ ((hp.alloc _).alloc _) ((h1.alloc _).alloc _)).mono ?_
  rintro e w2 ⟨rfl, hs⟩
  rw [HH.out]
  have q0 := (hs.cell _).trans (box_cell w _ _ _ 0 _ rfl)
  have q1 := (hs.cell _).trans (box_cell w _ _ _ 1 _ rfl)
  have q2 := (hs.cell _).trans (box_cell w _ _ _ 2 _ rfl)
  have q3 := (hs.cell _).trans (box_cell w _ _ _ 3 _ rfl)
  have hb := gr_sm (gr_al (gr_al (gr_refl w) _) _) hs
  have i1 := ((h1.alloc _).alloc _).same hs
  have i2 := ((hp.alloc _).alloc _).same hs
  have i3 := ((ht.alloc _).alloc _).same hs
  have hsz : w.heap.size < w2.heap.size := by rw [hs.size]; simp; omega
  clear h1 hp ht
  go_wp2_with fail
  refine (clone_ints xs _ _ i1).mono ?_
  rintro e w3 ⟨v', rfl, ho, hbk⟩
  go_wp2
  go_ret2
  exact Mv.some_ HM.out (ho.mono hb.size) (gr_tr hb hbk)

set_option maxHeartbeats 2000000 in
theorem xmove_k1h0 (xs q to : List Int) (pos : Int) (v1 v2 : Value) (w : World) (h1 : Ints w v1 xs) (h2 : OpAt w v2 1 q to pos) (s1 : smallB xs = true) (s2 : smallB q = true) (s3 : smallB to = true) (s4 : smallB [pos] = true) (hq : 0 < q.length) (hh : standsN q xs = 0)
    (hm : moveP xs 1 q to pos = some (insL xs q)) :
    Calls Try.prog 40 #[v1, v2] w (Mv (moveP xs 1 q to pos) w) := by
  obtain ⟨pv, tv, r4, r5, r6, r7, r8, r9, r10, r11, r12, r13, r14, r15, r16, r17, r18, r19, r20, rfl, hp, ht⟩ := h2
  have HM := Lib.hid hm
  obtain ⟨a1, c1, rfl⟩ := h1.slice
  have b1 := h1.len
  have HH := Lib.hid hh
  obtain ⟨n, hn⟩ : ∃ n, q.length = n + 1 := ⟨q.length - 1, by omega⟩
  have HN := Lib.hid hn
  obtain ⟨a2, c2, rfl⟩ := hp.slice_len hn
  obtain ⟨a3, n3, c3, rfl⟩ := ht.slice3
  have b2 := hp.len
  rw [hn] at b2
  have SS1 := Lib.hid s1
  clear hm hh hn hq
  go_enter Try.func40, Try.ntmps40
  go_wp2_with fail
  refine (small_any _ _ _ (h1.alloc _)).mono ?_
  rintro e w1 ⟨rfl, rfl⟩
  rw [s1]
  go_wp2_with fail
  refine (small_any _ _ _ (hp.alloc _)).mono ?_
  rintro e w1 ⟨rfl, rfl⟩
  rw [s2]
  go_wp2_with fail
  refine (small_any _ _ _ (ht.alloc _)).mono ?_
  rintro e w1 ⟨rfl, rfl⟩
  rw [s3]
  go_wp2_with fail
  refine (small_any [pos] _ _ (lit_ints (w.alloc _) _ 1 (w.heap.size + 1) _ (by simp) rfl rfl (by simp))).mono ?_
  rintro e w1 ⟨rfl, rfl⟩
  rw [s4]
  go_wp2_with fail
  refine (stands_any _ _ _ _ _ ((hp.alloc _).alloc _) ((h1.alloc _).alloc _)).mono ?_
  rintro e w2 ⟨rfl, hs⟩
  rw [HH.out]
  have q0 := (hs.cell _).trans (box_cell w _ _ _ 0 _ rfl)
  have q1 := (hs.cell _).trans (box_cell w _ _ _ 1 _ rfl)
  have q2 := (hs.cell _).trans (box_cell w _ _ _ 2 _ rfl)
  have q3 := (hs.cell _).trans (box_cell w _ _ _ 3 _ rfl)
  have hb := gr_sm (gr_al (gr_al (gr_refl w) _) _) hs
  have i1 := ((h1.alloc _).alloc _).same hs
  have i2 := ((hp.alloc _).alloc _).same hs
  have i3 := ((ht.alloc _).alloc _).same hs
  have hsz : w.heap.size < w2.heap.size := by rw [hs.size]; simp; omega
  clear h1 hp ht
  go_wp2_with fail
  refine (inserted_any xs q _ _ _ i1 i2 (by intro x hx; have := smallB_iff.1 SS1.out x hx; omega)).mono ?_
  rintro e w3 ⟨v', rfl, ho, hbk⟩
  go_wp2
  go_ret2
  exact Mv.some_ HM.out (ho.mono hb.size) (gr_tr hb hbk)

set_option maxHeartbeats 2000000 in
theorem xmove_k1h1 (xs q to : List Int) (pos : Int) (v1 v2 : Value) (w : World) (h1 : Ints w v1 xs) (h2 : OpAt w v2 1 q to pos) (s1 : smallB xs = true) (s2 : smallB q = true) (s3 : smallB to = true) (s4 : smallB [pos] = true) (hq : 0 < q.length) (hh : standsN q xs = 1)
    (hm : moveP xs 1 q to pos = some (insL xs q)) :
    Calls Try.prog 40 #[v1, v2] w (Mv (moveP xs 1 q to pos) w) := by
  obtain ⟨pv, tv, r4, r5, r6, r7, r8, r9, r10, r11, r12, r13, r14, r15, r16, r17, r18, r19, r20, rfl, hp, ht⟩ := h2
  have HM := Lib.hid hm
  obtain ⟨a1, c1, rfl⟩ := h1.slice
  have b1 := h1.len
  have HH := Lib.hid hh
  obtain ⟨n, hn⟩ : ∃ n, q.length = n + 1 := ⟨q.length - 1, by omega⟩
  have HN := Lib.hid hn
  obtain ⟨a2, c2, rfl⟩ := hp.slice_len hn
  obtain ⟨a3, n3, c3, rfl⟩ := ht.slice3
  have b2 := hp.len
  rw [hn] at b2
  have l1 : n + 1 ≤ xs.length := by have := (stands_len (q := q) (p := xs) (by rw [hh]; decide)).2; omega
  have SS1 := Lib.hid s1
  clear hm hh hn hq
  go_enter Try.func40, Try.ntmps40
  go_wp2_with fail
  refine (small_any _ _ _ (h1.alloc _)).mono ?_
  rintro e w1 ⟨rfl, rfl⟩
  rw [s1]
  go_wp2_with fail
  refine (small_any _ _ _ (hp.alloc _)).mono ?_
  rintro e w1 ⟨rfl, rfl⟩
  rw [s2]
  go_wp2_with fail
  refine (small_any _ _ _ (ht.alloc _)).mono ?_
  rintro e w1 ⟨rfl, rfl⟩
  rw [s3]
  go_wp2_with fail
  refine (small_any [pos] _ _ (lit_ints (w.alloc _) _ 1 (w.heap.size + 1) _ (by simp) rfl rfl (by simp))).mono ?_
  rintro e w1 ⟨rfl, rfl⟩
  rw [s4]
  go_wp2_with fail
  refine (stands_any _ _ _ _ _ ((hp.alloc _).alloc _) ((h1.alloc _).alloc _)).mono ?_
  rintro e w2 ⟨rfl, hs⟩
  rw [HH.out]
  have q0 := (hs.cell _).trans (box_cell w _ _ _ 0 _ rfl)
  have q1 := (hs.cell _).trans (box_cell w _ _ _ 1 _ rfl)
  have q2 := (hs.cell _).trans (box_cell w _ _ _ 2 _ rfl)
  have q3 := (hs.cell _).trans (box_cell w _ _ _ 3 _ rfl)
  have hb := gr_sm (gr_al (gr_al (gr_refl w) _) _) hs
  have i1 := ((h1.alloc _).alloc _).same hs
  have i2 := ((hp.alloc _).alloc _).same hs
  have i3 := ((ht.alloc _).alloc _).same hs
  have hsz : w.heap.size < w2.heap.size := by rw [hs.size]; simp; omega
  clear h1 hp ht
  go_wp2_with fail
  refine (inserted_any xs q _ _ _ i1 i2 (by intro x hx; have := smallB_iff.1 SS1.out x hx; omega)).mono ?_
  rintro e w3 ⟨v', rfl, ho, hbk⟩
  go_wp2
  go_ret2
  exact Mv.some_ HM.out (ho.mono hb.size) (gr_tr hb hbk)

set_option maxHeartbeats 2000000 in
theorem xmove_k1h2 (xs q to : List Int) (pos : Int) (v1 v2 : Value) (w : World) (h1 : Ints w v1 xs) (h2 : OpAt w v2 1 q to pos) (s1 : smallB xs = true) (s2 : smallB q = true) (s3 : smallB to = true) (s4 : smallB [pos] = true) (hq : 0 < q.length) (hh : standsN q xs = 2)
    (hm : moveP xs 1 q to pos = some (insL xs q)) :
    Calls Try.prog 40 #[v1, v2] w (Mv (moveP xs 1 q to pos) w) := by
  obtain ⟨pv, tv, r4, r5, r6, r7, r8, r9, r10, r11, r12, r13, r14, r15, r16, r17, r18, r19, r20, rfl, hp, ht⟩ := h2
  have HM := Lib.hid hm
  obtain ⟨a1, c1, rfl⟩ := h1.slice
  have b1 := h1.len
  have HH := Lib.hid hh
  obtain ⟨n, hn⟩ : ∃ n, q.length = n + 1 := ⟨q.length - 1, by omega⟩
  have HN := Lib.hid hn
  obtain ⟨a2, c2, rfl⟩ := hp.slice_len hn
  obtain ⟨a3, n3, c3, rfl⟩ := ht.slice3
  have b2 := hp.len
  rw [hn] at b2
  have l1 : n + 1 ≤ xs.length := by have := (stands_len (q := q) (p := xs) (by rw [hh]; decide)).2; omega
  have l2 : n + 1 < xs.length := by have := stands_above_lt hh; omega
  have SS1 := Lib.hid s1
  clear hm hh hn hq
  go_enter Try.func40, Try.ntmps40
  go_wp2_with fail
  refine (small_any _ _ _ (h1.alloc _)).mono ?_
  rintro e w1 ⟨rfl, rfl⟩
  rw [s1]
  go_wp2_with fail
  refine (small_any _ _ _ (hp.alloc _)).mono ?_
  rintro e w1 ⟨rfl, rfl⟩
  rw [s2]
  go_wp2_with fail
  refine (small_any _ _ _ (ht.alloc _)).mono ?_
  rintro e w1 ⟨rfl, rfl⟩
  rw [s3]
  go_wp2_with fail
  refine (small_any [pos] _ _ (lit_ints (w.alloc _) _ 1 (w.heap.size + 1) _ (by simp) rfl rfl (by simp))).mono ?_
  rintro e w1 ⟨rfl, rfl⟩
  rw [s4]
  go_wp2_with fail
  refine (stands_any _ _ _ _ _ ((hp.alloc _).alloc _) ((h1.alloc _).alloc _)).mono ?_
  rintro e w2 ⟨rfl, hs⟩
  rw [HH.out]
  have q0 := (hs.cell _).trans (box_cell w _ _ _ 0 _ rfl)
  have q1 := (hs.cell _).trans (box_cell w _ _ _ 1 _ rfl)
  have q2 := (hs.cell _).trans (box_cell w _ _ _ 2 _ rfl)
  have q3 := (hs.cell _).trans (box_cell w _ _ _ 3 _ rfl)
  have hb := gr_sm (gr_al (gr_al (gr_refl w) _) _) hs
  have i1 := ((h1.alloc _).alloc _).same hs
  have i2 := ((hp.alloc _).alloc _).same hs
  have i3 := ((ht.alloc _).alloc _).same hs
  have hsz : w.heap.size < w2.heap.size := by rw [hs.size]; simp; omega
  clear h1 hp ht
  go_wp2_with fail
  refine (inserted_any xs q _ _ _ i1 i2 (by intro x hx; have := smallB_iff.1 SS1.out x hx; omega)).mono ?_
  rintro e w3 ⟨v', rfl, ho, hbk⟩
  go_wp2
  go_ret2
  exact Mv.some_ HM.out (ho.mono hb.size) (gr_tr hb hbk)

set_option maxHeartbeats 2000000 in
theorem xmove_k1h3 (xs q to : List Int) (pos : Int) (v1 v2 : Value) (w : World) (h1 : Ints w v1 xs) (h2 : OpAt w v2 1 q to pos) (s1 : smallB xs = true) (s2 : smallB q = true) (s3 : smallB to = true) (s4 : smallB [pos] = true) (hq : 0 < q.length) (hh : standsN q xs = 3)
    (hm : moveP xs 1 q to pos = some (insL xs q)) :
    Calls Try.prog 40 #[v1, v2] w (Mv (moveP xs 1 q to pos) w) := by
  obtain ⟨pv, tv, r4, r5, r6, r7, r8, r9, r10, r11, r12, r13, r14, r15, r16, r17, r18, r19, r20, rfl, hp, ht⟩ := h2
  have HM := Lib.hid hm
  obtain ⟨a1, c1, rfl⟩ := h1.slice
  have b1 := h1.len
  have HH := Lib.hid hh
  obtain ⟨n, hn⟩ : ∃ n, q.length = n + 1 := ⟨q.length - 1, by omega⟩
  have HN := Lib.hid hn
  obtain ⟨a2, c2, rfl⟩ := hp.slice_len hn
  obtain ⟨a3, n3, c3, rfl⟩ := ht.slice3
  have b2 := hp.len
  rw [hn] at b2
  have l1 : n + 1 ≤ xs.length := by have := (stands_len (q := q) (p := xs) (by rw [hh]; decide)).2; omega
  have SS1 := Lib.hid s1
  clear hm hh hn hq
  go_enter Try.func40, Try.ntmps40
  go_wp2_with fail
  refine (small_any _ _ _ (h1.alloc _)).mono ?_
  rintro e w1 ⟨rfl, rfl⟩
  rw [s1]
  go_wp2_with fail
  refine (small_any _ _ _ (hp.alloc _)).mono ?_
  rintro e w1 ⟨rfl, rfl⟩
  rw [s2]
  go_wp2_with fail
  refine (small_any _ _ _ (ht.alloc _)).mono ?_
  rintro e w1 ⟨rfl, rfl⟩
  rw [s3]
  go_wp2_with fail
  refine (small_any [pos] _ _ (lit_ints (w.alloc _) _ 1 (w.heap.size + 1) _ (by simp) rfl rfl (by simp))).mono ?_
  rintro e w1 ⟨rfl, rfl⟩
  rw [s4]
  go_wp2_with fail
  refine (stands_any _ _ _ _ _ ((hp.alloc _).alloc _) ((h1.alloc _).alloc _)).mono ?_
  rintro e w2 ⟨rfl, hs⟩
  rw [HH.out]
  have q0 := (hs.cell _).trans (box_cell w _ _ _ 0 _ rfl)
  have q1 := (hs.cell _).trans (box_cell w _ _ _ 1 _ rfl)
  have q2 := (hs.cell _).trans (box_cell w _ _ _ 2 _ rfl)
  have q3 := (hs.cell _).trans (box_cell w _ _ _ 3 _ rfl)
  have hb := gr_sm (gr_al (gr_al (gr_refl w) _) _) hs
  have i1 := ((h1.alloc _).alloc _).same hs
  have i2 := ((hp.alloc _).alloc _).same hs
  have i3 := ((ht.alloc _).alloc _).same hs
  have hsz : w.heap.size < w2.heap.size := by rw [hs.size]; simp; omega
  clear h1 hp ht
  go_wp2_with fail
  refine (inserted_any xs q _ _ _ i1 i2 (by intro x hx; have := smallB_iff.1 SS1.out x hx; omega)).mono ?_
  rintro e w3 ⟨v', rfl, ho, hbk⟩
  go_wp2
  go_ret2
  exact Mv.some_ HM.out (ho.mono hb.size) (gr_tr hb hbk)

set_option maxHeartbeats 2000000 in
theorem xmove_k2h3 (xs q to : List Int) (pos : Int) (v1 v2 : Value) (w : World) (h1 : Ints w v1 xs) (h2 : OpAt w v2 2 q to pos) (s1 : smallB xs = true) (s2 : smallB q = true) (s3 : smallB to = true) (s4 : smallB [pos] = true) (hq : 0 < q.length) (hh : standsN q xs = 3)
    (hm : moveP xs 2 q to pos = none) :
    Calls Try.prog 40 #[v1, v2] w (Mv (moveP xs 2 q to pos) w) := by
  obtain ⟨pv, tv, r4, r5, r6, r7, r8, r9, r10, r11, r12, r13, r14, r15, r16, r17, r18, r19, r20, rfl, hp, ht⟩ := h2
  have HM := Lib.hid hm
  obtain ⟨a1, c1, rfl⟩ := h1.slice
  have b1 := h1.len
  have HH := Lib.hid hh
  obtain ⟨n, hn⟩ : ∃ n, q.length = n + 1 := ⟨q.length - 1, by omega⟩
  have HN := Lib.hid hn
  obtain ⟨a2, c2, rfl⟩ := hp.slice_len hn
  obtain ⟨a3, n3, c3, rfl⟩ := ht.slice3
  have b2 := hp.len
  rw [hn] at b2
  have l1 : n + 1 ≤ xs.length := by have := (stands_len (q := q) (p := xs) (by rw [hh]; decide)).2; omega
  clear hm hh hn hq
  go_enter Try.func40, Try.ntmps40
  go_wp2_with fail
  refine (small_any _ _ _ (h1.alloc _)).mono ?_
  rintro e w1 ⟨rfl, rfl⟩
  rw [s1]
  go_wp2_with fail
  refine (small_any _ _ _ (hp.alloc _)).mono ?_
  rintro e w1 ⟨rfl, rfl⟩
  rw [s2]
  go_wp2_with fail
  refine (small_any _ _ _ (ht.alloc _)).mono ?_
  rintro e w1 ⟨rfl, rfl⟩
  rw [s3]
  go_wp2_with fail
  refine (small_any [pos] _ _ (lit_ints (w.alloc _) _ 1 (w.heap.size + 1) _ (by simp) rfl rfl (by simp))).mono ?_
  rintro e w1 ⟨rfl, rfl⟩
  rw [s4]
  go_wp2_with fail
  refine (stands_any _ _ _ _ _ ((hp.alloc _).alloc _) ((h1.alloc _).alloc _)).mono ?_
  rintro e w2 ⟨rfl, hs⟩
  rw [HH.out]
  have q0 := (hs.cell _).trans (box_cell w _ _ _ 0 _ rfl)
  have q1 := (hs.cell _).trans (box_cell w _ _ _ 1 _ rfl)
  have q2 := (hs.cell _).trans (box_cell w _ _ _ 2 _ rfl)
  have q3 := (hs.cell _).trans (box_cell w _ _ _ 3 _ rfl)
  have hb := gr_sm (gr_al (gr_al (gr_refl w) _) _) hs
  have i1 := ((h1.alloc _).alloc _).same hs
  have i2 := ((hp.alloc _).alloc _).same hs
  have i3 := ((ht.alloc _).alloc _).same hs
  have hsz : w.heap.size < w2.heap.size := by rw [hs.size]; simp; omega
  clear h1 hp ht
  go_wp2
  go_ret2
  exact Mv.none_ HM.out hb

set_option maxHeartbeats 2000000 in
theorem xmove_k2h2 (xs q to : List Int) (pos : Int) (v1 v2 : Value) (w : World) (h1 : Ints w v1 xs) (h2 : OpAt w v2 2 q to pos) (s1 : smallB xs = true) (s2 : smallB q = true) (s3 : smallB to = true) (s4 : smallB [pos] = true) (hq : 0 < q.length) (hh : standsN q xs = 2)
    (hm : moveP xs 2 q to pos = none) :
    Calls Try.prog 40 #[v1, v2] w (Mv (moveP xs 2 q to pos) w) := by
  obtain ⟨pv, tv, r4, r5, r6, r7, r8, r9, r10, r11, r12, r13, r14, r15, r16, r17, r18, r19, r20, rfl, hp, ht⟩ := h2
  have HM := Lib.hid hm
  obtain ⟨a1, c1, rfl⟩ := h1.slice
  have b1 := h1.len
  have HH := Lib.hid hh
  obtain ⟨n, hn⟩ : ∃ n, q.length = n + 1 := ⟨q.length - 1, by omega⟩
  have HN := Lib.hid hn
  obtain ⟨a2, c2, rfl⟩ := hp.slice_len hn
  obtain ⟨a3, n3, c3, rfl⟩ := ht.slice3
  have b2 := hp.len
  rw [hn] at b2
  have l1 : n + 1 ≤ xs.length := by have := (stands_len (q := q) (p := xs) (by rw [hh]; decide)).2; omega
  have l2 : n + 1 < xs.length := by have := stands_above_lt hh; omega
  clear hm hh hn hq
  go_enter Try.func40, Try.ntmps40
  go_wp2_with fail
  refine (small_any _ _ _ (h1.alloc _)).mono ?_
  rintro e w1 ⟨rfl, rfl⟩
  rw [s1]
  go_wp2_with fail
  refine (small_any _ _ _ (hp.alloc _)).mono ?_
  rintro e w1 ⟨rfl, rfl⟩
  rw [s2]
  go_wp2_with fail
  refine (small_any _ _ _ (ht.alloc _)).mono ?_
  rintro e w1 ⟨rfl, rfl⟩
  rw [s3]
  go_wp2_with fail
  refine (small_any [pos] _ _ (lit_ints (w.alloc _) _ 1 (w.heap.size + 1) _ (by simp) rfl rfl (by simp))).mono ?_
  rintro e w1 ⟨rfl, rfl⟩
  rw [s4]
  go_wp2_with fail
  refine (stands_any _ _ _ _ _ ((hp.alloc _).alloc _) ((h1.alloc _).alloc _)).mono ?_
  rintro e w2 ⟨rfl, hs⟩
  rw [HH.out]
  have q0 := (hs.cell _).trans (box_cell w _ _ _ 0 _ rfl)
  have q1 := (hs.cell _).trans (box_cell w _ _ _ 1 _ rfl)
  have q2 := (hs.cell _).trans (box_cell w _ _ _ 2 _ rfl)
  have q3 := (hs.cell _).trans (box_cell w _ _ _ 3 _ rfl)
  have hb := gr_sm (gr_al (gr_al (gr_refl w) _) _) hs
  have i1 := ((h1.alloc _).alloc _).same hs
  have i2 := ((hp.alloc _).alloc _).same hs
  have i3 := ((ht.alloc _).alloc _).same hs
  have hsz : w.heap.size < w2.heap.size := by rw [hs.size]; simp; omega
  clear h1 hp ht
  go_wp2
  go_ret2
  exact Mv.none_ HM.out hb

set_option maxHeartbeats 2000000 in
theorem xmove_k2h1 (xs q to : List Int) (pos : Int) (v1 v2 : Value) (w : World) (h1 : Ints w v1 xs) (h2 : OpAt w v2 2 q to pos) (s1 : smallB xs = true) (s2 : smallB q = true) (s3 : smallB to = true) (s4 : smallB [pos] = true) (hq : 0 < q.length) (hh : standsN q xs = 1)
    (hm : moveP xs 2 q to pos = some (shiftL xs (q.length - 1) (-1))) :
    Calls Try.prog 40 #[v1, v2] w (Mv (moveP xs 2 q to pos) w) := by
  obtain ⟨pv, tv, r4, r5, r6, r7, r8, r9, r10, r11, r12, r13, r14, r15, r16, r17, r18, r19, r20, rfl, hp, ht⟩ := h2
  have HM := Lib.hid hm
  obtain ⟨a1, c1, rfl⟩ := h1.slice
  have b1 := h1.len
  have HH := Lib.hid hh
  obtain ⟨n, hn⟩ : ∃ n, q.length = n + 1 := ⟨q.length - 1, by omega⟩
  have HN := Lib.hid hn
  obtain ⟨a2, c2, rfl⟩ := hp.slice_len hn
  obtain ⟨a3, n3, c3, rfl⟩ := ht.slice3
  have b2 := hp.len
  rw [hn] at b2
  have l1 : n + 1 ≤ xs.length := by have := (stands_len (q := q) (p := xs) (by rw [hh]; decide)).2; omega
  have SS1 := Lib.hid s1
  clear hm hh hn hq
  go_enter Try.func40, Try.ntmps40
  go_wp2_with fail
  refine (small_any _ _ _ (h1.alloc _)).mono ?_
  rintro e w1 ⟨rfl, rfl⟩
  rw [s1]
  go_wp2_with fail
  refine (small_any _ _ _ (hp.alloc _)).mono ?_
  rintro e w1 ⟨rfl, rfl⟩
  rw [s2]
  go_wp2_with fail
  refine (small_any _ _ _ (ht.alloc _)).mono ?_
  rintro e w1 ⟨rfl, rfl⟩
  rw [s3]
  go_wp2_with fail
  refine (small_any [pos] _ _ (lit_ints (w.alloc _) _ 1 (w.heap.size + 1) _ (by simp) rfl rfl (by simp))).mono ?_
  rintro e w1 ⟨rfl, rfl⟩
  rw [s4]
  go_wp2_with fail
  refine (stands_any _ _ _ _ _ ((hp.alloc _).alloc _) ((h1.alloc _).alloc _)).mono ?_
  rintro e w2 ⟨rfl, hs⟩
  rw [HH.out]
  have q0 := (hs.cell _).trans (box_cell w _ _ _ 0 _ rfl)
  have q1 := (hs.cell _).trans (box_cell w _ _ _ 1 _ rfl)
  have q2 := (hs.cell _).trans (box_cell w _ _ _ 2 _ rfl)
  have q3 := (hs.cell _).trans (box_cell w _ _ _ 3 _ rfl)
  have hb := gr_sm (gr_al (gr_al (gr_refl w) _) _) hs
  have i1 := ((h1.alloc _).alloc _).same hs
  have i2 := ((hp.alloc _).alloc _).same hs
  have i3 := ((ht.alloc _).alloc _).same hs
  have hsz : w.heap.size < w2.heap.size := by rw [hs.size]; simp; omega
  clear h1 hp ht
  go_wp2_with fail
  refine (shift_any xs _ n (-1) _ i1 (by omega) (by have := small_get SS1.out n; omega)).mono ?_
  rintro e w3 ⟨v', rfl, ho, hbk⟩
  go_wp2
  go_ret2
  have hfin : q.length - 1 = n := by have := HN.out; omega
  exact Mv.some_ HM.out (by rw [hfin]; exact ho.mono hb.size) (gr_tr hb hbk)

set_option maxHeartbeats 2000000 in
theorem xmove_k2h0 (xs q to : List Int) (pos : Int) (v1 v2 : Value) (w : World) (h1 : Ints w v1 xs) (h2 : OpAt w v2 2 q to pos) (s1 : smallB xs = true) (s2 : smallB q = true) (s3 : smallB to = true) (s4 : smallB [pos] = true) (hq : 0 < q.length) (hh : standsN q xs = 0)
    (hm : moveP xs 2 q to pos = some xs) :
    Calls Try.prog 40 #[v1, v2] w (Mv (moveP xs 2 q to pos) w) := by
  obtain ⟨pv, tv, r4, r5, r6, r7, r8, r9, r10, r11, r12, r13, r14, r15, r16, r17, r18, r19, r20, rfl, hp, ht⟩ := h2
  have HM := Lib.hid hm
  obtain ⟨a1, c1, rfl⟩ := h1.slice
  have b1 := h1.len
  have HH := Lib.hid hh
  obtain ⟨n, hn⟩ : ∃ n, q.length = n + 1 := ⟨q.length - 1, by omega⟩
  have HN := Lib.hid hn
  obtain ⟨a2, c2, rfl⟩ := hp.slice_len hn
  obtain ⟨a3, n3, c3, rfl⟩ := ht.slice3
  have b2 := hp.len
  rw [hn] at b2
  clear hm hh hn hq
  go_enter Try.func40, Try.ntmps40
  go_wp2_with fail
  refine (small_any _ _ _ (h1.alloc _)).mono ?_
  rintro e w1 ⟨rfl, rfl⟩
  rw [s1]
  go_wp2_with fail
  refine (small_any _ _ _ (hp.alloc _)).mono ?_
  rintro e w1 ⟨rfl, rfl⟩
  rw [s2]
  go_wp2_with fail
  refine (small_any _ _ _ (ht.alloc _)).mono ?_
  rintro e w1 ⟨rfl, rfl⟩
  rw [s3]
  go_wp2_with fail
  refine (small_any [pos] _ _ (lit_ints (w.alloc _) _ 1 (w.heap.size + 1) _ (by simp) rfl rfl (by simp))).mono ?_
  rintro e w1 ⟨rfl, rfl⟩
  rw [s4]
  go_wp2_with fail
  refine (stands_any _ _ _ _ _ ((hp.alloc _).alloc _) ((h1.alloc _).alloc _)).mono ?_
  rintro e w2 ⟨rfl, hs⟩
  rw [HH.out]
  have q0 := (hs.cell _).trans (box_cell w _ _ _ 0 _ rfl)
  have q1 := (hs.cell _).trans (box_cell w _ _ _ 1 _ rfl)
  have q2 := (hs.cell _).trans (box_cell w _ _ _ 2 _ rfl)
  have q3 := (hs.cell _).trans (box_cell w _ _ _ 3 _ rfl)
  have hb := gr_sm (gr_al (gr_al (gr_refl w) _) _) hs
  have i1 := ((h1.alloc _).alloc _).same hs
  have i2 := ((hp.alloc _).alloc _).same hs
  have i3 := ((ht.alloc _).alloc _).same hs
  have hsz : w.heap.size < w2.heap.size := by rw [hs.size]; simp; omega
  clear h1 hp ht
  go_wp2_with fail
  refine (clone_ints xs _ _ i1).mono ?_
  rintro e w3 ⟨v', rfl, ho, hbk⟩
  go_wp2
  go_ret2
  exact Mv.some_ HM.out (ho.mono hb.size) (gr_tr hb hbk)

set_option maxHeartbeats 2000000 in
theorem xmove_k3zh0 (xs q to : List Int) (pos : Int) (v1 v2 : Value) (w : World) (h1 : Ints w v1 xs) (h2 : OpAt w v2 3 q to pos) (s1 : smallB xs = true) (s2 : smallB q = true) (s3 : smallB to = true) (s4 : smallB [pos] = true) (hz : q.getD (q.length - 1) 0 = 0) (hq : 0 < q.length) (hh : standsN q xs = 0)
    (hm : moveP xs 3 q to pos = none) :
    Calls Try.prog 40 #[v1, v2] w (Mv (moveP xs 3 q to pos) w) := by
  obtain ⟨pv, tv, r4, r5, r6, r7, r8, r9, r10, r11, r12, r13, r14, r15, r16, r17, r18, r19, r20, rfl, hp, ht⟩ := h2
  have HM := Lib.hid hm
  obtain ⟨a1, c1, rfl⟩ := h1.slice
  have b1 := h1.len
  have HH := Lib.hid hh
  obtain ⟨n, hn⟩ : ∃ n, q.length = n + 1 := ⟨q.length - 1, by omega⟩
  have HN := Lib.hid hn
  obtain ⟨a2, c2, rfl⟩ := hp.slice_len hn
  obtain ⟨a3, n3, c3, rfl⟩ := ht.slice3
  have b2 := hp.len
  rw [hn] at b2
  have hz2 : (q.getD n 0 == 0) = true := by rw [beq_iff_eq]; rw [hn] at hz; exact hz
  clear hz
  clear hm hh hn hq
  go_enter Try.func40, Try.ntmps40
  go_wp2_with fail
  refine (small_any _ _ _ (h1.alloc _)).mono ?_
  rintro e w1 ⟨rfl, rfl⟩
  rw [s1]
  go_wp2_with fail
  refine (small_any _ _ _ (hp.alloc _)).mono ?_
  rintro e w1 ⟨rfl, rfl⟩
  rw [s2]
  go_wp2_with fail
  refine (small_any _ _ _ (ht.alloc _)).mono ?_
  rintro e w1 ⟨rfl, rfl⟩
  rw [s3]
  go_wp2_with fail
  refine (small_any [pos] _ _ (lit_ints (w.alloc _) _ 1 (w.heap.size + 1) _ (by simp) rfl rfl (by simp))).mono ?_
  rintro e w1 ⟨rfl, rfl⟩
  rw [s4]
  go_wp2_with fail
  refine (stands_any _ _ _ _ _ ((hp.alloc _).alloc _) ((h1.alloc _).alloc _)).mono ?_
  rintro e w2 ⟨rfl, hs⟩
  rw [HH.out]
  have q0 := (hs.cell _).trans (box_cell w _ _ _ 0 _ rfl)
  have q1 := (hs.cell _).trans (box_cell w _ _ _ 1 _ rfl)
  have q2 := (hs.cell _).trans (box_cell w _ _ _ 2 _ rfl)
  have q3 := (hs.cell _).trans (box_cell w _ _ _ 3 _ rfl)
  have hb := gr_sm (gr_al (gr_al (gr_refl w) _) _) hs
  have i1 := ((h1.alloc _).alloc _).same hs
  have i2 := ((hp.alloc _).alloc _).same hs
  have i3 := ((ht.alloc _).alloc _).same hs
  have hsz : w.heap.size < w2.heap.size := by rw [hs.size]; simp; omega
  clear h1 hp ht
  obtain ⟨a', c', he, _, _, o2⟩ := i2.open_
  simp only [Value.slice.injEq] at he
  obtain ⟨rfl, hx, rfl⟩ := he
  clear hx
  obtain ⟨pb, pf, rfl, hc⟩ := o2 (by have := HN.out; omega)
  have qc : w2.cell? ⟨pb, pf + n, none⟩ = some (.int .i64 (q.getD n 0)) := hc n (by have := HN.out; omega)
  clear hc o2
  generalize q.getD n 0 = z at *
  go_wp2
  go_ret2
  exact Mv.none_ HM.out hb

set_option maxHeartbeats 2000000 in
theorem xmove_k3zh1 (xs q to : List Int) (pos : Int) (v1 v2 : Value) (w : World) (h1 : Ints w v1 xs) (h2 : OpAt w v2 3 q to pos) (s1 : smallB xs = true) (s2 : smallB q = true) (s3 : smallB to = true) (s4 : smallB [pos] = true) (hz : q.getD (q.length - 1) 0 = 0) (hq : 0 < q.length) (hh : standsN q xs = 1)
    (hm : moveP xs 3 q to pos = none) :
    Calls Try.prog 40 #[v1, v2] w (Mv (moveP xs 3 q to pos) w) := by
  obtain ⟨pv, tv, r4, r5, r6, r7, r8, r9, r10, r11, r12, r13, r14, r15, r16, r17, r18, r19, r20, rfl, hp, ht⟩ := h2
  have HM := Lib.hid hm
  obtain ⟨a1, c1, rfl⟩ := h1.slice
  have b1 := h1.len
  have HH := Lib.hid hh
  obtain ⟨n, hn⟩ : ∃ n, q.length = n + 1 := ⟨q.length - 1, by omega⟩
  have HN := Lib.hid hn
  obtain ⟨a2, c2, rfl⟩ := hp.slice_len hn
  obtain ⟨a3, n3, c3, rfl⟩ := ht.slice3
  have b2 := hp.len
  rw [hn] at b2
  have l1 : n + 1 ≤ xs.length := by have := (stands_len (q := q) (p := xs) (by rw [hh]; decide)).2; omega
  have hz2 : (q.getD n 0 == 0) = true := by rw [beq_iff_eq]; rw [hn] at hz; exact hz
  clear hz
  clear hm hh hn hq
  go_enter Try.func40, Try.ntmps40
  go_wp2_with fail
  refine (small_any _ _ _ (h1.alloc _)).mono ?_
  rintro e w1 ⟨rfl, rfl⟩
  rw [s1]
  go_wp2_with fail
  refine (small_any _ _ _ (hp.alloc _)).mono ?_
  rintro e w1 ⟨rfl, rfl⟩
  rw [s2]
  go_wp2_with fail
  refine (small_any _ _ _ (ht.alloc _)).mono ?_
  rintro e w1 ⟨rfl, rfl⟩
  rw [s3]
  go_wp2_with fail
  refine (small_any [pos] _ _ (lit_ints (w.alloc _) _ 1 (w.heap.size + 1) _ (by simp) rfl rfl (by simp))).mono ?_
  rintro e w1 ⟨rfl, rfl⟩
  rw [s4]
  go_wp2_with fail
  refine (stands_any _ _ _ _ _ ((hp.alloc _).alloc _) ((h1.alloc _).alloc _)).mono ?_
  rintro e w2 ⟨rfl, hs⟩
  rw [HH.out]
  have q0 := (hs.cell _).trans (box_cell w _ _ _ 0 _ rfl)
  have q1 := (hs.cell _).trans (box_cell w _ _ _ 1 _ rfl)
  have q2 := (hs.cell _).trans (box_cell w _ _ _ 2 _ rfl)
  have q3 := (hs.cell _).trans (box_cell w _ _ _ 3 _ rfl)
  have hb := gr_sm (gr_al (gr_al (gr_refl w) _) _) hs
  have i1 := ((h1.alloc _).alloc _).same hs
  have i2 := ((hp.alloc _).alloc _).same hs
  have i3 := ((ht.alloc _).alloc _).same hs
  have hsz : w.heap.size < w2.heap.size := by rw [hs.size]; simp; omega
  clear h1 hp ht
  obtain ⟨a', c', he, _, _, o2⟩ := i2.open_
  simp only [Value.slice.injEq] at he
  obtain ⟨rfl, hx, rfl⟩ := he
  clear hx
  obtain ⟨pb, pf, rfl, hc⟩ := o2 (by have := HN.out; omega)
  have qc : w2.cell? ⟨pb, pf + n, none⟩ = some (.int .i64 (q.getD n 0)) := hc n (by have := HN.out; omega)
  clear hc o2
  generalize q.getD n 0 = z at *
  go_wp2
  go_ret2
  exact Mv.none_ HM.out hb

set_option maxHeartbeats 2000000 in
theorem xmove_k3zh2 (xs q to : List Int) (pos : Int) (v1 v2 : Value) (w : World) (h1 : Ints w v1 xs) (h2 : OpAt w v2 3 q to pos) (s1 : smallB xs = true) (s2 : smallB q = true) (s3 : smallB to = true) (s4 : smallB [pos] = true) (hz : q.getD (q.length - 1) 0 = 0) (hq : 0 < q.length) (hh : standsN q xs = 2)
    (hm : moveP xs 3 q to pos = none) :
    Calls Try.prog 40 #[v1, v2] w (Mv (moveP xs 3 q to pos) w) := by
  obtain ⟨pv, tv, r4, r5, r6, r7, r8, r9, r10, r11, r12, r13, r14, r15, r16, r17, r18, r19, r20, rfl, hp, ht⟩ := h2
  have HM := Lib.hid hm
  obtain ⟨a1, c1, rfl⟩ := h1.slice
  have b1 := h1.len
  have HH := Lib.hid hh
  obtain ⟨n, hn⟩ : ∃ n, q.length = n + 1 := ⟨q.length - 1, by omega⟩
  have HN := Lib.hid hn
  obtain ⟨a2, c2, rfl⟩ := hp.slice_len hn
  obtain ⟨a3, n3, c3, rfl⟩ := ht.slice3
  have b2 := hp.len
  rw [hn] at b2
  have l1 : n + 1 ≤ xs.length := by have := (stands_len (q := q) (p := xs) (by rw [hh]; decide)).2; omega
  have l2 : n + 1 < xs.length := by have := stands_above_lt hh; omega
  have hz2 : (q.getD n 0 == 0) = true := by rw [beq_iff_eq]; rw [hn] at hz; exact hz
  clear hz
  clear hm hh hn hq
  go_enter Try.func40, Try.ntmps40
  go_wp2_with fail
  refine (small_any _ _ _ (h1.alloc _)).mono ?_
  rintro e w1 ⟨rfl, rfl⟩
  rw [s1]
  go_wp2_with fail
  refine (small_any _ _ _ (hp.alloc _)).mono ?_
  rintro e w1 ⟨rfl, rfl⟩
  rw [s2]
  go_wp2_with fail
  refine (small_any _ _ _ (ht.alloc _)).mono ?_
  rintro e w1 ⟨rfl, rfl⟩
  rw [s3]
  go_wp2_with fail
  refine (small_any [pos] _ _ (lit_ints (w.alloc _) _ 1 (w.heap.size + 1) _ (by simp) rfl rfl (by simp))).mono ?_
  rintro e w1 ⟨rfl, rfl⟩
  rw [s4]
  go_wp2_with fail
  refine (stands_any _ _ _ _ _ ((hp.alloc _).alloc _) ((h1.alloc _).alloc _)).mono ?_
  rintro e w2 ⟨rfl, hs⟩
  rw [HH.out]
  have q0 := (hs.cell _).trans (box_cell w _ _ _ 0 _ rfl)
  have q1 := (hs.cell _).trans (box_cell w _ _ _ 1 _ rfl)
  have q2 := (hs.cell _).trans (box_cell w _ _ _ 2 _ rfl)
  have q3 := (hs.cell _).trans (box_cell w _ _ _ 3 _ rfl)
  have hb := gr_sm (gr_al (gr_al (gr_refl w) _) _) hs
  have i1 := ((h1.alloc _).alloc _).same hs
  have i2 := ((hp.alloc _).alloc _).same hs
  have i3 := ((ht.alloc _).alloc _).same hs
  have hsz : w.heap.size < w2.heap.size := by rw [hs.size]; simp; omega
  clear h1 hp ht
  obtain ⟨a', c', he, _, _, o2⟩ := i2.open_
  simp only [Value.slice.injEq] at he
  obtain ⟨rfl, hx, rfl⟩ := he
  clear hx
  obtain ⟨pb, pf, rfl, hc⟩ := o2 (by have := HN.out; omega)
  have qc : w2.cell? ⟨pb, pf + n, none⟩ = some (.int .i64 (q.getD n 0)) := hc n (by have := HN.out; omega)
  clear hc o2
  generalize q.getD n 0 = z at *
  go_wp2
  go_ret2
  exact Mv.none_ HM.out hb

set_option maxHeartbeats 2000000 in
theorem xmove_k3zh3 (xs q to : List Int) (pos : Int) (v1 v2 : Value) (w : World) (h1 : Ints w v1 xs) (h2 : OpAt w v2 3 q to pos) (s1 : smallB xs = true) (s2 : smallB q = true) (s3 : smallB to = true) (s4 : smallB [pos] = true) (hz : q.getD (q.length - 1) 0 = 0) (hq : 0 < q.length) (hh : standsN q xs = 3)
    (hm : moveP xs 3 q to pos = none) :
    Calls Try.prog 40 #[v1, v2] w (Mv (moveP xs 3 q to pos) w) := by
  obtain ⟨pv, tv, r4, r5, r6, r7, r8, r9, r10, r11, r12, r13, r14, r15, r16, r17, r18, r19, r20, rfl, hp, ht⟩ := h2
  have HM := Lib.hid hm
  obtain ⟨a1, c1, rfl⟩ := h1.slice
  have b1 := h1.len
  have HH := Lib.hid hh
  obtain ⟨n, hn⟩ : ∃ n, q.length = n + 1 := ⟨q.length - 1, by omega⟩
  have HN := Lib.hid hn
  obtain ⟨a2, c2, rfl⟩ := hp.slice_len hn
  obtain ⟨a3, n3, c3, rfl⟩ := ht.slice3
  have b2 := hp.len
  rw [hn] at b2
  have l1 : n + 1 ≤ xs.length := by have := (stands_len (q := q) (p := xs) (by rw [hh]; decide)).2; omega
  have hz2 : (q.getD n 0 == 0) = true := by rw [beq_iff_eq]; rw [hn] at hz; exact hz
  clear hz
  clear hm hh hn hq
  go_enter Try.func40, Try.ntmps40
  go_wp2_with fail
  refine (small_any _ _ _ (h1.alloc _)).mono ?_
  rintro e w1 ⟨rfl, rfl⟩
  rw [s1]
  go_wp2_with fail
  refine (small_any _ _ _ (hp.alloc _)).mono ?_
  rintro e w1 ⟨rfl, rfl⟩
  rw [s2]
  go_wp2_with fail
  refine (small_any _ _ _ (ht.alloc _)).mono ?_
  rintro e w1 ⟨rfl, rfl⟩
  rw [s3]
  go_wp2_with fail
  refine (small_any [pos] _ _ (lit_ints (w.alloc _) _ 1 (w.heap.size + 1) _ (by simp) rfl rfl (by simp))).mono ?_
  rintro e w1 ⟨rfl, rfl⟩
  rw [s4]
  go_wp2_with fail
  refine (stands_any _ _ _ _ _ ((hp.alloc _).alloc _) ((h1.alloc _).alloc _)).mono ?_
  rintro e w2 ⟨rfl, hs⟩
  rw [HH.out]
  have q0 := (hs.cell _).trans (box_cell w _ _ _ 0 _ rfl)
  have q1 := (hs.cell _).trans (box_cell w _ _ _ 1 _ rfl)
  have q2 := (hs.cell _).trans (box_cell w _ _ _ 2 _ rfl)
  have q3 := (hs.cell _).trans (box_cell w _ _ _ 3 _ rfl)
  have hb := gr_sm (gr_al (gr_al (gr_refl w) _) _) hs
  have i1 := ((h1.alloc _).alloc _).same hs
  have i2 := ((hp.alloc _).alloc _).same hs
  have i3 := ((ht.alloc _).alloc _).same hs
  have hsz : w.heap.size < w2.heap.size := by rw [hs.size]; simp; omega
  clear h1 hp ht
  obtain ⟨a', c', he, _, _, o2⟩ := i2.open_
  simp only [Value.slice.injEq] at he
  obtain ⟨rfl, hx, rfl⟩ := he
  clear hx
  obtain ⟨pb, pf, rfl, hc⟩ := o2 (by have := HN.out; omega)
  have qc : w2.cell? ⟨pb, pf + n, none⟩ = some (.int .i64 (q.getD n 0)) := hc n (by have := HN.out; omega)
  clear hc o2
  generalize q.getD n 0 = z at *
  go_wp2
  go_ret2
  exact Mv.none_ HM.out hb

set_option maxHeartbeats 2000000 in
theorem xmove_k3h1 (xs q to : List Int) (pos : Int) (v1 v2 : Value) (w : World) (h1 : Ints w v1 xs) (h2 : OpAt w v2 3 q to pos) (s1 : smallB xs = true) (s2 : smallB q = true) (s3 : smallB to = true) (s4 : smallB [pos] = true) (hz : ¬ q.getD (q.length - 1) 0 = 0) (hq : 0 < q.length) (hh : standsN q xs = 1)
    (hm : moveP xs 3 q to pos = some (shiftL xs (q.length - 1) (-1))) :
    Calls Try.prog 40 #[v1, v2] w (Mv (moveP xs 3 q to pos) w) := by
  obtain ⟨pv, tv, r4, r5, r6, r7, r8, r9, r10, r11, r12, r13, r14, r15, r16, r17, r18, r19, r20, rfl, hp, ht⟩ := h2
  have HM := Lib.hid hm
  obtain ⟨a1, c1, rfl⟩ := h1.slice
  have b1 := h1.len
  have HH := Lib.hid hh
  obtain ⟨n, hn⟩ : ∃ n, q.length = n + 1 := ⟨q.length - 1, by omega⟩
  have HN := Lib.hid hn
  obtain ⟨a2, c2, rfl⟩ := hp.slice_len hn
  obtain ⟨a3, n3, c3, rfl⟩ := ht.slice3
  have b2 := hp.len
  rw [hn] at b2
  have l1 : n + 1 ≤ xs.length := by have := (stands_len (q := q) (p := xs) (by rw [hh]; decide)).2; omega
  have SS1 := Lib.hid s1
  have hz2 : (q.getD n 0 == 0) = false := by rw [beq_eq_false_iff_ne]; rw [hn] at hz; exact hz
  clear hz
  clear hm hh hn hq
  go_enter Try.func40, Try.ntmps40
  go_wp2_with fail
  refine (small_any _ _ _ (h1.alloc _)).mono ?_
  rintro e w1 ⟨rfl, rfl⟩
  rw [s1]
  go_wp2_with fail
  refine (small_any _ _ _ (hp.alloc _)).mono ?_
  rintro e w1 ⟨rfl, rfl⟩
  rw [s2]
  go_wp2_with fail
  refine (small_any _ _ _ (ht.alloc _)).mono ?_
  rintro e w1 ⟨rfl, rfl⟩
  rw [s3]
  go_wp2_with fail
  refine (small_any [pos] _ _ (lit_ints (w.alloc _) _ 1 (w.heap.size + 1) _ (by simp) rfl rfl (by simp))).mono ?_
  rintro e w1 ⟨rfl, rfl⟩
  rw [s4]
  go_wp2_with fail
  refine (stands_any _ _ _ _ _ ((hp.alloc _).alloc _) ((h1.alloc _).alloc _)).mono ?_
  rintro e w2 ⟨rfl, hs⟩
  rw [HH.out]
  have q0 := (hs.cell _).trans (box_cell w _ _ _ 0 _ rfl)
  have q1 := (hs.cell _).trans (box_cell w _ _ _ 1 _ rfl)
  have q2 := (hs.cell _).trans (box_cell w _ _ _ 2 _ rfl)
  have q3 := (hs.cell _).trans (box_cell w _ _ _ 3 _ rfl)
  have hb := gr_sm (gr_al (gr_al (gr_refl w) _) _) hs
  have i1 := ((h1.alloc _).alloc _).same hs
  have i2 := ((hp.alloc _).alloc _).same hs
  have i3 := ((ht.alloc _).alloc _).same hs
  have hsz : w.heap.size < w2.heap.size := by rw [hs.size]; simp; omega
  clear h1 hp ht
  obtain ⟨a', c', he, _, _, o2⟩ := i2.open_
  simp only [Value.slice.injEq] at he
  obtain ⟨rfl, hx, rfl⟩ := he
  clear hx
  obtain ⟨pb, pf, rfl, hc⟩ := o2 (by have := HN.out; omega)
  have qc : w2.cell? ⟨pb, pf + n, none⟩ = some (.int .i64 (q.getD n 0)) := hc n (by have := HN.out; omega)
  clear hc o2
  generalize q.getD n 0 = z at *
  go_wp2_with fail
  refine (shift_any xs _ n (-1) _ i1 (by omega) (by have := small_get SS1.out n; omega)).mono ?_
  rintro e w3 ⟨v', rfl, ho, hbk⟩
  go_wp2
  go_ret2
  have hfin : q.length - 1 = n := by have := HN.out; omega
  exact Mv.some_ HM.out (by rw [hfin]; exact ho.mono hb.size) (gr_tr hb hbk)

set_option maxHeartbeats 2000000 in
theorem xmove_k3h3 (xs q to : List Int) (pos : Int) (v1 v2 : Value) (w : World) (h1 : Ints w v1 xs) (h2 : OpAt w v2 3 q to pos) (s1 : smallB xs = true) (s2 : smallB q = true) (s3 : smallB to = true) (s4 : smallB [pos] = true) (hz : ¬ q.getD (q.length - 1) 0 = 0) (hq : 0 < q.length) (hh : standsN q xs = 3)
    (hm : moveP xs 3 q to pos = some (shiftL xs (q.length - 1) (-1))) :
    Calls Try.prog 40 #[v1, v2] w (Mv (moveP xs 3 q to pos) w) := by
  obtain ⟨pv, tv, r4, r5, r6, r7, r8, r9, r10, r11, r12, r13, r14, r15, r16, r17, r18, r19, r20, rfl, hp, ht⟩ := h2
  have HM := Lib.hid hm
  obtain ⟨a1, c1, rfl⟩ := h1.slice
  have b1 := h1.len
  have HH := Lib.hid hh
  obtain ⟨n, hn⟩ : ∃ n, q.length = n + 1 := ⟨q.length - 1, by omega⟩
  have HN := Lib.hid hn
  obtain ⟨a2, c2, rfl⟩ := hp.slice_len hn
  obtain ⟨a3, n3, c3, rfl⟩ := ht.slice3
  have b2 := hp.len
  rw [hn] at b2
  have l1 : n + 1 ≤ xs.length := by have := (stands_len (q := q) (p := xs) (by rw [hh]; decide)).2; omega
  have SS1 := Lib.hid s1
  have hz2 : (q.getD n 0 == 0) = false := by rw [beq_eq_false_iff_ne]; rw [hn] at hz; exact hz
  clear hz
  clear hm hh hn hq
  go_enter Try.func40, Try.ntmps40
  go_wp2_with fail
  refine (small_any _ _ _ (h1.alloc _)).mono ?_
  rintro e w1 ⟨rfl, rfl⟩
  rw [s1]
  go_wp2_with fail
  refine (small_any _ _ _ (hp.alloc _)).mono ?_
  rintro e w1 ⟨rfl, rfl⟩
  rw [s2]
  go_wp2_with fail
  refine (small_any _ _ _ (ht.alloc _)).mono ?_
  rintro e w1 ⟨rfl, rfl⟩
  rw [s3]
  go_wp2_with fail
  refine (small_any [pos] _ _ (lit_ints (w.alloc _) _ 1 (w.heap.size + 1) _ (by simp) rfl rfl (by simp))).mono ?_
  rintro e w1 ⟨rfl, rfl⟩
  rw [s4]
  go_wp2_with fail
  refine (stands_any _ _ _ _ _ ((hp.alloc _).alloc _) ((h1.alloc _).alloc _)).mono ?_
  rintro e w2 ⟨rfl, hs⟩
  rw [HH.out]
  have q0 := (hs.cell _).trans (box_cell w _ _ _ 0 _ rfl)
  have q1 := (hs.cell _).trans (box_cell w _ _ _ 1 _ rfl)
  have q2 := (hs.cell _).trans (box_cell w _ _ _ 2 _ rfl)
  have q3 := (hs.cell _).trans (box_cell w _ _ _ 3 _ rfl)
  have hb := gr_sm (gr_al (gr_al (gr_refl w) _) _) hs
  have i1 := ((h1.alloc _).alloc _).same hs
  have i2 := ((hp.alloc _).alloc _).same hs
  have i3 := ((ht.alloc _).alloc _).same hs
  have hsz : w.heap.size < w2.heap.size := by rw [hs.size]; simp; omega
  clear h1 hp ht
  obtain ⟨a', c', he, _, _, o2⟩ := i2.open_
  simp only [Value.slice.injEq] at he
  obtain ⟨rfl, hx, rfl⟩ := he
  clear hx
  obtain ⟨pb, pf, rfl, hc⟩ := o2 (by have := HN.out; omega)
  have qc : w2.cell? ⟨pb, pf + n, none⟩ = some (.int .i64 (q.getD n 0)) := hc n (by have := HN.out; omega)
  clear hc o2
  generalize q.getD n 0 = z at *
  go_wp2_with fail
  refine (shift_any xs _ n (-1) _ i1 (by omega) (by have := small_get SS1.out n; omega)).mono ?_
  rintro e w3 ⟨v', rfl, ho, hbk⟩
  go_wp2
  go_ret2
  have hfin : q.length - 1 = n := by have := HN.out; omega
  exact Mv.some_ HM.out (by rw [hfin]; exact ho.mono hb.size) (gr_tr hb hbk)

set_option maxHeartbeats 2000000 in
theorem xmove_k3h0 (xs q to : List Int) (pos : Int) (v1 v2 : Value) (w : World) (h1 : Ints w v1 xs) (h2 : OpAt w v2 3 q to pos) (s1 : smallB xs = true) (s2 : smallB q = true) (s3 : smallB to = true) (s4 : smallB [pos] = true) (hz : ¬ q.getD (q.length - 1) 0 = 0) (hq : 0 < q.length) (hh : standsN q xs = 0)
    (hm : moveP xs 3 q to pos = some xs) :
    Calls Try.prog 40 #[v1, v2] w (Mv (moveP xs 3 q to pos) w) := by
  obtain ⟨pv, tv, r4, r5, r6, r7, r8, r9, r10, r11, r12, r13, r14, r15, r16, r17, r18, r19, r20, rfl, hp, ht⟩ := h2
  have HM := Lib.hid hm
  obtain ⟨a1, c1, rfl⟩ := h1.slice
  have b1 := h1.len
  have HH := Lib.hid hh
  obtain ⟨n, hn⟩ : ∃ n, q.length = n + 1 := ⟨q.length - 1, by omega⟩
  have HN := Lib.hid hn
  obtain ⟨a2, c2, rfl⟩ := hp.slice_len hn
  obtain ⟨a3, n3, c3, rfl⟩ := ht.slice3
  have b2 := hp.len
  rw [hn] at b2
  have hz2 : (q.getD n 0 == 0) = false := by rw [beq_eq_false_iff_ne]; rw [hn] at hz; exact hz
  clear hz
  clear hm hh hn hq
  go_enter Try.func40, Try.ntmps40
  go_wp2_with fail
  refine (small_any _ _ _ (h1.alloc _)).mono ?_
  rintro e w1 ⟨rfl, rfl⟩
  rw [s1]
  go_wp2_with fail
  refine (small_any _ _ _ (hp.alloc _)).mono ?_
  rintro e w1 ⟨rfl, rfl⟩
  rw [s2]
  go_wp2_with fail
  refine (small_any _ _ _ (ht.alloc _)).mono ?_
  rintro e w1 ⟨rfl, rfl⟩
  rw [s3]
  go_wp2_with fail
  refine (small_any [pos] _ _ (lit_ints (w.alloc _) _ 1 (w.heap.size + 1) _ (by simp) rfl rfl (by simp))).mono ?_
  rintro e w1 ⟨rfl, rfl⟩
  rw [s4]
  go_wp2_with fail
  refine (stands_any _ _ _ _ _ ((hp.alloc _).alloc _) ((h1.alloc _).alloc _)).mono ?_
  rintro e w2 ⟨rfl, hs⟩
  rw [HH.out]
  have q0 := (hs.cell _).trans (box_cell w _ _ _ 0 _ rfl)
  have q1 := (hs.cell _).trans (box_cell w _ _ _ 1 _ rfl)
  have q2 := (hs.cell _).trans (box_cell w _ _ _ 2 _ rfl)
  have q3 := (hs.cell _).trans (box_cell w _ _ _ 3 _ rfl)
  have hb := gr_sm (gr_al (gr_al (gr_refl w) _) _) hs
  have i1 := ((h1.alloc _).alloc _).same hs
  have i2 := ((hp.alloc _).alloc _).same hs
  have i3 := ((ht.alloc _).alloc _).same hs
  have hsz : w.heap.size < w2.heap.size := by rw [hs.size]; simp; omega
  clear h1 hp ht
  obtain ⟨a', c', he, _, _, o2⟩ := i2.open_
  simp only [Value.slice.injEq] at he
  obtain ⟨rfl, hx, rfl⟩ := he
  clear hx
  obtain ⟨pb, pf, rfl, hc⟩ := o2 (by have := HN.out; omega)
  have qc : w2.cell? ⟨pb, pf + n, none⟩ = some (.int .i64 (q.getD n 0)) := hc n (by have := HN.out; omega)
  clear hc o2
  generalize q.getD n 0 = z at *
  go_wp2_with fail
  refine (clone_ints xs _ _ i1).mono ?_
  rintro e w3 ⟨v', rfl, ho, hbk⟩
  go_wp2
  go_ret2
  exact Mv.some_ HM.out (ho.mono hb.size) (gr_tr hb hbk)

set_option maxHeartbeats 2000000 in
theorem xmove_k3h2 (xs q to : List Int) (pos : Int) (v1 v2 : Value) (w : World) (h1 : Ints w v1 xs) (h2 : OpAt w v2 3 q to pos) (s1 : smallB xs = true) (s2 : smallB q = true) (s3 : smallB to = true) (s4 : smallB [pos] = true) (hz : ¬ q.getD (q.length - 1) 0 = 0) (hq : 0 < q.length) (hh : standsN q xs = 2)
    (hm : moveP xs 3 q to pos = some (shiftL (shiftL xs q.length pos) (q.length - 1) (-1))) :
    Calls Try.prog 40 #[v1, v2] w (Mv (moveP xs 3 q to pos) w) := by
  obtain ⟨pv, tv, r4, r5, r6, r7, r8, r9, r10, r11, r12, r13, r14, r15, r16, r17, r18, r19, r20, rfl, hp, ht⟩ := h2
  have HM := Lib.hid hm
  obtain ⟨a1, c1, rfl⟩ := h1.slice
  have b1 := h1.len
  have HH := Lib.hid hh
  obtain ⟨n, hn⟩ : ∃ n, q.length = n + 1 := ⟨q.length - 1, by omega⟩
  have HN := Lib.hid hn
  obtain ⟨a2, c2, rfl⟩ := hp.slice_len hn
  obtain ⟨a3, n3, c3, rfl⟩ := ht.slice3
  have b2 := hp.len
  rw [hn] at b2
  have l1 : n + 1 ≤ xs.length := by have := (stands_len (q := q) (p := xs) (by rw [hh]; decide)).2; omega
  have l2 : n + 1 < xs.length := by have := stands_above_lt hh; omega
  have SS1 := Lib.hid s1
  have PB : Hid (0 ≤ pos ∧ pos ≤ 1048576) := by show _ ∧ _; exact smallB_iff.1 s4 pos (by simp)
  have hz2 : (q.getD n 0 == 0) = false := by rw [beq_eq_false_iff_ne]; rw [hn] at hz; exact hz
  clear hz
  clear hm hh hn hq
  go_enter Try.func40, Try.ntmps40
  go_wp2_with fail
  refine (small_any _ _ _ (h1.alloc _)).mono ?_
  rintro e w1 ⟨rfl, rfl⟩
  rw [s1]
  go_wp2_with fail
  refine (small_any _ _ _ (hp.alloc _)).mono ?_
  rintro e w1 ⟨rfl, rfl⟩
  rw [s2]
  go_wp2_with fail
  refine (small_any _ _ _ (ht.alloc _)).mono ?_
  rintro e w1 ⟨rfl, rfl⟩
  rw [s3]
  go_wp2_with fail
  refine (small_any [pos] _ _ (lit_ints (w.alloc _) _ 1 (w.heap.size + 1) _ (by simp) rfl rfl (by simp))).mono ?_
  rintro e w1 ⟨rfl, rfl⟩
  rw [s4]
  go_wp2_with fail
  refine (stands_any _ _ _ _ _ ((hp.alloc _).alloc _) ((h1.alloc _).alloc _)).mono ?_
  rintro e w2 ⟨rfl, hs⟩
  rw [HH.out]
  have q0 := (hs.cell _).trans (box_cell w _ _ _ 0 _ rfl)
  have q1 := (hs.cell _).trans (box_cell w _ _ _ 1 _ rfl)
  have q2 := (hs.cell _).trans (box_cell w _ _ _ 2 _ rfl)
  have q3 := (hs.cell _).trans (box_cell w _ _ _ 3 _ rfl)
  have hb := gr_sm (gr_al (gr_al (gr_refl w) _) _) hs
  have i1 := ((h1.alloc _).alloc _).same hs
  have i2 := ((hp.alloc _).alloc _).same hs
  have i3 := ((ht.alloc _).alloc _).same hs
  have hsz : w.heap.size < w2.heap.size := by rw [hs.size]; simp; omega
  clear h1 hp ht
  obtain ⟨a', c', he, _, _, o2⟩ := i2.open_
  simp only [Value.slice.injEq] at he
  obtain ⟨rfl, hx, rfl⟩ := he
  clear hx
  obtain ⟨pb, pf, rfl, hc⟩ := o2 (by have := HN.out; omega)
  have qc : w2.cell? ⟨pb, pf + n, none⟩ = some (.int .i64 (q.getD n 0)) := hc n (by have := HN.out; omega)
  clear hc o2
  generalize q.getD n 0 = z at *
  go_wp2_with fail
  refine (shift_any xs _ (n + 1) pos _ i1 (by omega) (by have := small_get SS1.out (n + 1); have := PB.out; omega)).mono ?_
  rintro e w3 ⟨v', rfl, ho, hbk⟩
  replace hb := gr_tr hb hbk
  go_wp2_with fail
  refine (shift_any (shiftL xs (n + 1) pos) _ n (-1) _ ho.ints (by rw [shift_len]; omega) (by rw [shift_get_ne (by omega)]; have := small_get SS1.out n; omega)).mono ?_
  rintro e w4 ⟨v4, rfl, ho4, hbk4⟩
  go_wp2
  go_ret2
  have hfin : q.length = n + 1 := HN.out
  exact Mv.some_ HM.out (by rw [hfin]; exact ho4.mono hb.size) (gr_tr hb hbk4)

set_option maxHeartbeats 2000000 in
theorem xmove_k4h2y (xs q to : List Int) (pos : Int) (v1 v2 : Value) (w : World) (h1 : Ints w v1 xs) (h2 : OpAt w v2 4 q to pos) (s1 : smallB xs = true) (s2 : smallB q = true) (s3 : smallB to = true) (s4 : smallB [pos] = true) (hz : pos ≤ xs.getD q.length 0) (hq : 0 < q.length) (hh : standsN q xs = 2)
    (hm : moveP xs 4 q to pos = some (shiftL (shiftL xs q.length (-pos)) (q.length - 1) 1)) :
    Calls Try.prog 40 #[v1, v2] w (Mv (moveP xs 4 q to pos) w) := by
  obtain ⟨pv, tv, r4, r5, r6, r7, r8, r9, r10, r11, r12, r13, r14, r15, r16, r17, r18, r19, r20, rfl, hp, ht⟩ := h2
  have HM := Lib.hid hm
  obtain ⟨a1, c1, rfl⟩ := h1.slice
  have b1 := h1.len
  have HH := Lib.hid hh
  obtain ⟨n, hn⟩ : ∃ n, q.length = n + 1 := ⟨q.length - 1, by omega⟩
  have HN := Lib.hid hn
  obtain ⟨a2, c2, rfl⟩ := hp.slice_len hn
  obtain ⟨a3, n3, c3, rfl⟩ := ht.slice3
  have b2 := hp.len
  rw [hn] at b2
  have l1 : n + 1 ≤ xs.length := by have := (stands_len (q := q) (p := xs) (by rw [hh]; decide)).2; omega
  have l2 : n + 1 < xs.length := by have := stands_above_lt hh; omega
  have SS1 := Lib.hid s1
  have PB : Hid (0 ≤ pos ∧ pos ≤ 1048576) := by show _ ∧ _; exact smallB_iff.1 s4 pos (by simp)
  have hz2 : decide (pos ≤ xs.getD (n + 1) 0) = true := by rw [hn] at hz; simpa using hz
  clear hz
  clear hm hh hn hq
  go_enter Try.func40, Try.ntmps40
  go_wp2_with fail
  refine (small_any _ _ _ (h1.alloc _)).mono ?_
  rintro e w1 ⟨rfl, rfl⟩
  rw [s1]
  go_wp2_with fail
  refine (small_any _ _ _ (hp.alloc _)).mono ?_
  rintro e w1 ⟨rfl, rfl⟩
  rw [s2]
  go_wp2_with fail
  refine (small_any _ _ _ (ht.alloc _)).mono ?_
  rintro e w1 ⟨rfl, rfl⟩
  rw [s3]
  go_wp2_with fail
  refine (small_any [pos] _ _ (lit_ints (w.alloc _) _ 1 (w.heap.size + 1) _ (by simp) rfl rfl (by simp))).mono ?_
  rintro e w1 ⟨rfl, rfl⟩
  rw [s4]
  go_wp2_with fail
  refine (stands_any _ _ _ _ _ ((hp.alloc _).alloc _) ((h1.alloc _).alloc _)).mono ?_
  rintro e w2 ⟨rfl, hs⟩
  rw [HH.out]
  have q0 := (hs.cell _).trans (box_cell w _ _ _ 0 _ rfl)
  have q1 := (hs.cell _).trans (box_cell w _ _ _ 1 _ rfl)
  have q2 := (hs.cell _).trans (box_cell w _ _ _ 2 _ rfl)
  have q3 := (hs.cell _).trans (box_cell w _ _ _ 3 _ rfl)
  have hb := gr_sm (gr_al (gr_al (gr_refl w) _) _) hs
  have i1 := ((h1.alloc _).alloc _).same hs
  have i2 := ((hp.alloc _).alloc _).same hs
  have i3 := ((ht.alloc _).alloc _).same hs
  have hsz : w.heap.size < w2.heap.size := by rw [hs.size]; simp; omega
  clear h1 hp ht
  have hneg : IntKind.i64.wrap (-pos) = -pos := IntWalk.i64_in _ (by have := PB.out; omega)
  obtain ⟨a', c', he, _, _, o1⟩ := i1.open_
  simp only [Value.slice.injEq] at he
  obtain ⟨rfl, hx, rfl⟩ := he
  clear hx
  obtain ⟨pb, pf, rfl, hc⟩ := o1 (by omega)
  have qc : w2.cell? ⟨pb, pf + (n + 1), none⟩ = some (.int .i64 (xs.getD (n + 1) 0)) := hc (n + 1) (by omega)
  clear hc o1
  generalize hzz : xs.getD (n + 1) 0 = z at *
  have HZZ := Lib.hid hzz
  clear hzz
  go_wp2_with fail
  go_quiet (fail)
  replace i1 := i1.same ⟨nq, rfl⟩
  replace hb := gr_dn hb nq
  replace q3 := (drewN_cell w2 nq _).trans q3
  go_wp2_with fail
  refine (shift_any xs _ (n + 1) (-pos) _ i1 (by omega) (by have := small_get SS1.out (n + 1); have := PB.out; omega)).mono ?_
  rintro e w3 ⟨v', rfl, ho, hbk⟩
  replace hb := gr_tr hb hbk
  go_wp2_with fail
  refine (shift_any (shiftL xs (n + 1) (-pos)) _ n 1 _ ho.ints (by rw [shift_len]; omega) (by rw [shift_get_ne (by omega)]; have := small_get SS1.out n; omega)).mono ?_
  rintro e w4 ⟨v4, rfl, ho4, hbk4⟩
  go_wp2
  go_ret2
  have hfin : q.length = n + 1 := HN.out
  exact Mv.some_ HM.out (by rw [hfin]; exact ho4.mono hb.size) (gr_tr hb hbk4)

set_option maxHeartbeats 2000000 in
theorem xmove_k4h2n (xs q to : List Int) (pos : Int) (v1 v2 : Value) (w : World) (h1 : Ints w v1 xs) (h2 : OpAt w v2 4 q to pos) (s1 : smallB xs = true) (s2 : smallB q = true) (s3 : smallB to = true) (s4 : smallB [pos] = true) (hz : ¬ pos ≤ xs.getD q.length 0) (hq : 0 < q.length) (hh : standsN q xs = 2)
    (hm : moveP xs 4 q to pos = some xs) :
    Calls Try.prog 40 #[v1, v2] w (Mv (moveP xs 4 q to pos) w) := by
  obtain ⟨pv, tv, r4, r5, r6, r7, r8, r9, r10, r11, r12, r13, r14, r15, r16, r17, r18, r19, r20, rfl, hp, ht⟩ := h2
  have HM := Lib.hid hm
  obtain ⟨a1, c1, rfl⟩ := h1.slice
  have b1 := h1.len
  have HH := Lib.hid hh
  obtain ⟨n, hn⟩ : ∃ n, q.length = n + 1 := ⟨q.length - 1, by omega⟩
  have HN := Lib.hid hn
  obtain ⟨a2, c2, rfl⟩ := hp.slice_len hn
  obtain ⟨a3, n3, c3, rfl⟩ := ht.slice3
  have b2 := hp.len
  rw [hn] at b2
  have l1 : n + 1 ≤ xs.length := by have := (stands_len (q := q) (p := xs) (by rw [hh]; decide)).2; omega
  have l2 : n + 1 < xs.length := by have := stands_above_lt hh; omega
  have PB : Hid (0 ≤ pos ∧ pos ≤ 1048576) := by show _ ∧ _; exact smallB_iff.1 s4 pos (by simp)
  have hz2 : decide (pos ≤ xs.getD (n + 1) 0) = false := by rw [hn] at hz; simpa using hz
  clear hz
  clear hm hh hn hq
  go_enter Try.func40, Try.ntmps40
  go_wp2_with fail
  refine (small_any _ _ _ (h1.alloc _)).mono ?_
  rintro e w1 ⟨rfl, rfl⟩
  rw [s1]
  go_wp2_with fail
  refine (small_any _ _ _ (hp.alloc _)).mono ?_
  rintro e w1 ⟨rfl, rfl⟩
  rw [s2]
  go_wp2_with fail
  refine (small_any _ _ _ (ht.alloc _)).mono ?_
  rintro e w1 ⟨rfl, rfl⟩
  rw [s3]
  go_wp2_with fail
  refine (small_any [pos] _ _ (lit_ints (w.alloc _) _ 1 (w.heap.size + 1) _ (by simp) rfl rfl (by simp))).mono ?_
  rintro e w1 ⟨rfl, rfl⟩
  rw [s4]
  go_wp2_with fail
  refine (stands_any _ _ _ _ _ ((hp.alloc _).alloc _) ((h1.alloc _).alloc _)).mono ?_
  rintro e w2 ⟨rfl, hs⟩
  rw [HH.out]
  have q0 := (hs.cell _).trans (box_cell w _ _ _ 0 _ rfl)
  have q1 := (hs.cell _).trans (box_cell w _ _ _ 1 _ rfl)
  have q2 := (hs.cell _).trans (box_cell w _ _ _ 2 _ rfl)
  have q3 := (hs.cell _).trans (box_cell w _ _ _ 3 _ rfl)
  have hb := gr_sm (gr_al (gr_al (gr_refl w) _) _) hs
  have i1 := ((h1.alloc _).alloc _).same hs
  have i2 := ((hp.alloc _).alloc _).same hs
  have i3 := ((ht.alloc _).alloc _).same hs
  have hsz : w.heap.size < w2.heap.size := by rw [hs.size]; simp; omega
  clear h1 hp ht
  obtain ⟨a', c', he, _, _, o1⟩ := i1.open_
  simp only [Value.slice.injEq] at he
  obtain ⟨rfl, hx, rfl⟩ := he
  clear hx
  obtain ⟨pb, pf, rfl, hc⟩ := o1 (by omega)
  have qc : w2.cell? ⟨pb, pf + (n + 1), none⟩ = some (.int .i64 (xs.getD (n + 1) 0)) := hc (n + 1) (by omega)
  clear hc o1
  generalize hzz : xs.getD (n + 1) 0 = z at *
  have HZZ := Lib.hid hzz
  clear hzz
  go_wp2_with fail
  go_quiet (fail)
  replace i1 := i1.same ⟨nq, rfl⟩
  replace hb := gr_dn hb nq
  replace q3 := (drewN_cell w2 nq _).trans q3
  go_wp2_with fail
  refine (clone_ints xs _ _ i1).mono ?_
  rintro e w3 ⟨v', rfl, ho, hbk⟩
  go_wp2
  go_ret2
  exact Mv.some_ HM.out (ho.mono hb.size) (gr_tr hb hbk)

set_option maxHeartbeats 2000000 in
theorem xmove_k4h1 (xs q to : List Int) (pos : Int) (v1 v2 : Value) (w : World) (h1 : Ints w v1 xs) (h2 : OpAt w v2 4 q to pos) (s1 : smallB xs = true) (s2 : smallB q = true) (s3 : smallB to = true) (s4 : smallB [pos] = true) (hq : 0 < q.length) (hh : standsN q xs = 1)
    (hm : moveP xs 4 q to pos = some (shiftL xs (q.length - 1) 1)) :
    Calls Try.prog 40 #[v1, v2] w (Mv (moveP xs 4 q to pos) w) := by
  obtain ⟨pv, tv, r4, r5, r6, r7, r8, r9, r10, r11, r12, r13, r14, r15, r16, r17, r18, r19, r20, rfl, hp, ht⟩ := h2
  have HM := Lib.hid hm
  obtain ⟨a1, c1, rfl⟩ := h1.slice
  have b1 := h1.len
  have HH := Lib.hid hh
  obtain ⟨n, hn⟩ : ∃ n, q.length = n + 1 := ⟨q.length - 1, by omega⟩
  have HN := Lib.hid hn
  obtain ⟨a2, c2, rfl⟩ := hp.slice_len hn
  obtain ⟨a3, n3, c3, rfl⟩ := ht.slice3
  have b2 := hp.len
  rw [hn] at b2
  have l1 : n + 1 ≤ xs.length := by have := (stands_len (q := q) (p := xs) (by rw [hh]; decide)).2; omega
  have SS1 := Lib.hid s1
  clear hm hh hn hq
  go_enter Try.func40, Try.ntmps40
  go_wp2_with fail
  refine (small_any _ _ _ (h1.alloc _)).mono ?_
  rintro e w1 ⟨rfl, rfl⟩
  rw [s1]
  go_wp2_with fail
  refine (small_any _ _ _ (hp.alloc _)).mono ?_
  rintro e w1 ⟨rfl, rfl⟩
  rw [s2]
  go_wp2_with fail
  refine (small_any _ _ _ (ht.alloc _)).mono ?_
  rintro e w1 ⟨rfl, rfl⟩
  rw [s3]
  go_wp2_with fail
  refine (small_any [pos] _ _ (lit_ints (w.alloc _) _ 1 (w.heap.size + 1) _ (by simp) rfl rfl (by simp))).mono ?_
  rintro e w1 ⟨rfl, rfl⟩
  rw [s4]
  go_wp2_with fail
  refine (stands_any _ _ _ _ _ ((hp.alloc _).alloc _) ((h1.alloc _).alloc _)).mono ?_
  rintro e w2 ⟨rfl, hs⟩
  rw [HH.out]
  have q0 := (hs.cell _).trans (box_cell w _ _ _ 0 _ rfl)
  have q1 := (hs.cell _).trans (box_cell w _ _ _ 1 _ rfl)
  have q2 := (hs.cell _).trans (box_cell w _ _ _ 2 _ rfl)
  have q3 := (hs.cell _).trans (box_cell w _ _ _ 3 _ rfl)
  have hb := gr_sm (gr_al (gr_al (gr_refl w) _) _) hs
  have i1 := ((h1.alloc _).alloc _).same hs
  have i2 := ((hp.alloc _).alloc _).same hs
  have i3 := ((ht.alloc _).alloc _).same hs
  have hsz : w.heap.size < w2.heap.size := by rw [hs.size]; simp; omega
  clear h1 hp ht
  go_wp2_with fail
  go_quiet (fail)
  replace i1 := i1.same ⟨nq, rfl⟩
  replace hb := gr_dn hb nq
  replace q3 := (drewN_cell w2 nq _).trans q3
  go_wp2_with fail
  refine (shift_any xs _ n 1 _ i1 (by omega) (by have := small_get SS1.out n; omega)).mono ?_
  rintro e w3 ⟨v', rfl, ho, hbk⟩
  go_wp2
  go_ret2
  have hfin : q.length - 1 = n := by have := HN.out; omega
  exact Mv.some_ HM.out (by rw [hfin]; exact ho.mono hb.size) (gr_tr hb hbk)

set_option maxHeartbeats 2000000 in
theorem xmove_k4h0 (xs q to : List Int) (pos : Int) (v1 v2 : Value) (w : World) (h1 : Ints w v1 xs) (h2 : OpAt w v2 4 q to pos) (s1 : smallB xs = true) (s2 : smallB q = true) (s3 : smallB to = true) (s4 : smallB [pos] = true) (hq : 0 < q.length) (hh : standsN q xs = 0)
    (hm : moveP xs 4 q to pos = some xs) :
    Calls Try.prog 40 #[v1, v2] w (Mv (moveP xs 4 q to pos) w) := by
  obtain ⟨pv, tv, r4, r5, r6, r7, r8, r9, r10, r11, r12, r13, r14, r15, r16, r17, r18, r19, r20, rfl, hp, ht⟩ := h2
  have HM := Lib.hid hm
  obtain ⟨a1, c1, rfl⟩ := h1.slice
  have b1 := h1.len
  have HH := Lib.hid hh
  obtain ⟨n, hn⟩ : ∃ n, q.length = n + 1 := ⟨q.length - 1, by omega⟩
  have HN := Lib.hid hn
  obtain ⟨a2, c2, rfl⟩ := hp.slice_len hn
  obtain ⟨a3, n3, c3, rfl⟩ := ht.slice3
  have b2 := hp.len
  rw [hn] at b2
  clear hm hh hn hq
  go_enter Try.func40, Try.ntmps40
  go_wp2_with fail
  refine (small_any _ _ _ (h1.alloc _)).mono ?_
  rintro e w1 ⟨rfl, rfl⟩
  rw [s1]
  go_wp2_with fail
  refine (small_any _ _ _ (hp.alloc _)).mono ?_
  rintro e w1 ⟨rfl, rfl⟩
  rw [s2]
  go_wp2_with fail
  refine (small_any _ _ _ (ht.alloc _)).mono ?_
  rintro e w1 ⟨rfl, rfl⟩
  rw [s3]
  go_wp2_with fail
  refine (small_any [pos] _ _ (lit_ints (w.alloc _) _ 1 (w.heap.size + 1) _ (by simp) rfl rfl (by simp))).mono ?_
  rintro e w1 ⟨rfl, rfl⟩
  rw [s4]
  go_wp2_with fail
  refine (stands_any _ _ _ _ _ ((hp.alloc _).alloc _) ((h1.alloc _).alloc _)).mono ?_
  rintro e w2 ⟨rfl, hs⟩
  rw [HH.out]
  have q0 := (hs.cell _).trans (box_cell w _ _ _ 0 _ rfl)
  have q1 := (hs.cell _).trans (box_cell w _ _ _ 1 _ rfl)
  have q2 := (hs.cell _).trans (box_cell w _ _ _ 2 _ rfl)
  have q3 := (hs.cell _).trans (box_cell w _ _ _ 3 _ rfl)
  have hb := gr_sm (gr_al (gr_al (gr_refl w) _) _) hs
  have i1 := ((h1.alloc _).alloc _).same hs
  have i2 := ((hp.alloc _).alloc _).same hs
  have i3 := ((ht.alloc _).alloc _).same hs
  have hsz : w.heap.size < w2.heap.size := by rw [hs.size]; simp; omega
  clear h1 hp ht
  go_wp2_with fail
  go_quiet (fail)
  replace i1 := i1.same ⟨nq, rfl⟩
  replace hb := gr_dn hb nq
  replace q3 := (drewN_cell w2 nq _).trans q3
  go_wp2_with fail
  refine (clone_ints xs _ _ i1).mono ?_
  rintro e w3 ⟨v', rfl, ho, hbk⟩
  go_wp2
  go_ret2
  exact Mv.some_ HM.out (ho.mono hb.size) (gr_tr hb hbk)

set_option maxHeartbeats 2000000 in
theorem xmove_k4h3 (xs q to : List Int) (pos : Int) (v1 v2 : Value) (w : World) (h1 : Ints w v1 xs) (h2 : OpAt w v2 4 q to pos) (s1 : smallB xs = true) (s2 : smallB q = true) (s3 : smallB to = true) (s4 : smallB [pos] = true) (hq : 0 < q.length) (hh : standsN q xs = 3)
    (hm : moveP xs 4 q to pos = some xs) :
    Calls Try.prog 40 #[v1, v2] w (Mv (moveP xs 4 q to pos) w) := by
  obtain ⟨pv, tv, r4, r5, r6, r7, r8, r9, r10, r11, r12, r13, r14, r15, r16, r17, r18, r19, r20, rfl, hp, ht⟩ := h2
  have HM := Lib.hid hm
  obtain ⟨a1, c1, rfl⟩ := h1.slice
  have b1 := h1.len
  have HH := Lib.hid hh
  obtain ⟨n, hn⟩ : ∃ n, q.length = n + 1 := ⟨q.length - 1, by omega⟩
  have HN := Lib.hid hn
  obtain ⟨a2, c2, rfl⟩ := hp.slice_len hn
  obtain ⟨a3, n3, c3, rfl⟩ := ht.slice3
  have b2 := hp.len
  rw [hn] at b2
  have l1 : n + 1 ≤ xs.length := by have := (stands_len (q := q) (p := xs) (by rw [hh]; decide)).2; omega
  clear hm hh hn hq
  go_enter Try.func40, Try.ntmps40
  go_wp2_with fail
  refine (small_any _ _ _ (h1.alloc _)).mono ?_
  rintro e w1 ⟨rfl, rfl⟩
  rw [s1]
  go_wp2_with fail
  refine (small_any _ _ _ (hp.alloc _)).mono ?_
  rintro e w1 ⟨rfl, rfl⟩
  rw [s2]
  go_wp2_with fail
  refine (small_any _ _ _ (ht.alloc _)).mono ?_
  rintro e w1 ⟨rfl, rfl⟩
  rw [s3]
  go_wp2_with fail
  refine (small_any [pos] _ _ (lit_ints (w.alloc _) _ 1 (w.heap.size + 1) _ (by simp) rfl rfl (by simp))).mono ?_
  rintro e w1 ⟨rfl, rfl⟩
  rw [s4]
  go_wp2_with fail
  refine (stands_any _ _ _ _ _ ((hp.alloc _).alloc _) ((h1.alloc _).alloc _)).mono ?_
  rintro e w2 ⟨rfl, hs⟩
  rw [HH.out]
  have q0 := (hs.cell _).trans (box_cell w _ _ _ 0 _ rfl)
  have q1 := (hs.cell _).trans (box_cell w _ _ _ 1 _ rfl)
  have q2 := (hs.cell _).trans (box_cell w _ _ _ 2 _ rfl)
  have q3 := (hs.cell _).trans (box_cell w _ _ _ 3 _ rfl)
  have hb := gr_sm (gr_al (gr_al (gr_refl w) _) _) hs
  have i1 := ((h1.alloc _).alloc _).same hs
  have i2 := ((hp.alloc _).alloc _).same hs
  have i3 := ((ht.alloc _).alloc _).same hs
  have hsz : w.heap.size < w2.heap.size := by rw [hs.size]; simp; omega
  clear h1 hp ht
  go_wp2_with fail
  go_quiet (fail)
  replace i1 := i1.same ⟨nq, rfl⟩
  replace hb := gr_dn hb nq
  replace q3 := (drewN_cell w2 nq _).trans q3
  go_wp2_with fail
  refine (clone_ints xs _ _ i1).mono ?_
  rintro e w3 ⟨v', rfl, ho, hbk⟩
  go_wp2
  go_ret2
  exact Mv.some_ HM.out (ho.mono hb.size) (gr_tr hb hbk)

end Go.Proofs.Ytkalomdbbgeemaa
