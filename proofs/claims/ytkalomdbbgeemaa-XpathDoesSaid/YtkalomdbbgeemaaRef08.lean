/- The walk of redlineref08.Move, a theorem a case. -/
import Derived.Test.YtkalomdbbgeemaaXpath5
import Derived.Test.YtkalomdbbgeemaaXpathQ
import Derived.Deep.RegionHeld3
import Derived.StillTailTactics
namespace Go.Proofs.Ytkalomdbbgeemaa
open Go.RowKit

theorem box_get1 (w : World) (cs : Array Value) (t : TypeId) (i : Nat) (x : Value) (h : cs[i]? = some x) : (w.alloc (.cells cs t)).cell? ⟨w.heap.size, i, none⟩ = some x := by
  rw [cell_of_row _ w.heap.size i cs t (0, 0) (heap_alloc_new w _), h]

/-- What the three tests say, as one number says it. -/
theorem stands_bools {q p : List Int} (hq : 0 < q.length) :
    (standsN q p = 3 → decide (q = p) = true ∧ aboveB q p = false ∧ leftB q p = false) ∧
    (standsN q p = 2 → decide (q = p) = false ∧ aboveB q p = true ∧ leftB q p = false) ∧
    (standsN q p = 1 → decide (q = p) = false ∧ aboveB q p = false ∧ leftB q p = true) ∧
    (standsN q p = 0 → decide (q = p) = false ∧ aboveB q p = false ∧ leftB q p = false) := by
  have h0 : ¬ q.length = 0 := by omega
  by_cases h3 : q = p
  · have hs : standsN q p = 3 := (stands_three hq).2 h3
    refine ⟨fun _ => ⟨by simpa using h3, ?_, ?_⟩, fun h => by omega, fun h => by omega, fun h => by omega⟩
    · cases ha : aboveB q p
      · rfl
      · have := (aboveB_iff.1 ha).1; rw [h3] at this; omega
    · cases hl : leftB q p
      · rfl
      · obtain ⟨k, _, _, _, h⟩ := leftB_iff.1 hl; rw [h3] at h; omega
  · cases ha : aboveB q p
    · cases hl : leftB q p
      · have hs : standsN q p = 0 := by rw [standsN, if_neg h0, if_neg h3, ha, hl]; rfl
        exact ⟨fun h => by omega, fun h => by omega, fun h => by omega, fun _ => ⟨by simpa using h3, rfl, rfl⟩⟩
      · have hs : standsN q p = 1 := by rw [standsN, if_neg h0, if_neg h3, ha, hl]; rfl
        exact ⟨fun h => by omega, fun h => by omega, fun _ => ⟨by simpa using h3, rfl, rfl⟩, fun h => by omega⟩
    · have hl := above_not_left ha
      have hs : standsN q p = 2 := by rw [standsN, if_neg h0, if_neg h3, ha]; rfl
      rw [hl]
      exact ⟨fun h => by omega, fun _ => ⟨by simpa using h3, rfl, rfl⟩, fun h => by omega, fun h => by omega⟩

set_option maxRecDepth 100000 in
set_option maxHeartbeats 4000000 in
theorem rmove_e1 (xs q to : List Int) (pos : Int) (kind : Int) (v1 v2 : Value) (w : World) (h1 : Ints w v1 xs) (h2 : OpAt w v2 kind q to pos) (s1 : smallB xs = false)
    (hm : moveP xs kind q to pos = none) :
    Calls Try.prog 41 #[v1, v2] w (Mv (moveP xs kind q to pos) w) := by
  obtain ⟨pv, tv, r4, r5, r6, r7, r8, r9, r10, r11, r12, r13, r14, r15, r16, r17, r18, r19, r20, rfl, hp, ht⟩ := h2
  have HM := Lib.hid hm
  obtain ⟨a1, c1, rfl⟩ := h1.slice
  have b1 := h1.len
  obtain ⟨a2, n2, c2, rfl⟩ := hp.slice3
  obtain ⟨a3, n3, c3, rfl⟩ := ht.slice3
  clear hm
  go_enter Try.func41, Try.ntmps41
  go_wp2_with fail
  refine (rsmall_any _ _ _ (h1.alloc _)).mono ?_
  rintro e w1 ⟨rfl, rfl⟩
  rw [s1]
  go_wp2
  go_ret2
  exact Mv.none_ HM.out (gr_al (gr_refl w) _)

set_option maxRecDepth 100000 in
set_option maxHeartbeats 4000000 in
theorem rmove_e2 (xs q to : List Int) (pos : Int) (kind : Int) (v1 v2 : Value) (w : World) (h1 : Ints w v1 xs) (h2 : OpAt w v2 kind q to pos) (s1 : smallB xs = true) (s2 : smallB q = false)
    (hm : moveP xs kind q to pos = none) :
    Calls Try.prog 41 #[v1, v2] w (Mv (moveP xs kind q to pos) w) := by
  obtain ⟨pv, tv, r4, r5, r6, r7, r8, r9, r10, r11, r12, r13, r14, r15, r16, r17, r18, r19, r20, rfl, hp, ht⟩ := h2
  have HM := Lib.hid hm
  obtain ⟨a1, c1, rfl⟩ := h1.slice
  have b1 := h1.len
  obtain ⟨a2, n2, c2, rfl⟩ := hp.slice3
  obtain ⟨a3, n3, c3, rfl⟩ := ht.slice3
  clear hm
  go_enter Try.func41, Try.ntmps41
  go_wp2_with fail
  refine (rsmall_any _ _ _ (h1.alloc _)).mono ?_
  rintro e w1 ⟨rfl, rfl⟩
  rw [s1]
  go_wp2_with fail
  refine (rsmall_any _ _ _ (hp.alloc _)).mono ?_
  rintro e w1 ⟨rfl, rfl⟩
  rw [s2]
  go_wp2
  go_ret2
  exact Mv.none_ HM.out (gr_al (gr_refl w) _)

set_option maxRecDepth 100000 in
set_option maxHeartbeats 4000000 in
theorem rmove_e3 (xs q to : List Int) (pos : Int) (kind : Int) (v1 v2 : Value) (w : World) (h1 : Ints w v1 xs) (h2 : OpAt w v2 kind q to pos) (s1 : smallB xs = true) (s2 : smallB q = true) (s3 : smallB to = false)
    (hm : moveP xs kind q to pos = none) :
    Calls Try.prog 41 #[v1, v2] w (Mv (moveP xs kind q to pos) w) := by
  obtain ⟨pv, tv, r4, r5, r6, r7, r8, r9, r10, r11, r12, r13, r14, r15, r16, r17, r18, r19, r20, rfl, hp, ht⟩ := h2
  have HM := Lib.hid hm
  obtain ⟨a1, c1, rfl⟩ := h1.slice
  have b1 := h1.len
  obtain ⟨a2, n2, c2, rfl⟩ := hp.slice3
  obtain ⟨a3, n3, c3, rfl⟩ := ht.slice3
  clear hm
  go_enter Try.func41, Try.ntmps41
  go_wp2_with fail
  refine (rsmall_any _ _ _ (h1.alloc _)).mono ?_
  rintro e w1 ⟨rfl, rfl⟩
  rw [s1]
  go_wp2_with fail
  refine (rsmall_any _ _ _ (hp.alloc _)).mono ?_
  rintro e w1 ⟨rfl, rfl⟩
  rw [s2]
  go_wp2_with fail
  refine (rsmall_any _ _ _ (ht.alloc _)).mono ?_
  rintro e w1 ⟨rfl, rfl⟩
  rw [s3]
  go_wp2
  go_ret2
  exact Mv.none_ HM.out (gr_al (gr_refl w) _)

set_option maxRecDepth 100000 in
set_option maxHeartbeats 4000000 in
theorem rmove_e4 (xs q to : List Int) (pos : Int) (kind : Int) (v1 v2 : Value) (w : World) (h1 : Ints w v1 xs) (h2 : OpAt w v2 kind q to pos) (s1 : smallB xs = true) (s2 : smallB q = true) (s3 : smallB to = true) (p1 : pos < 0)
    (hm : moveP xs kind q to pos = none) :
    Calls Try.prog 41 #[v1, v2] w (Mv (moveP xs kind q to pos) w) := by
  obtain ⟨pv, tv, r4, r5, r6, r7, r8, r9, r10, r11, r12, r13, r14, r15, r16, r17, r18, r19, r20, rfl, hp, ht⟩ := h2
  have HM := Lib.hid hm
  obtain ⟨a1, c1, rfl⟩ := h1.slice
  have b1 := h1.len
  obtain ⟨a2, n2, c2, rfl⟩ := hp.slice3
  obtain ⟨a3, n3, c3, rfl⟩ := ht.slice3
  clear hm
  go_enter Try.func41, Try.ntmps41
  go_wp2_with fail
  refine (rsmall_any _ _ _ (h1.alloc _)).mono ?_
  rintro e w1 ⟨rfl, rfl⟩
  rw [s1]
  go_wp2_with fail
  refine (rsmall_any _ _ _ (hp.alloc _)).mono ?_
  rintro e w1 ⟨rfl, rfl⟩
  rw [s2]
  go_wp2_with fail
  refine (rsmall_any _ _ _ (ht.alloc _)).mono ?_
  rintro e w1 ⟨rfl, rfl⟩
  rw [s3]
  go_wp2
  go_ret2
  exact Mv.none_ HM.out (gr_al (gr_refl w) _)

set_option maxRecDepth 100000 in
set_option maxHeartbeats 4000000 in
theorem rmove_e5 (xs q to : List Int) (pos : Int) (kind : Int) (v1 v2 : Value) (w : World) (h1 : Ints w v1 xs) (h2 : OpAt w v2 kind q to pos) (s1 : smallB xs = true) (s2 : smallB q = true) (s3 : smallB to = true) (p1 : ¬ pos < 0) (p2 : 1048576 < pos)
    (hm : moveP xs kind q to pos = none) :
    Calls Try.prog 41 #[v1, v2] w (Mv (moveP xs kind q to pos) w) := by
  obtain ⟨pv, tv, r4, r5, r6, r7, r8, r9, r10, r11, r12, r13, r14, r15, r16, r17, r18, r19, r20, rfl, hp, ht⟩ := h2
  have HM := Lib.hid hm
  obtain ⟨a1, c1, rfl⟩ := h1.slice
  have b1 := h1.len
  obtain ⟨a2, n2, c2, rfl⟩ := hp.slice3
  obtain ⟨a3, n3, c3, rfl⟩ := ht.slice3
  clear hm
  go_enter Try.func41, Try.ntmps41
  go_wp2_with fail
  refine (rsmall_any _ _ _ (h1.alloc _)).mono ?_
  rintro e w1 ⟨rfl, rfl⟩
  rw [s1]
  go_wp2_with fail
  refine (rsmall_any _ _ _ (hp.alloc _)).mono ?_
  rintro e w1 ⟨rfl, rfl⟩
  rw [s2]
  go_wp2_with fail
  refine (rsmall_any _ _ _ (ht.alloc _)).mono ?_
  rintro e w1 ⟨rfl, rfl⟩
  rw [s3]
  go_wp2
  go_ret2
  exact Mv.none_ HM.out (gr_al (gr_refl w) _)

set_option maxRecDepth 100000 in
set_option maxHeartbeats 4000000 in
theorem rmove_z (xs q to : List Int) (pos : Int) (kind : Int) (v1 v2 : Value) (w : World) (h1 : Ints w v1 xs) (h2 : OpAt w v2 kind q to pos) (s1 : smallB xs = true) (s2 : smallB q = true) (s3 : smallB to = true) (p1 : ¬ pos < 0) (p2 : ¬ 1048576 < pos) (hq : q.length = 0)
    (hm : moveP xs kind q to pos = some xs) :
    Calls Try.prog 41 #[v1, v2] w (Mv (moveP xs kind q to pos) w) := by
  obtain ⟨pv, tv, r4, r5, r6, r7, r8, r9, r10, r11, r12, r13, r14, r15, r16, r17, r18, r19, r20, rfl, hp, ht⟩ := h2
  have HM := Lib.hid hm
  obtain ⟨a1, c1, rfl⟩ := h1.slice
  have b1 := h1.len
  obtain ⟨a2, c2, rfl⟩ := hp.slice_len hq
  obtain ⟨a3, n3, c3, rfl⟩ := ht.slice3
  clear hm hq
  go_enter Try.func41, Try.ntmps41
  go_wp2_with fail
  refine (rsmall_any _ _ _ (h1.alloc _)).mono ?_
  rintro e w1 ⟨rfl, rfl⟩
  rw [s1]
  go_wp2_with fail
  refine (rsmall_any _ _ _ (hp.alloc _)).mono ?_
  rintro e w1 ⟨rfl, rfl⟩
  rw [s2]
  go_wp2_with fail
  refine (rsmall_any _ _ _ (ht.alloc _)).mono ?_
  rintro e w1 ⟨rfl, rfl⟩
  rw [s3]
  go_wp2_with fail
  refine (rcopy_any xs _ _ (h1.alloc _)).mono ?_
  rintro e w3 ⟨v', rfl, ho, hbk⟩
  go_wp2
  go_ret2
  exact Mv.some_ HM.out (ho.mono (by simp)) (gr_tr (gr_al (gr_refl w) _) hbk)

set_option maxRecDepth 100000 in
set_option maxHeartbeats 4000000 in
theorem rmove_k1h3 (xs q to : List Int) (pos : Int) (v1 v2 : Value) (w : World) (h1 : Ints w v1 xs) (h2 : OpAt w v2 1 q to pos) (s1 : smallB xs = true) (s2 : smallB q = true) (s3 : smallB to = true) (p1 : ¬ pos < 0) (p2 : ¬ 1048576 < pos) (hq : 0 < q.length) (hh : standsN q xs = 3)
    (hm : moveP xs 1 q to pos = some (shiftL xs (q.length - 1) 1)) :
    Calls Try.prog 41 #[v1, v2] w (Mv (moveP xs 1 q to pos) w) := by
  obtain ⟨pv, tv, r4, r5, r6, r7, r8, r9, r10, r11, r12, r13, r14, r15, r16, r17, r18, r19, r20, rfl, hp, ht⟩ := h2
  have HM := Lib.hid hm
  obtain ⟨a1, c1, rfl⟩ := h1.slice
  have b1 := h1.len
  obtain ⟨b3, b4, b5⟩ := (stands_bools (p := xs) hq).1 hh
  have HH := Lib.hid hh
  obtain ⟨n, hn⟩ : ∃ n, q.length = n + 1 := ⟨q.length - 1, by omega⟩
  have HN := Lib.hid hn
  obtain ⟨a2, c2, rfl⟩ := hp.slice_len hn
  obtain ⟨a3, n3, c3, rfl⟩ := ht.slice3
  have b2 := hp.len
  rw [hn] at b2
  have f0 : ((n : Int) + 1 == 0) = false := by rw [beq_eq_false_iff_ne]; omega
  have f0' : (((n + 1 : Nat) : Int) == 0) = false := by rw [beq_eq_false_iff_ne]; omega
  have SS1 := Lib.hid s1
  have PB : Hid (0 ≤ pos ∧ pos ≤ 1048576) := ⟨by omega, by omega⟩
  have BY : Hid (∀ d : Int, -1 ≤ d ∧ d ≤ 1 → -9223372036854775808 ≤ xs.getD (q.length - 1) 0 + d ∧ xs.getD (q.length - 1) 0 + d ≤ 9223372036854775807) := fun d hd => by have := small_get SS1.out (q.length - 1); omega
  have HQ := Lib.hid hq
  have l1 : n + 1 ≤ xs.length := by have := (stands_len (q := q) (p := xs) (by rw [hh]; decide)).2; omega
  have HQL : Hid (q.length ≤ xs.length) := by show _ ≤ _; omega
  clear hm hh hn hq
  go_enter Try.func41, Try.ntmps41
  go_wp2_with fail
  refine (rsmall_any _ _ _ (h1.alloc _)).mono ?_
  rintro e w1 ⟨rfl, rfl⟩
  rw [s1]
  go_wp2_with fail
  refine (rsmall_any _ _ _ (hp.alloc _)).mono ?_
  rintro e w1 ⟨rfl, rfl⟩
  rw [s2]
  go_wp2_with fail
  refine (rsmall_any _ _ _ (ht.alloc _)).mono ?_
  rintro e w1 ⟨rfl, rfl⟩
  rw [s3]
  go_wp2_with fail
  refine (rsame_any _ _ _ _ _ (hp.alloc _) (h1.alloc _)).mono ?_
  rintro e w2 ⟨rfl, hs⟩
  rw [b3]
  have q0 := (hs.cell _).trans (box_get1 w _ _ 0 (.int .i64 1) rfl)
  have q1 := (hs.cell _).trans (box_get1 w _ _ 1 (.slice a2 (n + 1) c2) rfl)
  have q2 := (hs.cell _).trans (box_get1 w _ _ 2 (.slice a3 n3 c3) rfl)
  have q3 := (hs.cell _).trans (box_get1 w _ _ 3 (.int .i64 pos) rfl)
  have hb := gr_sm (gr_al (gr_refl w) _) hs
  have hsz : w.heap.size < w2.heap.size := by rw [hs.size]; simp
  have i1 := (h1.alloc _).same hs
  have i2 := (hp.alloc _).same hs
  have i3 := (ht.alloc _).same hs
  clear h1 hp ht hs
  go_wp2_with fail
  refine (rabove_any _ _ _ _ _ i2 i1).mono ?_
  rintro e w4 ⟨rfl, hs⟩
  rw [b4]
  replace q0 := (hs.cell _).trans q0
  replace q1 := (hs.cell _).trans q1
  replace q2 := (hs.cell _).trans q2
  replace q3 := (hs.cell _).trans q3
  replace hb := gr_sm hb hs
  replace hsz : w.heap.size < w4.heap.size := by rw [hs.size]; exact hsz
  replace i1 := i1.same hs
  replace i2 := i2.same hs
  replace i3 := i3.same hs
  clear hs
  go_wp2_with fail
  refine (rleft_any _ _ _ _ _ i2 i1).mono ?_
  rintro e w5 ⟨rfl, hs⟩
  rw [b5]
  replace q0 := (hs.cell _).trans q0
  replace q1 := (hs.cell _).trans q1
  replace q2 := (hs.cell _).trans q2
  replace q3 := (hs.cell _).trans q3
  replace hb := gr_sm hb hs
  replace hsz : w.heap.size < w5.heap.size := by rw [hs.size]; exact hsz
  replace i1 := i1.same hs
  replace i2 := i2.same hs
  replace i3 := i3.same hs
  clear hs
  go_wp2_with fail
  refine (rby_any xs q _ _ 1 _ i1 i2 HQ.out HQL.out (BY.out 1 (by omega))).mono ?_
  rintro e w3 ⟨v', rfl, ho, hbk⟩
  go_wp2
  go_ret2
  exact Mv.some_ HM.out (ho.mono hb.size) (gr_tr hb hbk)

set_option maxRecDepth 100000 in
set_option maxHeartbeats 4000000 in
theorem rmove_k1h2 (xs q to : List Int) (pos : Int) (v1 v2 : Value) (w : World) (h1 : Ints w v1 xs) (h2 : OpAt w v2 1 q to pos) (s1 : smallB xs = true) (s2 : smallB q = true) (s3 : smallB to = true) (p1 : ¬ pos < 0) (p2 : ¬ 1048576 < pos) (hq : 0 < q.length) (hh : standsN q xs = 2)
    (hm : moveP xs 1 q to pos = some (shiftL xs (q.length - 1) 1)) :
    Calls Try.prog 41 #[v1, v2] w (Mv (moveP xs 1 q to pos) w) := by
  obtain ⟨pv, tv, r4, r5, r6, r7, r8, r9, r10, r11, r12, r13, r14, r15, r16, r17, r18, r19, r20, rfl, hp, ht⟩ := h2
  have HM := Lib.hid hm
  obtain ⟨a1, c1, rfl⟩ := h1.slice
  have b1 := h1.len
  obtain ⟨b3, b4, b5⟩ := (stands_bools (p := xs) hq).2.1 hh
  have HH := Lib.hid hh
  obtain ⟨n, hn⟩ : ∃ n, q.length = n + 1 := ⟨q.length - 1, by omega⟩
  have HN := Lib.hid hn
  obtain ⟨a2, c2, rfl⟩ := hp.slice_len hn
  obtain ⟨a3, n3, c3, rfl⟩ := ht.slice3
  have b2 := hp.len
  rw [hn] at b2
  have f0 : ((n : Int) + 1 == 0) = false := by rw [beq_eq_false_iff_ne]; omega
  have f0' : (((n + 1 : Nat) : Int) == 0) = false := by rw [beq_eq_false_iff_ne]; omega
  have SS1 := Lib.hid s1
  have PB : Hid (0 ≤ pos ∧ pos ≤ 1048576) := ⟨by omega, by omega⟩
  have BY : Hid (∀ d : Int, -1 ≤ d ∧ d ≤ 1 → -9223372036854775808 ≤ xs.getD (q.length - 1) 0 + d ∧ xs.getD (q.length - 1) 0 + d ≤ 9223372036854775807) := fun d hd => by have := small_get SS1.out (q.length - 1); omega
  have HQ := Lib.hid hq
  have l1 : n + 1 ≤ xs.length := by have := (stands_len (q := q) (p := xs) (by rw [hh]; decide)).2; omega
  have HQL : Hid (q.length ≤ xs.length) := by show _ ≤ _; omega
  have l2 : n + 1 < xs.length := by have := stands_above_lt hh; omega
  clear hm hh hn hq
  go_enter Try.func41, Try.ntmps41
  go_wp2_with fail
  refine (rsmall_any _ _ _ (h1.alloc _)).mono ?_
  rintro e w1 ⟨rfl, rfl⟩
  rw [s1]
  go_wp2_with fail
  refine (rsmall_any _ _ _ (hp.alloc _)).mono ?_
  rintro e w1 ⟨rfl, rfl⟩
  rw [s2]
  go_wp2_with fail
  refine (rsmall_any _ _ _ (ht.alloc _)).mono ?_
  rintro e w1 ⟨rfl, rfl⟩
  rw [s3]
  go_wp2_with fail
  refine (rsame_any _ _ _ _ _ (hp.alloc _) (h1.alloc _)).mono ?_
  rintro e w2 ⟨rfl, hs⟩
  rw [b3]
  have q0 := (hs.cell _).trans (box_get1 w _ _ 0 (.int .i64 1) rfl)
  have q1 := (hs.cell _).trans (box_get1 w _ _ 1 (.slice a2 (n + 1) c2) rfl)
  have q2 := (hs.cell _).trans (box_get1 w _ _ 2 (.slice a3 n3 c3) rfl)
  have q3 := (hs.cell _).trans (box_get1 w _ _ 3 (.int .i64 pos) rfl)
  have hb := gr_sm (gr_al (gr_refl w) _) hs
  have hsz : w.heap.size < w2.heap.size := by rw [hs.size]; simp
  have i1 := (h1.alloc _).same hs
  have i2 := (hp.alloc _).same hs
  have i3 := (ht.alloc _).same hs
  clear h1 hp ht hs
  go_wp2_with fail
  refine (rabove_any _ _ _ _ _ i2 i1).mono ?_
  rintro e w4 ⟨rfl, hs⟩
  rw [b4]
  replace q0 := (hs.cell _).trans q0
  replace q1 := (hs.cell _).trans q1
  replace q2 := (hs.cell _).trans q2
  replace q3 := (hs.cell _).trans q3
  replace hb := gr_sm hb hs
  replace hsz : w.heap.size < w4.heap.size := by rw [hs.size]; exact hsz
  replace i1 := i1.same hs
  replace i2 := i2.same hs
  replace i3 := i3.same hs
  clear hs
  go_wp2_with fail
  refine (rleft_any _ _ _ _ _ i2 i1).mono ?_
  rintro e w5 ⟨rfl, hs⟩
  rw [b5]
  replace q0 := (hs.cell _).trans q0
  replace q1 := (hs.cell _).trans q1
  replace q2 := (hs.cell _).trans q2
  replace q3 := (hs.cell _).trans q3
  replace hb := gr_sm hb hs
  replace hsz : w.heap.size < w5.heap.size := by rw [hs.size]; exact hsz
  replace i1 := i1.same hs
  replace i2 := i2.same hs
  replace i3 := i3.same hs
  clear hs
  go_wp2_with fail
  refine (rby_any xs q _ _ 1 _ i1 i2 HQ.out HQL.out (BY.out 1 (by omega))).mono ?_
  rintro e w3 ⟨v', rfl, ho, hbk⟩
  go_wp2
  go_ret2
  exact Mv.some_ HM.out (ho.mono hb.size) (gr_tr hb hbk)

set_option maxRecDepth 100000 in
set_option maxHeartbeats 4000000 in
theorem rmove_k1h1 (xs q to : List Int) (pos : Int) (v1 v2 : Value) (w : World) (h1 : Ints w v1 xs) (h2 : OpAt w v2 1 q to pos) (s1 : smallB xs = true) (s2 : smallB q = true) (s3 : smallB to = true) (p1 : ¬ pos < 0) (p2 : ¬ 1048576 < pos) (hq : 0 < q.length) (hh : standsN q xs = 1)
    (hm : moveP xs 1 q to pos = some (shiftL xs (q.length - 1) 1)) :
    Calls Try.prog 41 #[v1, v2] w (Mv (moveP xs 1 q to pos) w) := by
  obtain ⟨pv, tv, r4, r5, r6, r7, r8, r9, r10, r11, r12, r13, r14, r15, r16, r17, r18, r19, r20, rfl, hp, ht⟩ := h2
  have HM := Lib.hid hm
  obtain ⟨a1, c1, rfl⟩ := h1.slice
  have b1 := h1.len
  obtain ⟨b3, b4, b5⟩ := (stands_bools (p := xs) hq).2.2.1 hh
  have HH := Lib.hid hh
  obtain ⟨n, hn⟩ : ∃ n, q.length = n + 1 := ⟨q.length - 1, by omega⟩
  have HN := Lib.hid hn
  obtain ⟨a2, c2, rfl⟩ := hp.slice_len hn
  obtain ⟨a3, n3, c3, rfl⟩ := ht.slice3
  have b2 := hp.len
  rw [hn] at b2
  have f0 : ((n : Int) + 1 == 0) = false := by rw [beq_eq_false_iff_ne]; omega
  have f0' : (((n + 1 : Nat) : Int) == 0) = false := by rw [beq_eq_false_iff_ne]; omega
  have SS1 := Lib.hid s1
  have PB : Hid (0 ≤ pos ∧ pos ≤ 1048576) := ⟨by omega, by omega⟩
  have BY : Hid (∀ d : Int, -1 ≤ d ∧ d ≤ 1 → -9223372036854775808 ≤ xs.getD (q.length - 1) 0 + d ∧ xs.getD (q.length - 1) 0 + d ≤ 9223372036854775807) := fun d hd => by have := small_get SS1.out (q.length - 1); omega
  have HQ := Lib.hid hq
  have l1 : n + 1 ≤ xs.length := by have := (stands_len (q := q) (p := xs) (by rw [hh]; decide)).2; omega
  have HQL : Hid (q.length ≤ xs.length) := by show _ ≤ _; omega
  clear hm hh hn hq
  go_enter Try.func41, Try.ntmps41
  go_wp2_with fail
  refine (rsmall_any _ _ _ (h1.alloc _)).mono ?_
  rintro e w1 ⟨rfl, rfl⟩
  rw [s1]
  go_wp2_with fail
  refine (rsmall_any _ _ _ (hp.alloc _)).mono ?_
  rintro e w1 ⟨rfl, rfl⟩
  rw [s2]
  go_wp2_with fail
  refine (rsmall_any _ _ _ (ht.alloc _)).mono ?_
  rintro e w1 ⟨rfl, rfl⟩
  rw [s3]
  go_wp2_with fail
  refine (rsame_any _ _ _ _ _ (hp.alloc _) (h1.alloc _)).mono ?_
  rintro e w2 ⟨rfl, hs⟩
  rw [b3]
  have q0 := (hs.cell _).trans (box_get1 w _ _ 0 (.int .i64 1) rfl)
  have q1 := (hs.cell _).trans (box_get1 w _ _ 1 (.slice a2 (n + 1) c2) rfl)
  have q2 := (hs.cell _).trans (box_get1 w _ _ 2 (.slice a3 n3 c3) rfl)
  have q3 := (hs.cell _).trans (box_get1 w _ _ 3 (.int .i64 pos) rfl)
  have hb := gr_sm (gr_al (gr_refl w) _) hs
  have hsz : w.heap.size < w2.heap.size := by rw [hs.size]; simp
  have i1 := (h1.alloc _).same hs
  have i2 := (hp.alloc _).same hs
  have i3 := (ht.alloc _).same hs
  clear h1 hp ht hs
  go_wp2_with fail
  refine (rabove_any _ _ _ _ _ i2 i1).mono ?_
  rintro e w4 ⟨rfl, hs⟩
  rw [b4]
  replace q0 := (hs.cell _).trans q0
  replace q1 := (hs.cell _).trans q1
  replace q2 := (hs.cell _).trans q2
  replace q3 := (hs.cell _).trans q3
  replace hb := gr_sm hb hs
  replace hsz : w.heap.size < w4.heap.size := by rw [hs.size]; exact hsz
  replace i1 := i1.same hs
  replace i2 := i2.same hs
  replace i3 := i3.same hs
  clear hs
  go_wp2_with fail
  refine (rleft_any _ _ _ _ _ i2 i1).mono ?_
  rintro e w5 ⟨rfl, hs⟩
  rw [b5]
  replace q0 := (hs.cell _).trans q0
  replace q1 := (hs.cell _).trans q1
  replace q2 := (hs.cell _).trans q2
  replace q3 := (hs.cell _).trans q3
  replace hb := gr_sm hb hs
  replace hsz : w.heap.size < w5.heap.size := by rw [hs.size]; exact hsz
  replace i1 := i1.same hs
  replace i2 := i2.same hs
  replace i3 := i3.same hs
  clear hs
  go_wp2_with fail
  refine (rby_any xs q _ _ 1 _ i1 i2 HQ.out HQL.out (BY.out 1 (by omega))).mono ?_
  rintro e w3 ⟨v', rfl, ho, hbk⟩
  go_wp2
  go_ret2
  exact Mv.some_ HM.out (ho.mono hb.size) (gr_tr hb hbk)

set_option maxRecDepth 100000 in
set_option maxHeartbeats 4000000 in
theorem rmove_k1h0 (xs q to : List Int) (pos : Int) (v1 v2 : Value) (w : World) (h1 : Ints w v1 xs) (h2 : OpAt w v2 1 q to pos) (s1 : smallB xs = true) (s2 : smallB q = true) (s3 : smallB to = true) (p1 : ¬ pos < 0) (p2 : ¬ 1048576 < pos) (hq : 0 < q.length) (hh : standsN q xs = 0)
    (hm : moveP xs 1 q to pos = some xs) :
    Calls Try.prog 41 #[v1, v2] w (Mv (moveP xs 1 q to pos) w) := by
  obtain ⟨pv, tv, r4, r5, r6, r7, r8, r9, r10, r11, r12, r13, r14, r15, r16, r17, r18, r19, r20, rfl, hp, ht⟩ := h2
  have HM := Lib.hid hm
  obtain ⟨a1, c1, rfl⟩ := h1.slice
  have b1 := h1.len
  obtain ⟨b3, b4, b5⟩ := (stands_bools (p := xs) hq).2.2.2 hh
  have HH := Lib.hid hh
  obtain ⟨n, hn⟩ : ∃ n, q.length = n + 1 := ⟨q.length - 1, by omega⟩
  have HN := Lib.hid hn
  obtain ⟨a2, c2, rfl⟩ := hp.slice_len hn
  obtain ⟨a3, n3, c3, rfl⟩ := ht.slice3
  have b2 := hp.len
  rw [hn] at b2
  have f0 : ((n : Int) + 1 == 0) = false := by rw [beq_eq_false_iff_ne]; omega
  have f0' : (((n + 1 : Nat) : Int) == 0) = false := by rw [beq_eq_false_iff_ne]; omega
  have SS1 := Lib.hid s1
  have PB : Hid (0 ≤ pos ∧ pos ≤ 1048576) := ⟨by omega, by omega⟩
  have BY : Hid (∀ d : Int, -1 ≤ d ∧ d ≤ 1 → -9223372036854775808 ≤ xs.getD (q.length - 1) 0 + d ∧ xs.getD (q.length - 1) 0 + d ≤ 9223372036854775807) := fun d hd => by have := small_get SS1.out (q.length - 1); omega
  have HQ := Lib.hid hq
  clear hm hh hn hq
  go_enter Try.func41, Try.ntmps41
  go_wp2_with fail
  refine (rsmall_any _ _ _ (h1.alloc _)).mono ?_
  rintro e w1 ⟨rfl, rfl⟩
  rw [s1]
  go_wp2_with fail
  refine (rsmall_any _ _ _ (hp.alloc _)).mono ?_
  rintro e w1 ⟨rfl, rfl⟩
  rw [s2]
  go_wp2_with fail
  refine (rsmall_any _ _ _ (ht.alloc _)).mono ?_
  rintro e w1 ⟨rfl, rfl⟩
  rw [s3]
  go_wp2_with fail
  refine (rsame_any _ _ _ _ _ (hp.alloc _) (h1.alloc _)).mono ?_
  rintro e w2 ⟨rfl, hs⟩
  rw [b3]
  have q0 := (hs.cell _).trans (box_get1 w _ _ 0 (.int .i64 1) rfl)
  have q1 := (hs.cell _).trans (box_get1 w _ _ 1 (.slice a2 (n + 1) c2) rfl)
  have q2 := (hs.cell _).trans (box_get1 w _ _ 2 (.slice a3 n3 c3) rfl)
  have q3 := (hs.cell _).trans (box_get1 w _ _ 3 (.int .i64 pos) rfl)
  have hb := gr_sm (gr_al (gr_refl w) _) hs
  have hsz : w.heap.size < w2.heap.size := by rw [hs.size]; simp
  have i1 := (h1.alloc _).same hs
  have i2 := (hp.alloc _).same hs
  have i3 := (ht.alloc _).same hs
  clear h1 hp ht hs
  go_wp2_with fail
  refine (rabove_any _ _ _ _ _ i2 i1).mono ?_
  rintro e w4 ⟨rfl, hs⟩
  rw [b4]
  replace q0 := (hs.cell _).trans q0
  replace q1 := (hs.cell _).trans q1
  replace q2 := (hs.cell _).trans q2
  replace q3 := (hs.cell _).trans q3
  replace hb := gr_sm hb hs
  replace hsz : w.heap.size < w4.heap.size := by rw [hs.size]; exact hsz
  replace i1 := i1.same hs
  replace i2 := i2.same hs
  replace i3 := i3.same hs
  clear hs
  go_wp2_with fail
  refine (rleft_any _ _ _ _ _ i2 i1).mono ?_
  rintro e w5 ⟨rfl, hs⟩
  rw [b5]
  replace q0 := (hs.cell _).trans q0
  replace q1 := (hs.cell _).trans q1
  replace q2 := (hs.cell _).trans q2
  replace q3 := (hs.cell _).trans q3
  replace hb := gr_sm hb hs
  replace hsz : w.heap.size < w5.heap.size := by rw [hs.size]; exact hsz
  replace i1 := i1.same hs
  replace i2 := i2.same hs
  replace i3 := i3.same hs
  clear hs
  go_wp2_with fail
  refine (rcopy_any xs _ _ i1).mono ?_
  rintro e w3 ⟨v', rfl, ho, hbk⟩
  go_wp2
  go_ret2
  exact Mv.some_ HM.out (ho.mono hb.size) (gr_tr hb hbk)

set_option maxRecDepth 100000 in
set_option maxHeartbeats 4000000 in
theorem rmove_k2h3 (xs q to : List Int) (pos : Int) (v1 v2 : Value) (w : World) (h1 : Ints w v1 xs) (h2 : OpAt w v2 2 q to pos) (s1 : smallB xs = true) (s2 : smallB q = true) (s3 : smallB to = true) (p1 : ¬ pos < 0) (p2 : ¬ 1048576 < pos) (hq : 0 < q.length) (hh : standsN q xs = 3)
    (hm : moveP xs 2 q to pos = none) :
    Calls Try.prog 41 #[v1, v2] w (Mv (moveP xs 2 q to pos) w) := by
  obtain ⟨pv, tv, r4, r5, r6, r7, r8, r9, r10, r11, r12, r13, r14, r15, r16, r17, r18, r19, r20, rfl, hp, ht⟩ := h2
  have HM := Lib.hid hm
  obtain ⟨a1, c1, rfl⟩ := h1.slice
  have b1 := h1.len
  obtain ⟨b3, b4, b5⟩ := (stands_bools (p := xs) hq).1 hh
  have HH := Lib.hid hh
  obtain ⟨n, hn⟩ : ∃ n, q.length = n + 1 := ⟨q.length - 1, by omega⟩
  have HN := Lib.hid hn
  obtain ⟨a2, c2, rfl⟩ := hp.slice_len hn
  obtain ⟨a3, n3, c3, rfl⟩ := ht.slice3
  have b2 := hp.len
  rw [hn] at b2
  have f0 : ((n : Int) + 1 == 0) = false := by rw [beq_eq_false_iff_ne]; omega
  have f0' : (((n + 1 : Nat) : Int) == 0) = false := by rw [beq_eq_false_iff_ne]; omega
  have SS1 := Lib.hid s1
  have PB : Hid (0 ≤ pos ∧ pos ≤ 1048576) := ⟨by omega, by omega⟩
  have BY : Hid (∀ d : Int, -1 ≤ d ∧ d ≤ 1 → -9223372036854775808 ≤ xs.getD (q.length - 1) 0 + d ∧ xs.getD (q.length - 1) 0 + d ≤ 9223372036854775807) := fun d hd => by have := small_get SS1.out (q.length - 1); omega
  have HQ := Lib.hid hq
  have l1 : n + 1 ≤ xs.length := by have := (stands_len (q := q) (p := xs) (by rw [hh]; decide)).2; omega
  have HQL : Hid (q.length ≤ xs.length) := by show _ ≤ _; omega
  clear hm hh hn hq
  go_enter Try.func41, Try.ntmps41
  go_wp2_with fail
  refine (rsmall_any _ _ _ (h1.alloc _)).mono ?_
  rintro e w1 ⟨rfl, rfl⟩
  rw [s1]
  go_wp2_with fail
  refine (rsmall_any _ _ _ (hp.alloc _)).mono ?_
  rintro e w1 ⟨rfl, rfl⟩
  rw [s2]
  go_wp2_with fail
  refine (rsmall_any _ _ _ (ht.alloc _)).mono ?_
  rintro e w1 ⟨rfl, rfl⟩
  rw [s3]
  go_wp2_with fail
  refine (rsame_any _ _ _ _ _ (hp.alloc _) (h1.alloc _)).mono ?_
  rintro e w2 ⟨rfl, hs⟩
  rw [b3]
  have q0 := (hs.cell _).trans (box_get1 w _ _ 0 (.int .i64 2) rfl)
  have q1 := (hs.cell _).trans (box_get1 w _ _ 1 (.slice a2 (n + 1) c2) rfl)
  have q2 := (hs.cell _).trans (box_get1 w _ _ 2 (.slice a3 n3 c3) rfl)
  have q3 := (hs.cell _).trans (box_get1 w _ _ 3 (.int .i64 pos) rfl)
  have hb := gr_sm (gr_al (gr_refl w) _) hs
  have hsz : w.heap.size < w2.heap.size := by rw [hs.size]; simp
  have i1 := (h1.alloc _).same hs
  have i2 := (hp.alloc _).same hs
  have i3 := (ht.alloc _).same hs
  clear h1 hp ht hs
  go_wp2_with fail
  refine (rabove_any _ _ _ _ _ i2 i1).mono ?_
  rintro e w4 ⟨rfl, hs⟩
  rw [b4]
  replace q0 := (hs.cell _).trans q0
  replace q1 := (hs.cell _).trans q1
  replace q2 := (hs.cell _).trans q2
  replace q3 := (hs.cell _).trans q3
  replace hb := gr_sm hb hs
  replace hsz : w.heap.size < w4.heap.size := by rw [hs.size]; exact hsz
  replace i1 := i1.same hs
  replace i2 := i2.same hs
  replace i3 := i3.same hs
  clear hs
  go_wp2_with fail
  refine (rleft_any _ _ _ _ _ i2 i1).mono ?_
  rintro e w5 ⟨rfl, hs⟩
  rw [b5]
  replace q0 := (hs.cell _).trans q0
  replace q1 := (hs.cell _).trans q1
  replace q2 := (hs.cell _).trans q2
  replace q3 := (hs.cell _).trans q3
  replace hb := gr_sm hb hs
  replace hsz : w.heap.size < w5.heap.size := by rw [hs.size]; exact hsz
  replace i1 := i1.same hs
  replace i2 := i2.same hs
  replace i3 := i3.same hs
  clear hs
  go_wp2
  go_ret2
  exact Mv.none_ HM.out hb

set_option maxRecDepth 100000 in
set_option maxHeartbeats 4000000 in
theorem rmove_k2h2 (xs q to : List Int) (pos : Int) (v1 v2 : Value) (w : World) (h1 : Ints w v1 xs) (h2 : OpAt w v2 2 q to pos) (s1 : smallB xs = true) (s2 : smallB q = true) (s3 : smallB to = true) (p1 : ¬ pos < 0) (p2 : ¬ 1048576 < pos) (hq : 0 < q.length) (hh : standsN q xs = 2)
    (hm : moveP xs 2 q to pos = none) :
    Calls Try.prog 41 #[v1, v2] w (Mv (moveP xs 2 q to pos) w) := by
  obtain ⟨pv, tv, r4, r5, r6, r7, r8, r9, r10, r11, r12, r13, r14, r15, r16, r17, r18, r19, r20, rfl, hp, ht⟩ := h2
  have HM := Lib.hid hm
  obtain ⟨a1, c1, rfl⟩ := h1.slice
  have b1 := h1.len
  obtain ⟨b3, b4, b5⟩ := (stands_bools (p := xs) hq).2.1 hh
  have HH := Lib.hid hh
  obtain ⟨n, hn⟩ : ∃ n, q.length = n + 1 := ⟨q.length - 1, by omega⟩
  have HN := Lib.hid hn
  obtain ⟨a2, c2, rfl⟩ := hp.slice_len hn
  obtain ⟨a3, n3, c3, rfl⟩ := ht.slice3
  have b2 := hp.len
  rw [hn] at b2
  have f0 : ((n : Int) + 1 == 0) = false := by rw [beq_eq_false_iff_ne]; omega
  have f0' : (((n + 1 : Nat) : Int) == 0) = false := by rw [beq_eq_false_iff_ne]; omega
  have SS1 := Lib.hid s1
  have PB : Hid (0 ≤ pos ∧ pos ≤ 1048576) := ⟨by omega, by omega⟩
  have BY : Hid (∀ d : Int, -1 ≤ d ∧ d ≤ 1 → -9223372036854775808 ≤ xs.getD (q.length - 1) 0 + d ∧ xs.getD (q.length - 1) 0 + d ≤ 9223372036854775807) := fun d hd => by have := small_get SS1.out (q.length - 1); omega
  have HQ := Lib.hid hq
  have l1 : n + 1 ≤ xs.length := by have := (stands_len (q := q) (p := xs) (by rw [hh]; decide)).2; omega
  have HQL : Hid (q.length ≤ xs.length) := by show _ ≤ _; omega
  have l2 : n + 1 < xs.length := by have := stands_above_lt hh; omega
  clear hm hh hn hq
  go_enter Try.func41, Try.ntmps41
  go_wp2_with fail
  refine (rsmall_any _ _ _ (h1.alloc _)).mono ?_
  rintro e w1 ⟨rfl, rfl⟩
  rw [s1]
  go_wp2_with fail
  refine (rsmall_any _ _ _ (hp.alloc _)).mono ?_
  rintro e w1 ⟨rfl, rfl⟩
  rw [s2]
  go_wp2_with fail
  refine (rsmall_any _ _ _ (ht.alloc _)).mono ?_
  rintro e w1 ⟨rfl, rfl⟩
  rw [s3]
  go_wp2_with fail
  refine (rsame_any _ _ _ _ _ (hp.alloc _) (h1.alloc _)).mono ?_
  rintro e w2 ⟨rfl, hs⟩
  rw [b3]
  have q0 := (hs.cell _).trans (box_get1 w _ _ 0 (.int .i64 2) rfl)
  have q1 := (hs.cell _).trans (box_get1 w _ _ 1 (.slice a2 (n + 1) c2) rfl)
  have q2 := (hs.cell _).trans (box_get1 w _ _ 2 (.slice a3 n3 c3) rfl)
  have q3 := (hs.cell _).trans (box_get1 w _ _ 3 (.int .i64 pos) rfl)
  have hb := gr_sm (gr_al (gr_refl w) _) hs
  have hsz : w.heap.size < w2.heap.size := by rw [hs.size]; simp
  have i1 := (h1.alloc _).same hs
  have i2 := (hp.alloc _).same hs
  have i3 := (ht.alloc _).same hs
  clear h1 hp ht hs
  go_wp2_with fail
  refine (rabove_any _ _ _ _ _ i2 i1).mono ?_
  rintro e w4 ⟨rfl, hs⟩
  rw [b4]
  replace q0 := (hs.cell _).trans q0
  replace q1 := (hs.cell _).trans q1
  replace q2 := (hs.cell _).trans q2
  replace q3 := (hs.cell _).trans q3
  replace hb := gr_sm hb hs
  replace hsz : w.heap.size < w4.heap.size := by rw [hs.size]; exact hsz
  replace i1 := i1.same hs
  replace i2 := i2.same hs
  replace i3 := i3.same hs
  clear hs
  go_wp2_with fail
  refine (rleft_any _ _ _ _ _ i2 i1).mono ?_
  rintro e w5 ⟨rfl, hs⟩
  rw [b5]
  replace q0 := (hs.cell _).trans q0
  replace q1 := (hs.cell _).trans q1
  replace q2 := (hs.cell _).trans q2
  replace q3 := (hs.cell _).trans q3
  replace hb := gr_sm hb hs
  replace hsz : w.heap.size < w5.heap.size := by rw [hs.size]; exact hsz
  replace i1 := i1.same hs
  replace i2 := i2.same hs
  replace i3 := i3.same hs
  clear hs
  go_wp2
  go_ret2
  exact Mv.none_ HM.out hb

set_option maxRecDepth 100000 in
set_option maxHeartbeats 4000000 in
theorem rmove_k2h1 (xs q to : List Int) (pos : Int) (v1 v2 : Value) (w : World) (h1 : Ints w v1 xs) (h2 : OpAt w v2 2 q to pos) (s1 : smallB xs = true) (s2 : smallB q = true) (s3 : smallB to = true) (p1 : ¬ pos < 0) (p2 : ¬ 1048576 < pos) (hq : 0 < q.length) (hh : standsN q xs = 1)
    (hm : moveP xs 2 q to pos = some (shiftL xs (q.length - 1) (-1))) :
    Calls Try.prog 41 #[v1, v2] w (Mv (moveP xs 2 q to pos) w) := by
  obtain ⟨pv, tv, r4, r5, r6, r7, r8, r9, r10, r11, r12, r13, r14, r15, r16, r17, r18, r19, r20, rfl, hp, ht⟩ := h2
  have HM := Lib.hid hm
  obtain ⟨a1, c1, rfl⟩ := h1.slice
  have b1 := h1.len
  obtain ⟨b3, b4, b5⟩ := (stands_bools (p := xs) hq).2.2.1 hh
  have HH := Lib.hid hh
  obtain ⟨n, hn⟩ : ∃ n, q.length = n + 1 := ⟨q.length - 1, by omega⟩
  have HN := Lib.hid hn
  obtain ⟨a2, c2, rfl⟩ := hp.slice_len hn
  obtain ⟨a3, n3, c3, rfl⟩ := ht.slice3
  have b2 := hp.len
  rw [hn] at b2
  have f0 : ((n : Int) + 1 == 0) = false := by rw [beq_eq_false_iff_ne]; omega
  have f0' : (((n + 1 : Nat) : Int) == 0) = false := by rw [beq_eq_false_iff_ne]; omega
  have SS1 := Lib.hid s1
  have PB : Hid (0 ≤ pos ∧ pos ≤ 1048576) := ⟨by omega, by omega⟩
  have BY : Hid (∀ d : Int, -1 ≤ d ∧ d ≤ 1 → -9223372036854775808 ≤ xs.getD (q.length - 1) 0 + d ∧ xs.getD (q.length - 1) 0 + d ≤ 9223372036854775807) := fun d hd => by have := small_get SS1.out (q.length - 1); omega
  have HQ := Lib.hid hq
  have l1 : n + 1 ≤ xs.length := by have := (stands_len (q := q) (p := xs) (by rw [hh]; decide)).2; omega
  have HQL : Hid (q.length ≤ xs.length) := by show _ ≤ _; omega
  clear hm hh hn hq
  go_enter Try.func41, Try.ntmps41
  go_wp2_with fail
  refine (rsmall_any _ _ _ (h1.alloc _)).mono ?_
  rintro e w1 ⟨rfl, rfl⟩
  rw [s1]
  go_wp2_with fail
  refine (rsmall_any _ _ _ (hp.alloc _)).mono ?_
  rintro e w1 ⟨rfl, rfl⟩
  rw [s2]
  go_wp2_with fail
  refine (rsmall_any _ _ _ (ht.alloc _)).mono ?_
  rintro e w1 ⟨rfl, rfl⟩
  rw [s3]
  go_wp2_with fail
  refine (rsame_any _ _ _ _ _ (hp.alloc _) (h1.alloc _)).mono ?_
  rintro e w2 ⟨rfl, hs⟩
  rw [b3]
  have q0 := (hs.cell _).trans (box_get1 w _ _ 0 (.int .i64 2) rfl)
  have q1 := (hs.cell _).trans (box_get1 w _ _ 1 (.slice a2 (n + 1) c2) rfl)
  have q2 := (hs.cell _).trans (box_get1 w _ _ 2 (.slice a3 n3 c3) rfl)
  have q3 := (hs.cell _).trans (box_get1 w _ _ 3 (.int .i64 pos) rfl)
  have hb := gr_sm (gr_al (gr_refl w) _) hs
  have hsz : w.heap.size < w2.heap.size := by rw [hs.size]; simp
  have i1 := (h1.alloc _).same hs
  have i2 := (hp.alloc _).same hs
  have i3 := (ht.alloc _).same hs
  clear h1 hp ht hs
  go_wp2_with fail
  refine (rabove_any _ _ _ _ _ i2 i1).mono ?_
  rintro e w4 ⟨rfl, hs⟩
  rw [b4]
  replace q0 := (hs.cell _).trans q0
  replace q1 := (hs.cell _).trans q1
  replace q2 := (hs.cell _).trans q2
  replace q3 := (hs.cell _).trans q3
  replace hb := gr_sm hb hs
  replace hsz : w.heap.size < w4.heap.size := by rw [hs.size]; exact hsz
  replace i1 := i1.same hs
  replace i2 := i2.same hs
  replace i3 := i3.same hs
  clear hs
  go_wp2_with fail
  refine (rleft_any _ _ _ _ _ i2 i1).mono ?_
  rintro e w5 ⟨rfl, hs⟩
  rw [b5]
  replace q0 := (hs.cell _).trans q0
  replace q1 := (hs.cell _).trans q1
  replace q2 := (hs.cell _).trans q2
  replace q3 := (hs.cell _).trans q3
  replace hb := gr_sm hb hs
  replace hsz : w.heap.size < w5.heap.size := by rw [hs.size]; exact hsz
  replace i1 := i1.same hs
  replace i2 := i2.same hs
  replace i3 := i3.same hs
  clear hs
  go_wp2_with fail
  refine (rby_any xs q _ _ (-1) _ i1 i2 HQ.out HQL.out (BY.out (-1) (by omega))).mono ?_
  rintro e w3 ⟨v', rfl, ho, hbk⟩
  go_wp2
  go_ret2
  exact Mv.some_ HM.out (ho.mono hb.size) (gr_tr hb hbk)

set_option maxRecDepth 100000 in
set_option maxHeartbeats 4000000 in
theorem rmove_k2h0 (xs q to : List Int) (pos : Int) (v1 v2 : Value) (w : World) (h1 : Ints w v1 xs) (h2 : OpAt w v2 2 q to pos) (s1 : smallB xs = true) (s2 : smallB q = true) (s3 : smallB to = true) (p1 : ¬ pos < 0) (p2 : ¬ 1048576 < pos) (hq : 0 < q.length) (hh : standsN q xs = 0)
    (hm : moveP xs 2 q to pos = some xs) :
    Calls Try.prog 41 #[v1, v2] w (Mv (moveP xs 2 q to pos) w) := by
  obtain ⟨pv, tv, r4, r5, r6, r7, r8, r9, r10, r11, r12, r13, r14, r15, r16, r17, r18, r19, r20, rfl, hp, ht⟩ := h2
  have HM := Lib.hid hm
  obtain ⟨a1, c1, rfl⟩ := h1.slice
  have b1 := h1.len
  obtain ⟨b3, b4, b5⟩ := (stands_bools (p := xs) hq).2.2.2 hh
  have HH := Lib.hid hh
  obtain ⟨n, hn⟩ : ∃ n, q.length = n + 1 := ⟨q.length - 1, by omega⟩
  have HN := Lib.hid hn
  obtain ⟨a2, c2, rfl⟩ := hp.slice_len hn
  obtain ⟨a3, n3, c3, rfl⟩ := ht.slice3
  have b2 := hp.len
  rw [hn] at b2
  have f0 : ((n : Int) + 1 == 0) = false := by rw [beq_eq_false_iff_ne]; omega
  have f0' : (((n + 1 : Nat) : Int) == 0) = false := by rw [beq_eq_false_iff_ne]; omega
  have SS1 := Lib.hid s1
  have PB : Hid (0 ≤ pos ∧ pos ≤ 1048576) := ⟨by omega, by omega⟩
  have BY : Hid (∀ d : Int, -1 ≤ d ∧ d ≤ 1 → -9223372036854775808 ≤ xs.getD (q.length - 1) 0 + d ∧ xs.getD (q.length - 1) 0 + d ≤ 9223372036854775807) := fun d hd => by have := small_get SS1.out (q.length - 1); omega
  have HQ := Lib.hid hq
  clear hm hh hn hq
  go_enter Try.func41, Try.ntmps41
  go_wp2_with fail
  refine (rsmall_any _ _ _ (h1.alloc _)).mono ?_
  rintro e w1 ⟨rfl, rfl⟩
  rw [s1]
  go_wp2_with fail
  refine (rsmall_any _ _ _ (hp.alloc _)).mono ?_
  rintro e w1 ⟨rfl, rfl⟩
  rw [s2]
  go_wp2_with fail
  refine (rsmall_any _ _ _ (ht.alloc _)).mono ?_
  rintro e w1 ⟨rfl, rfl⟩
  rw [s3]
  go_wp2_with fail
  refine (rsame_any _ _ _ _ _ (hp.alloc _) (h1.alloc _)).mono ?_
  rintro e w2 ⟨rfl, hs⟩
  rw [b3]
  have q0 := (hs.cell _).trans (box_get1 w _ _ 0 (.int .i64 2) rfl)
  have q1 := (hs.cell _).trans (box_get1 w _ _ 1 (.slice a2 (n + 1) c2) rfl)
  have q2 := (hs.cell _).trans (box_get1 w _ _ 2 (.slice a3 n3 c3) rfl)
  have q3 := (hs.cell _).trans (box_get1 w _ _ 3 (.int .i64 pos) rfl)
  have hb := gr_sm (gr_al (gr_refl w) _) hs
  have hsz : w.heap.size < w2.heap.size := by rw [hs.size]; simp
  have i1 := (h1.alloc _).same hs
  have i2 := (hp.alloc _).same hs
  have i3 := (ht.alloc _).same hs
  clear h1 hp ht hs
  go_wp2_with fail
  refine (rabove_any _ _ _ _ _ i2 i1).mono ?_
  rintro e w4 ⟨rfl, hs⟩
  rw [b4]
  replace q0 := (hs.cell _).trans q0
  replace q1 := (hs.cell _).trans q1
  replace q2 := (hs.cell _).trans q2
  replace q3 := (hs.cell _).trans q3
  replace hb := gr_sm hb hs
  replace hsz : w.heap.size < w4.heap.size := by rw [hs.size]; exact hsz
  replace i1 := i1.same hs
  replace i2 := i2.same hs
  replace i3 := i3.same hs
  clear hs
  go_wp2_with fail
  refine (rleft_any _ _ _ _ _ i2 i1).mono ?_
  rintro e w5 ⟨rfl, hs⟩
  rw [b5]
  replace q0 := (hs.cell _).trans q0
  replace q1 := (hs.cell _).trans q1
  replace q2 := (hs.cell _).trans q2
  replace q3 := (hs.cell _).trans q3
  replace hb := gr_sm hb hs
  replace hsz : w.heap.size < w5.heap.size := by rw [hs.size]; exact hsz
  replace i1 := i1.same hs
  replace i2 := i2.same hs
  replace i3 := i3.same hs
  clear hs
  go_wp2_with fail
  refine (rcopy_any xs _ _ i1).mono ?_
  rintro e w3 ⟨v', rfl, ho, hbk⟩
  go_wp2
  go_ret2
  exact Mv.some_ HM.out (ho.mono hb.size) (gr_tr hb hbk)

set_option maxRecDepth 100000 in
set_option maxHeartbeats 4000000 in
theorem rmove_k3zh0 (xs q to : List Int) (pos : Int) (v1 v2 : Value) (w : World) (h1 : Ints w v1 xs) (h2 : OpAt w v2 3 q to pos) (s1 : smallB xs = true) (s2 : smallB q = true) (s3 : smallB to = true) (p1 : ¬ pos < 0) (p2 : ¬ 1048576 < pos) (hz : q.getD (q.length - 1) 0 = 0) (hq : 0 < q.length) (hh : standsN q xs = 0)
    (hm : moveP xs 3 q to pos = none) :
    Calls Try.prog 41 #[v1, v2] w (Mv (moveP xs 3 q to pos) w) := by
  obtain ⟨pv, tv, r4, r5, r6, r7, r8, r9, r10, r11, r12, r13, r14, r15, r16, r17, r18, r19, r20, rfl, hp, ht⟩ := h2
  have HM := Lib.hid hm
  obtain ⟨a1, c1, rfl⟩ := h1.slice
  have b1 := h1.len
  obtain ⟨b3, b4, b5⟩ := (stands_bools (p := xs) hq).2.2.2 hh
  have HH := Lib.hid hh
  obtain ⟨n, hn⟩ : ∃ n, q.length = n + 1 := ⟨q.length - 1, by omega⟩
  have HN := Lib.hid hn
  obtain ⟨a2, c2, rfl⟩ := hp.slice_len hn
  obtain ⟨a3, n3, c3, rfl⟩ := ht.slice3
  have b2 := hp.len
  rw [hn] at b2
  have f0 : ((n : Int) + 1 == 0) = false := by rw [beq_eq_false_iff_ne]; omega
  have f0' : (((n + 1 : Nat) : Int) == 0) = false := by rw [beq_eq_false_iff_ne]; omega
  have SS1 := Lib.hid s1
  have PB : Hid (0 ≤ pos ∧ pos ≤ 1048576) := ⟨by omega, by omega⟩
  have BY : Hid (∀ d : Int, -1 ≤ d ∧ d ≤ 1 → -9223372036854775808 ≤ xs.getD (q.length - 1) 0 + d ∧ xs.getD (q.length - 1) 0 + d ≤ 9223372036854775807) := fun d hd => by have := small_get SS1.out (q.length - 1); omega
  have HQ := Lib.hid hq
  have hz2 : (q.getD n 0 == 0) = true := by rw [beq_iff_eq]; rw [hn] at hz; exact hz
  clear hz
  clear hm hh hn hq
  go_enter Try.func41, Try.ntmps41
  go_wp2_with fail
  refine (rsmall_any _ _ _ (h1.alloc _)).mono ?_
  rintro e w1 ⟨rfl, rfl⟩
  rw [s1]
  go_wp2_with fail
  refine (rsmall_any _ _ _ (hp.alloc _)).mono ?_
  rintro e w1 ⟨rfl, rfl⟩
  rw [s2]
  go_wp2_with fail
  refine (rsmall_any _ _ _ (ht.alloc _)).mono ?_
  rintro e w1 ⟨rfl, rfl⟩
  rw [s3]
  go_wp2_with fail
  refine (rsame_any _ _ _ _ _ (hp.alloc _) (h1.alloc _)).mono ?_
  rintro e w2 ⟨rfl, hs⟩
  rw [b3]
  have q0 := (hs.cell _).trans (box_get1 w _ _ 0 (.int .i64 3) rfl)
  have q1 := (hs.cell _).trans (box_get1 w _ _ 1 (.slice a2 (n + 1) c2) rfl)
  have q2 := (hs.cell _).trans (box_get1 w _ _ 2 (.slice a3 n3 c3) rfl)
  have q3 := (hs.cell _).trans (box_get1 w _ _ 3 (.int .i64 pos) rfl)
  have hb := gr_sm (gr_al (gr_refl w) _) hs
  have hsz : w.heap.size < w2.heap.size := by rw [hs.size]; simp
  have i1 := (h1.alloc _).same hs
  have i2 := (hp.alloc _).same hs
  have i3 := (ht.alloc _).same hs
  clear h1 hp ht hs
  go_wp2_with fail
  refine (rabove_any _ _ _ _ _ i2 i1).mono ?_
  rintro e w4 ⟨rfl, hs⟩
  rw [b4]
  replace q0 := (hs.cell _).trans q0
  replace q1 := (hs.cell _).trans q1
  replace q2 := (hs.cell _).trans q2
  replace q3 := (hs.cell _).trans q3
  replace hb := gr_sm hb hs
  replace hsz : w.heap.size < w4.heap.size := by rw [hs.size]; exact hsz
  replace i1 := i1.same hs
  replace i2 := i2.same hs
  replace i3 := i3.same hs
  clear hs
  go_wp2_with fail
  refine (rleft_any _ _ _ _ _ i2 i1).mono ?_
  rintro e w5 ⟨rfl, hs⟩
  rw [b5]
  replace q0 := (hs.cell _).trans q0
  replace q1 := (hs.cell _).trans q1
  replace q2 := (hs.cell _).trans q2
  replace q3 := (hs.cell _).trans q3
  replace hb := gr_sm hb hs
  replace hsz : w.heap.size < w5.heap.size := by rw [hs.size]; exact hsz
  replace i1 := i1.same hs
  replace i2 := i2.same hs
  replace i3 := i3.same hs
  clear hs
  obtain ⟨a', c', he, _, _, o2⟩ := i2.open_
  simp only [Value.slice.injEq] at he
  obtain ⟨rfl, hx, rfl⟩ := he
  clear hx
  obtain ⟨pb, pf, rfl, hc⟩ := o2 (by have := HN.out; omega)
  have qc : w5.cell? ⟨pb, pf + n, none⟩ = some (.int .i64 (q.getD n 0)) := hc n (by have := HN.out; omega)
  clear hc o2
  generalize hzg : q.getD n 0 = z at *
  clear hzg
  go_wp2
  go_ret2
  exact Mv.none_ HM.out hb

set_option maxRecDepth 100000 in
set_option maxHeartbeats 4000000 in
theorem rmove_k3zh1 (xs q to : List Int) (pos : Int) (v1 v2 : Value) (w : World) (h1 : Ints w v1 xs) (h2 : OpAt w v2 3 q to pos) (s1 : smallB xs = true) (s2 : smallB q = true) (s3 : smallB to = true) (p1 : ¬ pos < 0) (p2 : ¬ 1048576 < pos) (hz : q.getD (q.length - 1) 0 = 0) (hq : 0 < q.length) (hh : standsN q xs = 1)
    (hm : moveP xs 3 q to pos = none) :
    Calls Try.prog 41 #[v1, v2] w (Mv (moveP xs 3 q to pos) w) := by
  obtain ⟨pv, tv, r4, r5, r6, r7, r8, r9, r10, r11, r12, r13, r14, r15, r16, r17, r18, r19, r20, rfl, hp, ht⟩ := h2
  have HM := Lib.hid hm
  obtain ⟨a1, c1, rfl⟩ := h1.slice
  have b1 := h1.len
  obtain ⟨b3, b4, b5⟩ := (stands_bools (p := xs) hq).2.2.1 hh
  have HH := Lib.hid hh
  obtain ⟨n, hn⟩ : ∃ n, q.length = n + 1 := ⟨q.length - 1, by omega⟩
  have HN := Lib.hid hn
  obtain ⟨a2, c2, rfl⟩ := hp.slice_len hn
  obtain ⟨a3, n3, c3, rfl⟩ := ht.slice3
  have b2 := hp.len
  rw [hn] at b2
  have f0 : ((n : Int) + 1 == 0) = false := by rw [beq_eq_false_iff_ne]; omega
  have f0' : (((n + 1 : Nat) : Int) == 0) = false := by rw [beq_eq_false_iff_ne]; omega
  have SS1 := Lib.hid s1
  have PB : Hid (0 ≤ pos ∧ pos ≤ 1048576) := ⟨by omega, by omega⟩
  have BY : Hid (∀ d : Int, -1 ≤ d ∧ d ≤ 1 → -9223372036854775808 ≤ xs.getD (q.length - 1) 0 + d ∧ xs.getD (q.length - 1) 0 + d ≤ 9223372036854775807) := fun d hd => by have := small_get SS1.out (q.length - 1); omega
  have HQ := Lib.hid hq
  have l1 : n + 1 ≤ xs.length := by have := (stands_len (q := q) (p := xs) (by rw [hh]; decide)).2; omega
  have HQL : Hid (q.length ≤ xs.length) := by show _ ≤ _; omega
  have hz2 : (q.getD n 0 == 0) = true := by rw [beq_iff_eq]; rw [hn] at hz; exact hz
  clear hz
  clear hm hh hn hq
  go_enter Try.func41, Try.ntmps41
  go_wp2_with fail
  refine (rsmall_any _ _ _ (h1.alloc _)).mono ?_
  rintro e w1 ⟨rfl, rfl⟩
  rw [s1]
  go_wp2_with fail
  refine (rsmall_any _ _ _ (hp.alloc _)).mono ?_
  rintro e w1 ⟨rfl, rfl⟩
  rw [s2]
  go_wp2_with fail
  refine (rsmall_any _ _ _ (ht.alloc _)).mono ?_
  rintro e w1 ⟨rfl, rfl⟩
  rw [s3]
  go_wp2_with fail
  refine (rsame_any _ _ _ _ _ (hp.alloc _) (h1.alloc _)).mono ?_
  rintro e w2 ⟨rfl, hs⟩
  rw [b3]
  have q0 := (hs.cell _).trans (box_get1 w _ _ 0 (.int .i64 3) rfl)
  have q1 := (hs.cell _).trans (box_get1 w _ _ 1 (.slice a2 (n + 1) c2) rfl)
  have q2 := (hs.cell _).trans (box_get1 w _ _ 2 (.slice a3 n3 c3) rfl)
  have q3 := (hs.cell _).trans (box_get1 w _ _ 3 (.int .i64 pos) rfl)
  have hb := gr_sm (gr_al (gr_refl w) _) hs
  have hsz : w.heap.size < w2.heap.size := by rw [hs.size]; simp
  have i1 := (h1.alloc _).same hs
  have i2 := (hp.alloc _).same hs
  have i3 := (ht.alloc _).same hs
  clear h1 hp ht hs
  go_wp2_with fail
  refine (rabove_any _ _ _ _ _ i2 i1).mono ?_
  rintro e w4 ⟨rfl, hs⟩
  rw [b4]
  replace q0 := (hs.cell _).trans q0
  replace q1 := (hs.cell _).trans q1
  replace q2 := (hs.cell _).trans q2
  replace q3 := (hs.cell _).trans q3
  replace hb := gr_sm hb hs
  replace hsz : w.heap.size < w4.heap.size := by rw [hs.size]; exact hsz
  replace i1 := i1.same hs
  replace i2 := i2.same hs
  replace i3 := i3.same hs
  clear hs
  go_wp2_with fail
  refine (rleft_any _ _ _ _ _ i2 i1).mono ?_
  rintro e w5 ⟨rfl, hs⟩
  rw [b5]
  replace q0 := (hs.cell _).trans q0
  replace q1 := (hs.cell _).trans q1
  replace q2 := (hs.cell _).trans q2
  replace q3 := (hs.cell _).trans q3
  replace hb := gr_sm hb hs
  replace hsz : w.heap.size < w5.heap.size := by rw [hs.size]; exact hsz
  replace i1 := i1.same hs
  replace i2 := i2.same hs
  replace i3 := i3.same hs
  clear hs
  obtain ⟨a', c', he, _, _, o2⟩ := i2.open_
  simp only [Value.slice.injEq] at he
  obtain ⟨rfl, hx, rfl⟩ := he
  clear hx
  obtain ⟨pb, pf, rfl, hc⟩ := o2 (by have := HN.out; omega)
  have qc : w5.cell? ⟨pb, pf + n, none⟩ = some (.int .i64 (q.getD n 0)) := hc n (by have := HN.out; omega)
  clear hc o2
  generalize hzg : q.getD n 0 = z at *
  clear hzg
  go_wp2
  go_ret2
  exact Mv.none_ HM.out hb

set_option maxRecDepth 100000 in
set_option maxHeartbeats 4000000 in
theorem rmove_k3zh2 (xs q to : List Int) (pos : Int) (v1 v2 : Value) (w : World) (h1 : Ints w v1 xs) (h2 : OpAt w v2 3 q to pos) (s1 : smallB xs = true) (s2 : smallB q = true) (s3 : smallB to = true) (p1 : ¬ pos < 0) (p2 : ¬ 1048576 < pos) (hz : q.getD (q.length - 1) 0 = 0) (hq : 0 < q.length) (hh : standsN q xs = 2)
    (hm : moveP xs 3 q to pos = none) :
    Calls Try.prog 41 #[v1, v2] w (Mv (moveP xs 3 q to pos) w) := by
  obtain ⟨pv, tv, r4, r5, r6, r7, r8, r9, r10, r11, r12, r13, r14, r15, r16, r17, r18, r19, r20, rfl, hp, ht⟩ := h2
  have HM := Lib.hid hm
  obtain ⟨a1, c1, rfl⟩ := h1.slice
  have b1 := h1.len
  obtain ⟨b3, b4, b5⟩ := (stands_bools (p := xs) hq).2.1 hh
  have HH := Lib.hid hh
  obtain ⟨n, hn⟩ : ∃ n, q.length = n + 1 := ⟨q.length - 1, by omega⟩
  have HN := Lib.hid hn
  obtain ⟨a2, c2, rfl⟩ := hp.slice_len hn
  obtain ⟨a3, n3, c3, rfl⟩ := ht.slice3
  have b2 := hp.len
  rw [hn] at b2
  have f0 : ((n : Int) + 1 == 0) = false := by rw [beq_eq_false_iff_ne]; omega
  have f0' : (((n + 1 : Nat) : Int) == 0) = false := by rw [beq_eq_false_iff_ne]; omega
  have SS1 := Lib.hid s1
  have PB : Hid (0 ≤ pos ∧ pos ≤ 1048576) := ⟨by omega, by omega⟩
  have BY : Hid (∀ d : Int, -1 ≤ d ∧ d ≤ 1 → -9223372036854775808 ≤ xs.getD (q.length - 1) 0 + d ∧ xs.getD (q.length - 1) 0 + d ≤ 9223372036854775807) := fun d hd => by have := small_get SS1.out (q.length - 1); omega
  have HQ := Lib.hid hq
  have l1 : n + 1 ≤ xs.length := by have := (stands_len (q := q) (p := xs) (by rw [hh]; decide)).2; omega
  have HQL : Hid (q.length ≤ xs.length) := by show _ ≤ _; omega
  have l2 : n + 1 < xs.length := by have := stands_above_lt hh; omega
  have hz2 : (q.getD n 0 == 0) = true := by rw [beq_iff_eq]; rw [hn] at hz; exact hz
  clear hz
  clear hm hh hn hq
  go_enter Try.func41, Try.ntmps41
  go_wp2_with fail
  refine (rsmall_any _ _ _ (h1.alloc _)).mono ?_
  rintro e w1 ⟨rfl, rfl⟩
  rw [s1]
  go_wp2_with fail
  refine (rsmall_any _ _ _ (hp.alloc _)).mono ?_
  rintro e w1 ⟨rfl, rfl⟩
  rw [s2]
  go_wp2_with fail
  refine (rsmall_any _ _ _ (ht.alloc _)).mono ?_
  rintro e w1 ⟨rfl, rfl⟩
  rw [s3]
  go_wp2_with fail
  refine (rsame_any _ _ _ _ _ (hp.alloc _) (h1.alloc _)).mono ?_
  rintro e w2 ⟨rfl, hs⟩
  rw [b3]
  have q0 := (hs.cell _).trans (box_get1 w _ _ 0 (.int .i64 3) rfl)
  have q1 := (hs.cell _).trans (box_get1 w _ _ 1 (.slice a2 (n + 1) c2) rfl)
  have q2 := (hs.cell _).trans (box_get1 w _ _ 2 (.slice a3 n3 c3) rfl)
  have q3 := (hs.cell _).trans (box_get1 w _ _ 3 (.int .i64 pos) rfl)
  have hb := gr_sm (gr_al (gr_refl w) _) hs
  have hsz : w.heap.size < w2.heap.size := by rw [hs.size]; simp
  have i1 := (h1.alloc _).same hs
  have i2 := (hp.alloc _).same hs
  have i3 := (ht.alloc _).same hs
  clear h1 hp ht hs
  go_wp2_with fail
  refine (rabove_any _ _ _ _ _ i2 i1).mono ?_
  rintro e w4 ⟨rfl, hs⟩
  rw [b4]
  replace q0 := (hs.cell _).trans q0
  replace q1 := (hs.cell _).trans q1
  replace q2 := (hs.cell _).trans q2
  replace q3 := (hs.cell _).trans q3
  replace hb := gr_sm hb hs
  replace hsz : w.heap.size < w4.heap.size := by rw [hs.size]; exact hsz
  replace i1 := i1.same hs
  replace i2 := i2.same hs
  replace i3 := i3.same hs
  clear hs
  go_wp2_with fail
  refine (rleft_any _ _ _ _ _ i2 i1).mono ?_
  rintro e w5 ⟨rfl, hs⟩
  rw [b5]
  replace q0 := (hs.cell _).trans q0
  replace q1 := (hs.cell _).trans q1
  replace q2 := (hs.cell _).trans q2
  replace q3 := (hs.cell _).trans q3
  replace hb := gr_sm hb hs
  replace hsz : w.heap.size < w5.heap.size := by rw [hs.size]; exact hsz
  replace i1 := i1.same hs
  replace i2 := i2.same hs
  replace i3 := i3.same hs
  clear hs
  obtain ⟨a', c', he, _, _, o2⟩ := i2.open_
  simp only [Value.slice.injEq] at he
  obtain ⟨rfl, hx, rfl⟩ := he
  clear hx
  obtain ⟨pb, pf, rfl, hc⟩ := o2 (by have := HN.out; omega)
  have qc : w5.cell? ⟨pb, pf + n, none⟩ = some (.int .i64 (q.getD n 0)) := hc n (by have := HN.out; omega)
  clear hc o2
  generalize hzg : q.getD n 0 = z at *
  clear hzg
  go_wp2
  go_ret2
  exact Mv.none_ HM.out hb

set_option maxRecDepth 100000 in
set_option maxHeartbeats 4000000 in
theorem rmove_k3zh3 (xs q to : List Int) (pos : Int) (v1 v2 : Value) (w : World) (h1 : Ints w v1 xs) (h2 : OpAt w v2 3 q to pos) (s1 : smallB xs = true) (s2 : smallB q = true) (s3 : smallB to = true) (p1 : ¬ pos < 0) (p2 : ¬ 1048576 < pos) (hz : q.getD (q.length - 1) 0 = 0) (hq : 0 < q.length) (hh : standsN q xs = 3)
    (hm : moveP xs 3 q to pos = none) :
    Calls Try.prog 41 #[v1, v2] w (Mv (moveP xs 3 q to pos) w) := by
  obtain ⟨pv, tv, r4, r5, r6, r7, r8, r9, r10, r11, r12, r13, r14, r15, r16, r17, r18, r19, r20, rfl, hp, ht⟩ := h2
  have HM := Lib.hid hm
  obtain ⟨a1, c1, rfl⟩ := h1.slice
  have b1 := h1.len
  obtain ⟨b3, b4, b5⟩ := (stands_bools (p := xs) hq).1 hh
  have HH := Lib.hid hh
  obtain ⟨n, hn⟩ : ∃ n, q.length = n + 1 := ⟨q.length - 1, by omega⟩
  have HN := Lib.hid hn
  obtain ⟨a2, c2, rfl⟩ := hp.slice_len hn
  obtain ⟨a3, n3, c3, rfl⟩ := ht.slice3
  have b2 := hp.len
  rw [hn] at b2
  have f0 : ((n : Int) + 1 == 0) = false := by rw [beq_eq_false_iff_ne]; omega
  have f0' : (((n + 1 : Nat) : Int) == 0) = false := by rw [beq_eq_false_iff_ne]; omega
  have SS1 := Lib.hid s1
  have PB : Hid (0 ≤ pos ∧ pos ≤ 1048576) := ⟨by omega, by omega⟩
  have BY : Hid (∀ d : Int, -1 ≤ d ∧ d ≤ 1 → -9223372036854775808 ≤ xs.getD (q.length - 1) 0 + d ∧ xs.getD (q.length - 1) 0 + d ≤ 9223372036854775807) := fun d hd => by have := small_get SS1.out (q.length - 1); omega
  have HQ := Lib.hid hq
  have l1 : n + 1 ≤ xs.length := by have := (stands_len (q := q) (p := xs) (by rw [hh]; decide)).2; omega
  have HQL : Hid (q.length ≤ xs.length) := by show _ ≤ _; omega
  have hz2 : (q.getD n 0 == 0) = true := by rw [beq_iff_eq]; rw [hn] at hz; exact hz
  clear hz
  clear hm hh hn hq
  go_enter Try.func41, Try.ntmps41
  go_wp2_with fail
  refine (rsmall_any _ _ _ (h1.alloc _)).mono ?_
  rintro e w1 ⟨rfl, rfl⟩
  rw [s1]
  go_wp2_with fail
  refine (rsmall_any _ _ _ (hp.alloc _)).mono ?_
  rintro e w1 ⟨rfl, rfl⟩
  rw [s2]
  go_wp2_with fail
  refine (rsmall_any _ _ _ (ht.alloc _)).mono ?_
  rintro e w1 ⟨rfl, rfl⟩
  rw [s3]
  go_wp2_with fail
  refine (rsame_any _ _ _ _ _ (hp.alloc _) (h1.alloc _)).mono ?_
  rintro e w2 ⟨rfl, hs⟩
  rw [b3]
  have q0 := (hs.cell _).trans (box_get1 w _ _ 0 (.int .i64 3) rfl)
  have q1 := (hs.cell _).trans (box_get1 w _ _ 1 (.slice a2 (n + 1) c2) rfl)
  have q2 := (hs.cell _).trans (box_get1 w _ _ 2 (.slice a3 n3 c3) rfl)
  have q3 := (hs.cell _).trans (box_get1 w _ _ 3 (.int .i64 pos) rfl)
  have hb := gr_sm (gr_al (gr_refl w) _) hs
  have hsz : w.heap.size < w2.heap.size := by rw [hs.size]; simp
  have i1 := (h1.alloc _).same hs
  have i2 := (hp.alloc _).same hs
  have i3 := (ht.alloc _).same hs
  clear h1 hp ht hs
  go_wp2_with fail
  refine (rabove_any _ _ _ _ _ i2 i1).mono ?_
  rintro e w4 ⟨rfl, hs⟩
  rw [b4]
  replace q0 := (hs.cell _).trans q0
  replace q1 := (hs.cell _).trans q1
  replace q2 := (hs.cell _).trans q2
  replace q3 := (hs.cell _).trans q3
  replace hb := gr_sm hb hs
  replace hsz : w.heap.size < w4.heap.size := by rw [hs.size]; exact hsz
  replace i1 := i1.same hs
  replace i2 := i2.same hs
  replace i3 := i3.same hs
  clear hs
  go_wp2_with fail
  refine (rleft_any _ _ _ _ _ i2 i1).mono ?_
  rintro e w5 ⟨rfl, hs⟩
  rw [b5]
  replace q0 := (hs.cell _).trans q0
  replace q1 := (hs.cell _).trans q1
  replace q2 := (hs.cell _).trans q2
  replace q3 := (hs.cell _).trans q3
  replace hb := gr_sm hb hs
  replace hsz : w.heap.size < w5.heap.size := by rw [hs.size]; exact hsz
  replace i1 := i1.same hs
  replace i2 := i2.same hs
  replace i3 := i3.same hs
  clear hs
  obtain ⟨a', c', he, _, _, o2⟩ := i2.open_
  simp only [Value.slice.injEq] at he
  obtain ⟨rfl, hx, rfl⟩ := he
  clear hx
  obtain ⟨pb, pf, rfl, hc⟩ := o2 (by have := HN.out; omega)
  have qc : w5.cell? ⟨pb, pf + n, none⟩ = some (.int .i64 (q.getD n 0)) := hc n (by have := HN.out; omega)
  clear hc o2
  generalize hzg : q.getD n 0 = z at *
  clear hzg
  go_wp2
  go_ret2
  exact Mv.none_ HM.out hb

set_option maxRecDepth 100000 in
set_option maxHeartbeats 4000000 in
theorem rmove_k3h1 (xs q to : List Int) (pos : Int) (v1 v2 : Value) (w : World) (h1 : Ints w v1 xs) (h2 : OpAt w v2 3 q to pos) (s1 : smallB xs = true) (s2 : smallB q = true) (s3 : smallB to = true) (p1 : ¬ pos < 0) (p2 : ¬ 1048576 < pos) (hz : ¬ q.getD (q.length - 1) 0 = 0) (hq : 0 < q.length) (hh : standsN q xs = 1)
    (hm : moveP xs 3 q to pos = some (shiftL xs (q.length - 1) (-1))) :
    Calls Try.prog 41 #[v1, v2] w (Mv (moveP xs 3 q to pos) w) := by
  obtain ⟨pv, tv, r4, r5, r6, r7, r8, r9, r10, r11, r12, r13, r14, r15, r16, r17, r18, r19, r20, rfl, hp, ht⟩ := h2
  have HM := Lib.hid hm
  obtain ⟨a1, c1, rfl⟩ := h1.slice
  have b1 := h1.len
  obtain ⟨b3, b4, b5⟩ := (stands_bools (p := xs) hq).2.2.1 hh
  have HH := Lib.hid hh
  obtain ⟨n, hn⟩ : ∃ n, q.length = n + 1 := ⟨q.length - 1, by omega⟩
  have HN := Lib.hid hn
  obtain ⟨a2, c2, rfl⟩ := hp.slice_len hn
  obtain ⟨a3, n3, c3, rfl⟩ := ht.slice3
  have b2 := hp.len
  rw [hn] at b2
  have f0 : ((n : Int) + 1 == 0) = false := by rw [beq_eq_false_iff_ne]; omega
  have f0' : (((n + 1 : Nat) : Int) == 0) = false := by rw [beq_eq_false_iff_ne]; omega
  have SS1 := Lib.hid s1
  have PB : Hid (0 ≤ pos ∧ pos ≤ 1048576) := ⟨by omega, by omega⟩
  have BY : Hid (∀ d : Int, -1 ≤ d ∧ d ≤ 1 → -9223372036854775808 ≤ xs.getD (q.length - 1) 0 + d ∧ xs.getD (q.length - 1) 0 + d ≤ 9223372036854775807) := fun d hd => by have := small_get SS1.out (q.length - 1); omega
  have HQ := Lib.hid hq
  have l1 : n + 1 ≤ xs.length := by have := (stands_len (q := q) (p := xs) (by rw [hh]; decide)).2; omega
  have HQL : Hid (q.length ≤ xs.length) := by show _ ≤ _; omega
  have hz2 : (q.getD n 0 == 0) = false := by rw [beq_eq_false_iff_ne]; rw [hn] at hz; exact hz
  clear hz
  clear hm hh hn hq
  go_enter Try.func41, Try.ntmps41
  go_wp2_with fail
  refine (rsmall_any _ _ _ (h1.alloc _)).mono ?_
  rintro e w1 ⟨rfl, rfl⟩
  rw [s1]
  go_wp2_with fail
  refine (rsmall_any _ _ _ (hp.alloc _)).mono ?_
  rintro e w1 ⟨rfl, rfl⟩
  rw [s2]
  go_wp2_with fail
  refine (rsmall_any _ _ _ (ht.alloc _)).mono ?_
  rintro e w1 ⟨rfl, rfl⟩
  rw [s3]
  go_wp2_with fail
  refine (rsame_any _ _ _ _ _ (hp.alloc _) (h1.alloc _)).mono ?_
  rintro e w2 ⟨rfl, hs⟩
  rw [b3]
  have q0 := (hs.cell _).trans (box_get1 w _ _ 0 (.int .i64 3) rfl)
  have q1 := (hs.cell _).trans (box_get1 w _ _ 1 (.slice a2 (n + 1) c2) rfl)
  have q2 := (hs.cell _).trans (box_get1 w _ _ 2 (.slice a3 n3 c3) rfl)
  have q3 := (hs.cell _).trans (box_get1 w _ _ 3 (.int .i64 pos) rfl)
  have hb := gr_sm (gr_al (gr_refl w) _) hs
  have hsz : w.heap.size < w2.heap.size := by rw [hs.size]; simp
  have i1 := (h1.alloc _).same hs
  have i2 := (hp.alloc _).same hs
  have i3 := (ht.alloc _).same hs
  clear h1 hp ht hs
  go_wp2_with fail
  refine (rabove_any _ _ _ _ _ i2 i1).mono ?_
  rintro e w4 ⟨rfl, hs⟩
  rw [b4]
  replace q0 := (hs.cell _).trans q0
  replace q1 := (hs.cell _).trans q1
  replace q2 := (hs.cell _).trans q2
  replace q3 := (hs.cell _).trans q3
  replace hb := gr_sm hb hs
  replace hsz : w.heap.size < w4.heap.size := by rw [hs.size]; exact hsz
  replace i1 := i1.same hs
  replace i2 := i2.same hs
  replace i3 := i3.same hs
  clear hs
  go_wp2_with fail
  refine (rleft_any _ _ _ _ _ i2 i1).mono ?_
  rintro e w5 ⟨rfl, hs⟩
  rw [b5]
  replace q0 := (hs.cell _).trans q0
  replace q1 := (hs.cell _).trans q1
  replace q2 := (hs.cell _).trans q2
  replace q3 := (hs.cell _).trans q3
  replace hb := gr_sm hb hs
  replace hsz : w.heap.size < w5.heap.size := by rw [hs.size]; exact hsz
  replace i1 := i1.same hs
  replace i2 := i2.same hs
  replace i3 := i3.same hs
  clear hs
  obtain ⟨a', c', he, _, _, o2⟩ := i2.open_
  simp only [Value.slice.injEq] at he
  obtain ⟨rfl, hx, rfl⟩ := he
  clear hx
  obtain ⟨pb, pf, rfl, hc⟩ := o2 (by have := HN.out; omega)
  have qc : w5.cell? ⟨pb, pf + n, none⟩ = some (.int .i64 (q.getD n 0)) := hc n (by have := HN.out; omega)
  clear hc o2
  generalize hzg : q.getD n 0 = z at *
  clear hzg
  go_wp2_with fail
  refine (rby_any xs q _ _ (-1) _ i1 i2 HQ.out HQL.out (BY.out (-1) (by omega))).mono ?_
  rintro e w3 ⟨v', rfl, ho, hbk⟩
  go_wp2
  go_ret2
  exact Mv.some_ HM.out (ho.mono hb.size) (gr_tr hb hbk)

set_option maxRecDepth 100000 in
set_option maxHeartbeats 4000000 in
theorem rmove_k3h3 (xs q to : List Int) (pos : Int) (v1 v2 : Value) (w : World) (h1 : Ints w v1 xs) (h2 : OpAt w v2 3 q to pos) (s1 : smallB xs = true) (s2 : smallB q = true) (s3 : smallB to = true) (p1 : ¬ pos < 0) (p2 : ¬ 1048576 < pos) (hz : ¬ q.getD (q.length - 1) 0 = 0) (hq : 0 < q.length) (hh : standsN q xs = 3)
    (hm : moveP xs 3 q to pos = some (shiftL xs (q.length - 1) (-1))) :
    Calls Try.prog 41 #[v1, v2] w (Mv (moveP xs 3 q to pos) w) := by
  obtain ⟨pv, tv, r4, r5, r6, r7, r8, r9, r10, r11, r12, r13, r14, r15, r16, r17, r18, r19, r20, rfl, hp, ht⟩ := h2
  have HM := Lib.hid hm
  obtain ⟨a1, c1, rfl⟩ := h1.slice
  have b1 := h1.len
  obtain ⟨b3, b4, b5⟩ := (stands_bools (p := xs) hq).1 hh
  have HH := Lib.hid hh
  obtain ⟨n, hn⟩ : ∃ n, q.length = n + 1 := ⟨q.length - 1, by omega⟩
  have HN := Lib.hid hn
  obtain ⟨a2, c2, rfl⟩ := hp.slice_len hn
  obtain ⟨a3, n3, c3, rfl⟩ := ht.slice3
  have b2 := hp.len
  rw [hn] at b2
  have f0 : ((n : Int) + 1 == 0) = false := by rw [beq_eq_false_iff_ne]; omega
  have f0' : (((n + 1 : Nat) : Int) == 0) = false := by rw [beq_eq_false_iff_ne]; omega
  have SS1 := Lib.hid s1
  have PB : Hid (0 ≤ pos ∧ pos ≤ 1048576) := ⟨by omega, by omega⟩
  have BY : Hid (∀ d : Int, -1 ≤ d ∧ d ≤ 1 → -9223372036854775808 ≤ xs.getD (q.length - 1) 0 + d ∧ xs.getD (q.length - 1) 0 + d ≤ 9223372036854775807) := fun d hd => by have := small_get SS1.out (q.length - 1); omega
  have HQ := Lib.hid hq
  have l1 : n + 1 ≤ xs.length := by have := (stands_len (q := q) (p := xs) (by rw [hh]; decide)).2; omega
  have HQL : Hid (q.length ≤ xs.length) := by show _ ≤ _; omega
  have hz2 : (q.getD n 0 == 0) = false := by rw [beq_eq_false_iff_ne]; rw [hn] at hz; exact hz
  clear hz
  clear hm hh hn hq
  go_enter Try.func41, Try.ntmps41
  go_wp2_with fail
  refine (rsmall_any _ _ _ (h1.alloc _)).mono ?_
  rintro e w1 ⟨rfl, rfl⟩
  rw [s1]
  go_wp2_with fail
  refine (rsmall_any _ _ _ (hp.alloc _)).mono ?_
  rintro e w1 ⟨rfl, rfl⟩
  rw [s2]
  go_wp2_with fail
  refine (rsmall_any _ _ _ (ht.alloc _)).mono ?_
  rintro e w1 ⟨rfl, rfl⟩
  rw [s3]
  go_wp2_with fail
  refine (rsame_any _ _ _ _ _ (hp.alloc _) (h1.alloc _)).mono ?_
  rintro e w2 ⟨rfl, hs⟩
  rw [b3]
  have q0 := (hs.cell _).trans (box_get1 w _ _ 0 (.int .i64 3) rfl)
  have q1 := (hs.cell _).trans (box_get1 w _ _ 1 (.slice a2 (n + 1) c2) rfl)
  have q2 := (hs.cell _).trans (box_get1 w _ _ 2 (.slice a3 n3 c3) rfl)
  have q3 := (hs.cell _).trans (box_get1 w _ _ 3 (.int .i64 pos) rfl)
  have hb := gr_sm (gr_al (gr_refl w) _) hs
  have hsz : w.heap.size < w2.heap.size := by rw [hs.size]; simp
  have i1 := (h1.alloc _).same hs
  have i2 := (hp.alloc _).same hs
  have i3 := (ht.alloc _).same hs
  clear h1 hp ht hs
  go_wp2_with fail
  refine (rabove_any _ _ _ _ _ i2 i1).mono ?_
  rintro e w4 ⟨rfl, hs⟩
  rw [b4]
  replace q0 := (hs.cell _).trans q0
  replace q1 := (hs.cell _).trans q1
  replace q2 := (hs.cell _).trans q2
  replace q3 := (hs.cell _).trans q3
  replace hb := gr_sm hb hs
  replace hsz : w.heap.size < w4.heap.size := by rw [hs.size]; exact hsz
  replace i1 := i1.same hs
  replace i2 := i2.same hs
  replace i3 := i3.same hs
  clear hs
  go_wp2_with fail
  refine (rleft_any _ _ _ _ _ i2 i1).mono ?_
  rintro e w5 ⟨rfl, hs⟩
  rw [b5]
  replace q0 := (hs.cell _).trans q0
  replace q1 := (hs.cell _).trans q1
  replace q2 := (hs.cell _).trans q2
  replace q3 := (hs.cell _).trans q3
  replace hb := gr_sm hb hs
  replace hsz : w.heap.size < w5.heap.size := by rw [hs.size]; exact hsz
  replace i1 := i1.same hs
  replace i2 := i2.same hs
  replace i3 := i3.same hs
  clear hs
  obtain ⟨a', c', he, _, _, o2⟩ := i2.open_
  simp only [Value.slice.injEq] at he
  obtain ⟨rfl, hx, rfl⟩ := he
  clear hx
  obtain ⟨pb, pf, rfl, hc⟩ := o2 (by have := HN.out; omega)
  have qc : w5.cell? ⟨pb, pf + n, none⟩ = some (.int .i64 (q.getD n 0)) := hc n (by have := HN.out; omega)
  clear hc o2
  generalize hzg : q.getD n 0 = z at *
  clear hzg
  go_wp2_with fail
  refine (rby_any xs q _ _ (-1) _ i1 i2 HQ.out HQL.out (BY.out (-1) (by omega))).mono ?_
  rintro e w3 ⟨v', rfl, ho, hbk⟩
  go_wp2
  go_ret2
  exact Mv.some_ HM.out (ho.mono hb.size) (gr_tr hb hbk)

set_option maxRecDepth 100000 in
set_option maxHeartbeats 4000000 in
theorem rmove_k3h0 (xs q to : List Int) (pos : Int) (v1 v2 : Value) (w : World) (h1 : Ints w v1 xs) (h2 : OpAt w v2 3 q to pos) (s1 : smallB xs = true) (s2 : smallB q = true) (s3 : smallB to = true) (p1 : ¬ pos < 0) (p2 : ¬ 1048576 < pos) (hz : ¬ q.getD (q.length - 1) 0 = 0) (hq : 0 < q.length) (hh : standsN q xs = 0)
    (hm : moveP xs 3 q to pos = some xs) :
    Calls Try.prog 41 #[v1, v2] w (Mv (moveP xs 3 q to pos) w) := by
  obtain ⟨pv, tv, r4, r5, r6, r7, r8, r9, r10, r11, r12, r13, r14, r15, r16, r17, r18, r19, r20, rfl, hp, ht⟩ := h2
  have HM := Lib.hid hm
  obtain ⟨a1, c1, rfl⟩ := h1.slice
  have b1 := h1.len
  obtain ⟨b3, b4, b5⟩ := (stands_bools (p := xs) hq).2.2.2 hh
  have HH := Lib.hid hh
  obtain ⟨n, hn⟩ : ∃ n, q.length = n + 1 := ⟨q.length - 1, by omega⟩
  have HN := Lib.hid hn
  obtain ⟨a2, c2, rfl⟩ := hp.slice_len hn
  obtain ⟨a3, n3, c3, rfl⟩ := ht.slice3
  have b2 := hp.len
  rw [hn] at b2
  have f0 : ((n : Int) + 1 == 0) = false := by rw [beq_eq_false_iff_ne]; omega
  have f0' : (((n + 1 : Nat) : Int) == 0) = false := by rw [beq_eq_false_iff_ne]; omega
  have SS1 := Lib.hid s1
  have PB : Hid (0 ≤ pos ∧ pos ≤ 1048576) := ⟨by omega, by omega⟩
  have BY : Hid (∀ d : Int, -1 ≤ d ∧ d ≤ 1 → -9223372036854775808 ≤ xs.getD (q.length - 1) 0 + d ∧ xs.getD (q.length - 1) 0 + d ≤ 9223372036854775807) := fun d hd => by have := small_get SS1.out (q.length - 1); omega
  have HQ := Lib.hid hq
  have hz2 : (q.getD n 0 == 0) = false := by rw [beq_eq_false_iff_ne]; rw [hn] at hz; exact hz
  clear hz
  clear hm hh hn hq
  go_enter Try.func41, Try.ntmps41
  go_wp2_with fail
  refine (rsmall_any _ _ _ (h1.alloc _)).mono ?_
  rintro e w1 ⟨rfl, rfl⟩
  rw [s1]
  go_wp2_with fail
  refine (rsmall_any _ _ _ (hp.alloc _)).mono ?_
  rintro e w1 ⟨rfl, rfl⟩
  rw [s2]
  go_wp2_with fail
  refine (rsmall_any _ _ _ (ht.alloc _)).mono ?_
  rintro e w1 ⟨rfl, rfl⟩
  rw [s3]
  go_wp2_with fail
  refine (rsame_any _ _ _ _ _ (hp.alloc _) (h1.alloc _)).mono ?_
  rintro e w2 ⟨rfl, hs⟩
  rw [b3]
  have q0 := (hs.cell _).trans (box_get1 w _ _ 0 (.int .i64 3) rfl)
  have q1 := (hs.cell _).trans (box_get1 w _ _ 1 (.slice a2 (n + 1) c2) rfl)
  have q2 := (hs.cell _).trans (box_get1 w _ _ 2 (.slice a3 n3 c3) rfl)
  have q3 := (hs.cell _).trans (box_get1 w _ _ 3 (.int .i64 pos) rfl)
  have hb := gr_sm (gr_al (gr_refl w) _) hs
  have hsz : w.heap.size < w2.heap.size := by rw [hs.size]; simp
  have i1 := (h1.alloc _).same hs
  have i2 := (hp.alloc _).same hs
  have i3 := (ht.alloc _).same hs
  clear h1 hp ht hs
  go_wp2_with fail
  refine (rabove_any _ _ _ _ _ i2 i1).mono ?_
  rintro e w4 ⟨rfl, hs⟩
  rw [b4]
  replace q0 := (hs.cell _).trans q0
  replace q1 := (hs.cell _).trans q1
  replace q2 := (hs.cell _).trans q2
  replace q3 := (hs.cell _).trans q3
  replace hb := gr_sm hb hs
  replace hsz : w.heap.size < w4.heap.size := by rw [hs.size]; exact hsz
  replace i1 := i1.same hs
  replace i2 := i2.same hs
  replace i3 := i3.same hs
  clear hs
  go_wp2_with fail
  refine (rleft_any _ _ _ _ _ i2 i1).mono ?_
  rintro e w5 ⟨rfl, hs⟩
  rw [b5]
  replace q0 := (hs.cell _).trans q0
  replace q1 := (hs.cell _).trans q1
  replace q2 := (hs.cell _).trans q2
  replace q3 := (hs.cell _).trans q3
  replace hb := gr_sm hb hs
  replace hsz : w.heap.size < w5.heap.size := by rw [hs.size]; exact hsz
  replace i1 := i1.same hs
  replace i2 := i2.same hs
  replace i3 := i3.same hs
  clear hs
  obtain ⟨a', c', he, _, _, o2⟩ := i2.open_
  simp only [Value.slice.injEq] at he
  obtain ⟨rfl, hx, rfl⟩ := he
  clear hx
  obtain ⟨pb, pf, rfl, hc⟩ := o2 (by have := HN.out; omega)
  have qc : w5.cell? ⟨pb, pf + n, none⟩ = some (.int .i64 (q.getD n 0)) := hc n (by have := HN.out; omega)
  clear hc o2
  generalize hzg : q.getD n 0 = z at *
  clear hzg
  go_wp2_with fail
  refine (rcopy_any xs _ _ i1).mono ?_
  rintro e w3 ⟨v', rfl, ho, hbk⟩
  go_wp2
  go_ret2
  exact Mv.some_ HM.out (ho.mono hb.size) (gr_tr hb hbk)

set_option maxRecDepth 100000 in
set_option maxHeartbeats 4000000 in
theorem rmove_k3h2 (xs q to : List Int) (pos : Int) (v1 v2 : Value) (w : World) (h1 : Ints w v1 xs) (h2 : OpAt w v2 3 q to pos) (s1 : smallB xs = true) (s2 : smallB q = true) (s3 : smallB to = true) (p1 : ¬ pos < 0) (p2 : ¬ 1048576 < pos) (hz : ¬ q.getD (q.length - 1) 0 = 0) (hq : 0 < q.length) (hh : standsN q xs = 2)
    (hm : moveP xs 3 q to pos = some (shiftL (shiftL xs q.length pos) (q.length - 1) (-1))) :
    Calls Try.prog 41 #[v1, v2] w (Mv (moveP xs 3 q to pos) w) := by
  obtain ⟨pv, tv, r4, r5, r6, r7, r8, r9, r10, r11, r12, r13, r14, r15, r16, r17, r18, r19, r20, rfl, hp, ht⟩ := h2
  have HM := Lib.hid hm
  obtain ⟨a1, c1, rfl⟩ := h1.slice
  have b1 := h1.len
  obtain ⟨b3, b4, b5⟩ := (stands_bools (p := xs) hq).2.1 hh
  have HH := Lib.hid hh
  obtain ⟨n, hn⟩ : ∃ n, q.length = n + 1 := ⟨q.length - 1, by omega⟩
  have HN := Lib.hid hn
  obtain ⟨a2, c2, rfl⟩ := hp.slice_len hn
  obtain ⟨a3, n3, c3, rfl⟩ := ht.slice3
  have b2 := hp.len
  rw [hn] at b2
  have f0 : ((n : Int) + 1 == 0) = false := by rw [beq_eq_false_iff_ne]; omega
  have f0' : (((n + 1 : Nat) : Int) == 0) = false := by rw [beq_eq_false_iff_ne]; omega
  have SS1 := Lib.hid s1
  have PB : Hid (0 ≤ pos ∧ pos ≤ 1048576) := ⟨by omega, by omega⟩
  have BY : Hid (∀ d : Int, -1 ≤ d ∧ d ≤ 1 → -9223372036854775808 ≤ xs.getD (q.length - 1) 0 + d ∧ xs.getD (q.length - 1) 0 + d ≤ 9223372036854775807) := fun d hd => by have := small_get SS1.out (q.length - 1); omega
  have HQ := Lib.hid hq
  have l1 : n + 1 ≤ xs.length := by have := (stands_len (q := q) (p := xs) (by rw [hh]; decide)).2; omega
  have HQL : Hid (q.length ≤ xs.length) := by show _ ≤ _; omega
  have l2 : n + 1 < xs.length := by have := stands_above_lt hh; omega
  have hz2 : (q.getD n 0 == 0) = false := by rw [beq_eq_false_iff_ne]; rw [hn] at hz; exact hz
  clear hz
  clear hm hh hn hq
  go_enter Try.func41, Try.ntmps41
  go_wp2_with fail
  refine (rsmall_any _ _ _ (h1.alloc _)).mono ?_
  rintro e w1 ⟨rfl, rfl⟩
  rw [s1]
  go_wp2_with fail
  refine (rsmall_any _ _ _ (hp.alloc _)).mono ?_
  rintro e w1 ⟨rfl, rfl⟩
  rw [s2]
  go_wp2_with fail
  refine (rsmall_any _ _ _ (ht.alloc _)).mono ?_
  rintro e w1 ⟨rfl, rfl⟩
  rw [s3]
  go_wp2_with fail
  refine (rsame_any _ _ _ _ _ (hp.alloc _) (h1.alloc _)).mono ?_
  rintro e w2 ⟨rfl, hs⟩
  rw [b3]
  have q0 := (hs.cell _).trans (box_get1 w _ _ 0 (.int .i64 3) rfl)
  have q1 := (hs.cell _).trans (box_get1 w _ _ 1 (.slice a2 (n + 1) c2) rfl)
  have q2 := (hs.cell _).trans (box_get1 w _ _ 2 (.slice a3 n3 c3) rfl)
  have q3 := (hs.cell _).trans (box_get1 w _ _ 3 (.int .i64 pos) rfl)
  have hb := gr_sm (gr_al (gr_refl w) _) hs
  have hsz : w.heap.size < w2.heap.size := by rw [hs.size]; simp
  have i1 := (h1.alloc _).same hs
  have i2 := (hp.alloc _).same hs
  have i3 := (ht.alloc _).same hs
  clear h1 hp ht hs
  go_wp2_with fail
  refine (rabove_any _ _ _ _ _ i2 i1).mono ?_
  rintro e w4 ⟨rfl, hs⟩
  rw [b4]
  replace q0 := (hs.cell _).trans q0
  replace q1 := (hs.cell _).trans q1
  replace q2 := (hs.cell _).trans q2
  replace q3 := (hs.cell _).trans q3
  replace hb := gr_sm hb hs
  replace hsz : w.heap.size < w4.heap.size := by rw [hs.size]; exact hsz
  replace i1 := i1.same hs
  replace i2 := i2.same hs
  replace i3 := i3.same hs
  clear hs
  go_wp2_with fail
  refine (rleft_any _ _ _ _ _ i2 i1).mono ?_
  rintro e w5 ⟨rfl, hs⟩
  rw [b5]
  replace q0 := (hs.cell _).trans q0
  replace q1 := (hs.cell _).trans q1
  replace q2 := (hs.cell _).trans q2
  replace q3 := (hs.cell _).trans q3
  replace hb := gr_sm hb hs
  replace hsz : w.heap.size < w5.heap.size := by rw [hs.size]; exact hsz
  replace i1 := i1.same hs
  replace i2 := i2.same hs
  replace i3 := i3.same hs
  clear hs
  obtain ⟨a', c', he, _, _, o2⟩ := i2.open_
  simp only [Value.slice.injEq] at he
  obtain ⟨rfl, hx, rfl⟩ := he
  clear hx
  obtain ⟨pb, pf, rfl, hc⟩ := o2 (by have := HN.out; omega)
  have qc : w5.cell? ⟨pb, pf + n, none⟩ = some (.int .i64 (q.getD n 0)) := hc n (by have := HN.out; omega)
  clear hc o2
  generalize hzg : q.getD n 0 = z at *
  clear hzg
  have X1 : Hid ((shiftL xs (q.length - 1) (-1)).getD (n + 1) 0 = xs.getD (n + 1) 0) := by show _ = _; exact shift_get_ne (by have := HN.out; omega)
  have XL : Hid (n + 1 < (shiftL xs (q.length - 1) (-1)).length) := by show _ < _; rw [shift_len]; exact l2
  have XE : Hid (shiftL (shiftL xs q.length (pos)) (q.length - 1) (-1) = (shiftL xs (q.length - 1) (-1)).set (n + 1) (xs.getD (n + 1) 0 + pos)) := by
    show _ = _
    rw [shift_comm (by have := HN.out; omega)]
    have e0 : q.length = n + 1 := HN.out
    rw [show shiftL (shiftL xs (q.length - 1) (-1)) q.length (pos) = (shiftL xs (q.length - 1) (-1)).set q.length ((shiftL xs (q.length - 1) (-1)).getD q.length 0 + (pos)) from rfl, e0, shift_get_ne (by omega)]
  go_wp2_with fail
  refine (rby_any xs q _ _ (-1) _ i1 i2 HQ.out HQL.out (BY.out (-1) (by omega))).mono ?_
  rintro e w3 ⟨v', rfl, ho, hbk⟩
  replace q3 := (hbk.cell (p := ⟨w.heap.size, 3, none⟩) (by first | exact hsz | (simp; omega))).trans q3
  have hz0 : w.heap.size ≤ w5.heap.size := hb.size
  replace hb := gr_tr hb hbk
  clear hbk q0 q1 q2 i1 i2 i3
  obtain ⟨g, cap, rfl, hcap, hg1, hg2, hcell, hfr, hset⟩ := ho.at_ (n + 1) XL.out
  rw [X1.out] at hcell
  obtain ⟨X, hX⟩ : ∃ X, xs.getD (n + 1) 0 = X := ⟨_, rfl⟩
  rw [hX] at XE
  have HX := Lib.hid hX
  rw [hX] at hcell
  have XB : Hid (0 ≤ X ∧ X ≤ 1048576) := by show _ ∧ _; rw [← hX]; exact small_get SS1.out _
  have hwr : IntKind.i64.wrap (X + pos) = X + pos := IntWalk.i64_in _ (by have := XB.out; have := PB.out; omega)
  have xl := XL.out
  generalize shiftL xs (q.length - 1) (-1) = ys at *
  have HS := Lib.hid (hset (X + pos))
  clear hset ho hX
  have gne : ¬ g = w.heap.size := by omega
  go_wp2_with fail
  go_region
  go_wp2
  go_ret2
  exact Mv.some_ HM.out (by rw [XE.out]; exact ((HS.out.1.mono hz0).below (gr_dn (gr_refl _) 1) (Nat.le_refl _))) (gr_dr (hb.trans (HS.out.2.mono hz0)))

set_option maxRecDepth 100000 in
set_option maxHeartbeats 4000000 in
theorem rmove_k4h1 (xs q to : List Int) (pos : Int) (v1 v2 : Value) (w : World) (h1 : Ints w v1 xs) (h2 : OpAt w v2 4 q to pos) (s1 : smallB xs = true) (s2 : smallB q = true) (s3 : smallB to = true) (p1 : ¬ pos < 0) (p2 : ¬ 1048576 < pos) (hq : 0 < q.length) (hh : standsN q xs = 1)
    (hm : moveP xs 4 q to pos = some (shiftL xs (q.length - 1) 1)) :
    Calls Try.prog 41 #[v1, v2] w (Mv (moveP xs 4 q to pos) w) := by
  obtain ⟨pv, tv, r4, r5, r6, r7, r8, r9, r10, r11, r12, r13, r14, r15, r16, r17, r18, r19, r20, rfl, hp, ht⟩ := h2
  have HM := Lib.hid hm
  obtain ⟨a1, c1, rfl⟩ := h1.slice
  have b1 := h1.len
  obtain ⟨b3, b4, b5⟩ := (stands_bools (p := xs) hq).2.2.1 hh
  have HH := Lib.hid hh
  obtain ⟨n, hn⟩ : ∃ n, q.length = n + 1 := ⟨q.length - 1, by omega⟩
  have HN := Lib.hid hn
  obtain ⟨a2, c2, rfl⟩ := hp.slice_len hn
  obtain ⟨a3, n3, c3, rfl⟩ := ht.slice3
  have b2 := hp.len
  rw [hn] at b2
  have f0 : ((n : Int) + 1 == 0) = false := by rw [beq_eq_false_iff_ne]; omega
  have f0' : (((n + 1 : Nat) : Int) == 0) = false := by rw [beq_eq_false_iff_ne]; omega
  have SS1 := Lib.hid s1
  have PB : Hid (0 ≤ pos ∧ pos ≤ 1048576) := ⟨by omega, by omega⟩
  have BY : Hid (∀ d : Int, -1 ≤ d ∧ d ≤ 1 → -9223372036854775808 ≤ xs.getD (q.length - 1) 0 + d ∧ xs.getD (q.length - 1) 0 + d ≤ 9223372036854775807) := fun d hd => by have := small_get SS1.out (q.length - 1); omega
  have HQ := Lib.hid hq
  have l1 : n + 1 ≤ xs.length := by have := (stands_len (q := q) (p := xs) (by rw [hh]; decide)).2; omega
  have HQL : Hid (q.length ≤ xs.length) := by show _ ≤ _; omega
  clear hm hh hn hq
  go_enter Try.func41, Try.ntmps41
  go_wp2_with fail
  refine (rsmall_any _ _ _ (h1.alloc _)).mono ?_
  rintro e w1 ⟨rfl, rfl⟩
  rw [s1]
  go_wp2_with fail
  refine (rsmall_any _ _ _ (hp.alloc _)).mono ?_
  rintro e w1 ⟨rfl, rfl⟩
  rw [s2]
  go_wp2_with fail
  refine (rsmall_any _ _ _ (ht.alloc _)).mono ?_
  rintro e w1 ⟨rfl, rfl⟩
  rw [s3]
  go_wp2_with fail
  refine (rsame_any _ _ _ _ _ (hp.alloc _) (h1.alloc _)).mono ?_
  rintro e w2 ⟨rfl, hs⟩
  rw [b3]
  have q0 := (hs.cell _).trans (box_get1 w _ _ 0 (.int .i64 4) rfl)
  have q1 := (hs.cell _).trans (box_get1 w _ _ 1 (.slice a2 (n + 1) c2) rfl)
  have q2 := (hs.cell _).trans (box_get1 w _ _ 2 (.slice a3 n3 c3) rfl)
  have q3 := (hs.cell _).trans (box_get1 w _ _ 3 (.int .i64 pos) rfl)
  have hb := gr_sm (gr_al (gr_refl w) _) hs
  have hsz : w.heap.size < w2.heap.size := by rw [hs.size]; simp
  have i1 := (h1.alloc _).same hs
  have i2 := (hp.alloc _).same hs
  have i3 := (ht.alloc _).same hs
  clear h1 hp ht hs
  go_wp2_with fail
  refine (rabove_any _ _ _ _ _ i2 i1).mono ?_
  rintro e w4 ⟨rfl, hs⟩
  rw [b4]
  replace q0 := (hs.cell _).trans q0
  replace q1 := (hs.cell _).trans q1
  replace q2 := (hs.cell _).trans q2
  replace q3 := (hs.cell _).trans q3
  replace hb := gr_sm hb hs
  replace hsz : w.heap.size < w4.heap.size := by rw [hs.size]; exact hsz
  replace i1 := i1.same hs
  replace i2 := i2.same hs
  replace i3 := i3.same hs
  clear hs
  go_wp2_with fail
  refine (rleft_any _ _ _ _ _ i2 i1).mono ?_
  rintro e w5 ⟨rfl, hs⟩
  rw [b5]
  replace q0 := (hs.cell _).trans q0
  replace q1 := (hs.cell _).trans q1
  replace q2 := (hs.cell _).trans q2
  replace q3 := (hs.cell _).trans q3
  replace hb := gr_sm hb hs
  replace hsz : w.heap.size < w5.heap.size := by rw [hs.size]; exact hsz
  replace i1 := i1.same hs
  replace i2 := i2.same hs
  replace i3 := i3.same hs
  clear hs
  go_wp2_with fail
  refine (rby_any xs q _ _ 1 _ i1 i2 HQ.out HQL.out (BY.out 1 (by omega))).mono ?_
  rintro e w3 ⟨v', rfl, ho, hbk⟩
  go_wp2
  go_ret2
  exact Mv.some_ HM.out (ho.mono hb.size) (gr_tr hb hbk)

set_option maxRecDepth 100000 in
set_option maxHeartbeats 4000000 in
theorem rmove_k4h0 (xs q to : List Int) (pos : Int) (v1 v2 : Value) (w : World) (h1 : Ints w v1 xs) (h2 : OpAt w v2 4 q to pos) (s1 : smallB xs = true) (s2 : smallB q = true) (s3 : smallB to = true) (p1 : ¬ pos < 0) (p2 : ¬ 1048576 < pos) (hq : 0 < q.length) (hh : standsN q xs = 0)
    (hm : moveP xs 4 q to pos = some xs) :
    Calls Try.prog 41 #[v1, v2] w (Mv (moveP xs 4 q to pos) w) := by
  obtain ⟨pv, tv, r4, r5, r6, r7, r8, r9, r10, r11, r12, r13, r14, r15, r16, r17, r18, r19, r20, rfl, hp, ht⟩ := h2
  have HM := Lib.hid hm
  obtain ⟨a1, c1, rfl⟩ := h1.slice
  have b1 := h1.len
  obtain ⟨b3, b4, b5⟩ := (stands_bools (p := xs) hq).2.2.2 hh
  have HH := Lib.hid hh
  obtain ⟨n, hn⟩ : ∃ n, q.length = n + 1 := ⟨q.length - 1, by omega⟩
  have HN := Lib.hid hn
  obtain ⟨a2, c2, rfl⟩ := hp.slice_len hn
  obtain ⟨a3, n3, c3, rfl⟩ := ht.slice3
  have b2 := hp.len
  rw [hn] at b2
  have f0 : ((n : Int) + 1 == 0) = false := by rw [beq_eq_false_iff_ne]; omega
  have f0' : (((n + 1 : Nat) : Int) == 0) = false := by rw [beq_eq_false_iff_ne]; omega
  have SS1 := Lib.hid s1
  have PB : Hid (0 ≤ pos ∧ pos ≤ 1048576) := ⟨by omega, by omega⟩
  have BY : Hid (∀ d : Int, -1 ≤ d ∧ d ≤ 1 → -9223372036854775808 ≤ xs.getD (q.length - 1) 0 + d ∧ xs.getD (q.length - 1) 0 + d ≤ 9223372036854775807) := fun d hd => by have := small_get SS1.out (q.length - 1); omega
  have HQ := Lib.hid hq
  clear hm hh hn hq
  go_enter Try.func41, Try.ntmps41
  go_wp2_with fail
  refine (rsmall_any _ _ _ (h1.alloc _)).mono ?_
  rintro e w1 ⟨rfl, rfl⟩
  rw [s1]
  go_wp2_with fail
  refine (rsmall_any _ _ _ (hp.alloc _)).mono ?_
  rintro e w1 ⟨rfl, rfl⟩
  rw [s2]
  go_wp2_with fail
  refine (rsmall_any _ _ _ (ht.alloc _)).mono ?_
  rintro e w1 ⟨rfl, rfl⟩
  rw [s3]
  go_wp2_with fail
  refine (rsame_any _ _ _ _ _ (hp.alloc _) (h1.alloc _)).mono ?_
  rintro e w2 ⟨rfl, hs⟩
  rw [b3]
  have q0 := (hs.cell _).trans (box_get1 w _ _ 0 (.int .i64 4) rfl)
  have q1 := (hs.cell _).trans (box_get1 w _ _ 1 (.slice a2 (n + 1) c2) rfl)
  have q2 := (hs.cell _).trans (box_get1 w _ _ 2 (.slice a3 n3 c3) rfl)
  have q3 := (hs.cell _).trans (box_get1 w _ _ 3 (.int .i64 pos) rfl)
  have hb := gr_sm (gr_al (gr_refl w) _) hs
  have hsz : w.heap.size < w2.heap.size := by rw [hs.size]; simp
  have i1 := (h1.alloc _).same hs
  have i2 := (hp.alloc _).same hs
  have i3 := (ht.alloc _).same hs
  clear h1 hp ht hs
  go_wp2_with fail
  refine (rabove_any _ _ _ _ _ i2 i1).mono ?_
  rintro e w4 ⟨rfl, hs⟩
  rw [b4]
  replace q0 := (hs.cell _).trans q0
  replace q1 := (hs.cell _).trans q1
  replace q2 := (hs.cell _).trans q2
  replace q3 := (hs.cell _).trans q3
  replace hb := gr_sm hb hs
  replace hsz : w.heap.size < w4.heap.size := by rw [hs.size]; exact hsz
  replace i1 := i1.same hs
  replace i2 := i2.same hs
  replace i3 := i3.same hs
  clear hs
  go_wp2_with fail
  refine (rleft_any _ _ _ _ _ i2 i1).mono ?_
  rintro e w5 ⟨rfl, hs⟩
  rw [b5]
  replace q0 := (hs.cell _).trans q0
  replace q1 := (hs.cell _).trans q1
  replace q2 := (hs.cell _).trans q2
  replace q3 := (hs.cell _).trans q3
  replace hb := gr_sm hb hs
  replace hsz : w.heap.size < w5.heap.size := by rw [hs.size]; exact hsz
  replace i1 := i1.same hs
  replace i2 := i2.same hs
  replace i3 := i3.same hs
  clear hs
  go_wp2_with fail
  go_quiet (fail)
  replace i1 := i1.same ⟨nq, rfl⟩
  replace i2 := i2.same ⟨nq, rfl⟩
  replace hb := gr_dn hb nq
  replace hsz : w.heap.size < (w5.drewN nq).heap.size := hsz
  replace q3 := (drewN_cell w5 nq _).trans q3
  go_wp2_with fail
  refine (rcopy_any xs _ _ i1).mono ?_
  rintro e w3 ⟨v', rfl, ho, hbk⟩
  go_wp2
  go_ret2
  exact Mv.some_ HM.out (ho.mono hb.size) (gr_tr hb hbk)

set_option maxRecDepth 100000 in
set_option maxHeartbeats 4000000 in
theorem rmove_k4h3 (xs q to : List Int) (pos : Int) (v1 v2 : Value) (w : World) (h1 : Ints w v1 xs) (h2 : OpAt w v2 4 q to pos) (s1 : smallB xs = true) (s2 : smallB q = true) (s3 : smallB to = true) (p1 : ¬ pos < 0) (p2 : ¬ 1048576 < pos) (hq : 0 < q.length) (hh : standsN q xs = 3)
    (hm : moveP xs 4 q to pos = some xs) :
    Calls Try.prog 41 #[v1, v2] w (Mv (moveP xs 4 q to pos) w) := by
  obtain ⟨pv, tv, r4, r5, r6, r7, r8, r9, r10, r11, r12, r13, r14, r15, r16, r17, r18, r19, r20, rfl, hp, ht⟩ := h2
  have HM := Lib.hid hm
  obtain ⟨a1, c1, rfl⟩ := h1.slice
  have b1 := h1.len
  obtain ⟨b3, b4, b5⟩ := (stands_bools (p := xs) hq).1 hh
  have HH := Lib.hid hh
  obtain ⟨n, hn⟩ : ∃ n, q.length = n + 1 := ⟨q.length - 1, by omega⟩
  have HN := Lib.hid hn
  obtain ⟨a2, c2, rfl⟩ := hp.slice_len hn
  obtain ⟨a3, n3, c3, rfl⟩ := ht.slice3
  have b2 := hp.len
  rw [hn] at b2
  have f0 : ((n : Int) + 1 == 0) = false := by rw [beq_eq_false_iff_ne]; omega
  have f0' : (((n + 1 : Nat) : Int) == 0) = false := by rw [beq_eq_false_iff_ne]; omega
  have SS1 := Lib.hid s1
  have PB : Hid (0 ≤ pos ∧ pos ≤ 1048576) := ⟨by omega, by omega⟩
  have BY : Hid (∀ d : Int, -1 ≤ d ∧ d ≤ 1 → -9223372036854775808 ≤ xs.getD (q.length - 1) 0 + d ∧ xs.getD (q.length - 1) 0 + d ≤ 9223372036854775807) := fun d hd => by have := small_get SS1.out (q.length - 1); omega
  have HQ := Lib.hid hq
  have l1 : n + 1 ≤ xs.length := by have := (stands_len (q := q) (p := xs) (by rw [hh]; decide)).2; omega
  have HQL : Hid (q.length ≤ xs.length) := by show _ ≤ _; omega
  clear hm hh hn hq
  go_enter Try.func41, Try.ntmps41
  go_wp2_with fail
  refine (rsmall_any _ _ _ (h1.alloc _)).mono ?_
  rintro e w1 ⟨rfl, rfl⟩
  rw [s1]
  go_wp2_with fail
  refine (rsmall_any _ _ _ (hp.alloc _)).mono ?_
  rintro e w1 ⟨rfl, rfl⟩
  rw [s2]
  go_wp2_with fail
  refine (rsmall_any _ _ _ (ht.alloc _)).mono ?_
  rintro e w1 ⟨rfl, rfl⟩
  rw [s3]
  go_wp2_with fail
  refine (rsame_any _ _ _ _ _ (hp.alloc _) (h1.alloc _)).mono ?_
  rintro e w2 ⟨rfl, hs⟩
  rw [b3]
  have q0 := (hs.cell _).trans (box_get1 w _ _ 0 (.int .i64 4) rfl)
  have q1 := (hs.cell _).trans (box_get1 w _ _ 1 (.slice a2 (n + 1) c2) rfl)
  have q2 := (hs.cell _).trans (box_get1 w _ _ 2 (.slice a3 n3 c3) rfl)
  have q3 := (hs.cell _).trans (box_get1 w _ _ 3 (.int .i64 pos) rfl)
  have hb := gr_sm (gr_al (gr_refl w) _) hs
  have hsz : w.heap.size < w2.heap.size := by rw [hs.size]; simp
  have i1 := (h1.alloc _).same hs
  have i2 := (hp.alloc _).same hs
  have i3 := (ht.alloc _).same hs
  clear h1 hp ht hs
  go_wp2_with fail
  refine (rabove_any _ _ _ _ _ i2 i1).mono ?_
  rintro e w4 ⟨rfl, hs⟩
  rw [b4]
  replace q0 := (hs.cell _).trans q0
  replace q1 := (hs.cell _).trans q1
  replace q2 := (hs.cell _).trans q2
  replace q3 := (hs.cell _).trans q3
  replace hb := gr_sm hb hs
  replace hsz : w.heap.size < w4.heap.size := by rw [hs.size]; exact hsz
  replace i1 := i1.same hs
  replace i2 := i2.same hs
  replace i3 := i3.same hs
  clear hs
  go_wp2_with fail
  refine (rleft_any _ _ _ _ _ i2 i1).mono ?_
  rintro e w5 ⟨rfl, hs⟩
  rw [b5]
  replace q0 := (hs.cell _).trans q0
  replace q1 := (hs.cell _).trans q1
  replace q2 := (hs.cell _).trans q2
  replace q3 := (hs.cell _).trans q3
  replace hb := gr_sm hb hs
  replace hsz : w.heap.size < w5.heap.size := by rw [hs.size]; exact hsz
  replace i1 := i1.same hs
  replace i2 := i2.same hs
  replace i3 := i3.same hs
  clear hs
  go_wp2_with fail
  go_quiet (fail)
  replace i1 := i1.same ⟨nq, rfl⟩
  replace i2 := i2.same ⟨nq, rfl⟩
  replace hb := gr_dn hb nq
  replace hsz : w.heap.size < (w5.drewN nq).heap.size := hsz
  replace q3 := (drewN_cell w5 nq _).trans q3
  go_wp2_with fail
  refine (rcopy_any xs _ _ i1).mono ?_
  rintro e w3 ⟨v', rfl, ho, hbk⟩
  go_wp2
  go_ret2
  exact Mv.some_ HM.out (ho.mono hb.size) (gr_tr hb hbk)

set_option maxRecDepth 100000 in
set_option maxHeartbeats 4000000 in
theorem rmove_k4h2n (xs q to : List Int) (pos : Int) (v1 v2 : Value) (w : World) (h1 : Ints w v1 xs) (h2 : OpAt w v2 4 q to pos) (s1 : smallB xs = true) (s2 : smallB q = true) (s3 : smallB to = true) (p1 : ¬ pos < 0) (p2 : ¬ 1048576 < pos) (hz : ¬ pos ≤ xs.getD q.length 0) (hq : 0 < q.length) (hh : standsN q xs = 2)
    (hm : moveP xs 4 q to pos = some xs) :
    Calls Try.prog 41 #[v1, v2] w (Mv (moveP xs 4 q to pos) w) := by
  obtain ⟨pv, tv, r4, r5, r6, r7, r8, r9, r10, r11, r12, r13, r14, r15, r16, r17, r18, r19, r20, rfl, hp, ht⟩ := h2
  have HM := Lib.hid hm
  obtain ⟨a1, c1, rfl⟩ := h1.slice
  have b1 := h1.len
  obtain ⟨b3, b4, b5⟩ := (stands_bools (p := xs) hq).2.1 hh
  have HH := Lib.hid hh
  obtain ⟨n, hn⟩ : ∃ n, q.length = n + 1 := ⟨q.length - 1, by omega⟩
  have HN := Lib.hid hn
  obtain ⟨a2, c2, rfl⟩ := hp.slice_len hn
  obtain ⟨a3, n3, c3, rfl⟩ := ht.slice3
  have b2 := hp.len
  rw [hn] at b2
  have f0 : ((n : Int) + 1 == 0) = false := by rw [beq_eq_false_iff_ne]; omega
  have f0' : (((n + 1 : Nat) : Int) == 0) = false := by rw [beq_eq_false_iff_ne]; omega
  have SS1 := Lib.hid s1
  have PB : Hid (0 ≤ pos ∧ pos ≤ 1048576) := ⟨by omega, by omega⟩
  have BY : Hid (∀ d : Int, -1 ≤ d ∧ d ≤ 1 → -9223372036854775808 ≤ xs.getD (q.length - 1) 0 + d ∧ xs.getD (q.length - 1) 0 + d ≤ 9223372036854775807) := fun d hd => by have := small_get SS1.out (q.length - 1); omega
  have HQ := Lib.hid hq
  have l1 : n + 1 ≤ xs.length := by have := (stands_len (q := q) (p := xs) (by rw [hh]; decide)).2; omega
  have HQL : Hid (q.length ≤ xs.length) := by show _ ≤ _; omega
  have l2 : n + 1 < xs.length := by have := stands_above_lt hh; omega
  have hz2 : decide (pos ≤ xs.getD (n + 1) 0) = false := by rw [hn] at hz; simpa using hz
  clear hz
  clear hm hh hn hq
  go_enter Try.func41, Try.ntmps41
  go_wp2_with fail
  refine (rsmall_any _ _ _ (h1.alloc _)).mono ?_
  rintro e w1 ⟨rfl, rfl⟩
  rw [s1]
  go_wp2_with fail
  refine (rsmall_any _ _ _ (hp.alloc _)).mono ?_
  rintro e w1 ⟨rfl, rfl⟩
  rw [s2]
  go_wp2_with fail
  refine (rsmall_any _ _ _ (ht.alloc _)).mono ?_
  rintro e w1 ⟨rfl, rfl⟩
  rw [s3]
  go_wp2_with fail
  refine (rsame_any _ _ _ _ _ (hp.alloc _) (h1.alloc _)).mono ?_
  rintro e w2 ⟨rfl, hs⟩
  rw [b3]
  have q0 := (hs.cell _).trans (box_get1 w _ _ 0 (.int .i64 4) rfl)
  have q1 := (hs.cell _).trans (box_get1 w _ _ 1 (.slice a2 (n + 1) c2) rfl)
  have q2 := (hs.cell _).trans (box_get1 w _ _ 2 (.slice a3 n3 c3) rfl)
  have q3 := (hs.cell _).trans (box_get1 w _ _ 3 (.int .i64 pos) rfl)
  have hb := gr_sm (gr_al (gr_refl w) _) hs
  have hsz : w.heap.size < w2.heap.size := by rw [hs.size]; simp
  have i1 := (h1.alloc _).same hs
  have i2 := (hp.alloc _).same hs
  have i3 := (ht.alloc _).same hs
  clear h1 hp ht hs
  go_wp2_with fail
  refine (rabove_any _ _ _ _ _ i2 i1).mono ?_
  rintro e w4 ⟨rfl, hs⟩
  rw [b4]
  replace q0 := (hs.cell _).trans q0
  replace q1 := (hs.cell _).trans q1
  replace q2 := (hs.cell _).trans q2
  replace q3 := (hs.cell _).trans q3
  replace hb := gr_sm hb hs
  replace hsz : w.heap.size < w4.heap.size := by rw [hs.size]; exact hsz
  replace i1 := i1.same hs
  replace i2 := i2.same hs
  replace i3 := i3.same hs
  clear hs
  go_wp2_with fail
  refine (rleft_any _ _ _ _ _ i2 i1).mono ?_
  rintro e w5 ⟨rfl, hs⟩
  rw [b5]
  replace q0 := (hs.cell _).trans q0
  replace q1 := (hs.cell _).trans q1
  replace q2 := (hs.cell _).trans q2
  replace q3 := (hs.cell _).trans q3
  replace hb := gr_sm hb hs
  replace hsz : w.heap.size < w5.heap.size := by rw [hs.size]; exact hsz
  replace i1 := i1.same hs
  replace i2 := i2.same hs
  replace i3 := i3.same hs
  clear hs
  obtain ⟨a', c', he, _, _, o1⟩ := i1.open_
  simp only [Value.slice.injEq] at he
  obtain ⟨rfl, hx, rfl⟩ := he
  clear hx
  obtain ⟨pb, pf, rfl, hc⟩ := o1 (by omega)
  have qc : w5.cell? ⟨pb, pf + (n + 1), none⟩ = some (.int .i64 (xs.getD (n + 1) 0)) := hc (n + 1) (by omega)
  clear hc o1
  generalize hzz : xs.getD (n + 1) 0 = z at *
  have HZZ := Lib.hid hzz
  clear hzz
  go_wp2_with fail
  go_quiet (fail)
  replace i1 := i1.same ⟨nq, rfl⟩
  replace i2 := i2.same ⟨nq, rfl⟩
  replace hb := gr_dn hb nq
  replace hsz : w.heap.size < (w5.drewN nq).heap.size := hsz
  replace q3 := (drewN_cell w5 nq _).trans q3
  go_wp2_with fail
  refine (rcopy_any xs _ _ i1).mono ?_
  rintro e w3 ⟨v', rfl, ho, hbk⟩
  go_wp2
  go_ret2
  exact Mv.some_ HM.out (ho.mono hb.size) (gr_tr hb hbk)

set_option maxRecDepth 100000 in
set_option maxHeartbeats 4000000 in
theorem rmove_k4h2y (xs q to : List Int) (pos : Int) (v1 v2 : Value) (w : World) (h1 : Ints w v1 xs) (h2 : OpAt w v2 4 q to pos) (s1 : smallB xs = true) (s2 : smallB q = true) (s3 : smallB to = true) (p1 : ¬ pos < 0) (p2 : ¬ 1048576 < pos) (hz : pos ≤ xs.getD q.length 0) (hq : 0 < q.length) (hh : standsN q xs = 2)
    (hm : moveP xs 4 q to pos = some (shiftL (shiftL xs q.length (-pos)) (q.length - 1) 1)) :
    Calls Try.prog 41 #[v1, v2] w (Mv (moveP xs 4 q to pos) w) := by
  obtain ⟨pv, tv, r4, r5, r6, r7, r8, r9, r10, r11, r12, r13, r14, r15, r16, r17, r18, r19, r20, rfl, hp, ht⟩ := h2
  have HM := Lib.hid hm
  obtain ⟨a1, c1, rfl⟩ := h1.slice
  have b1 := h1.len
  obtain ⟨b3, b4, b5⟩ := (stands_bools (p := xs) hq).2.1 hh
  have HH := Lib.hid hh
  obtain ⟨n, hn⟩ : ∃ n, q.length = n + 1 := ⟨q.length - 1, by omega⟩
  have HN := Lib.hid hn
  obtain ⟨a2, c2, rfl⟩ := hp.slice_len hn
  obtain ⟨a3, n3, c3, rfl⟩ := ht.slice3
  have b2 := hp.len
  rw [hn] at b2
  have f0 : ((n : Int) + 1 == 0) = false := by rw [beq_eq_false_iff_ne]; omega
  have f0' : (((n + 1 : Nat) : Int) == 0) = false := by rw [beq_eq_false_iff_ne]; omega
  have SS1 := Lib.hid s1
  have PB : Hid (0 ≤ pos ∧ pos ≤ 1048576) := ⟨by omega, by omega⟩
  have BY : Hid (∀ d : Int, -1 ≤ d ∧ d ≤ 1 → -9223372036854775808 ≤ xs.getD (q.length - 1) 0 + d ∧ xs.getD (q.length - 1) 0 + d ≤ 9223372036854775807) := fun d hd => by have := small_get SS1.out (q.length - 1); omega
  have HQ := Lib.hid hq
  have l1 : n + 1 ≤ xs.length := by have := (stands_len (q := q) (p := xs) (by rw [hh]; decide)).2; omega
  have HQL : Hid (q.length ≤ xs.length) := by show _ ≤ _; omega
  have l2 : n + 1 < xs.length := by have := stands_above_lt hh; omega
  have hz2 : decide (pos ≤ xs.getD (n + 1) 0) = true := by rw [hn] at hz; simpa using hz
  clear hz
  clear hm hh hn hq
  go_enter Try.func41, Try.ntmps41
  go_wp2_with fail
  refine (rsmall_any _ _ _ (h1.alloc _)).mono ?_
  rintro e w1 ⟨rfl, rfl⟩
  rw [s1]
  go_wp2_with fail
  refine (rsmall_any _ _ _ (hp.alloc _)).mono ?_
  rintro e w1 ⟨rfl, rfl⟩
  rw [s2]
  go_wp2_with fail
  refine (rsmall_any _ _ _ (ht.alloc _)).mono ?_
  rintro e w1 ⟨rfl, rfl⟩
  rw [s3]
  go_wp2_with fail
  refine (rsame_any _ _ _ _ _ (hp.alloc _) (h1.alloc _)).mono ?_
  rintro e w2 ⟨rfl, hs⟩
  rw [b3]
  have q0 := (hs.cell _).trans (box_get1 w _ _ 0 (.int .i64 4) rfl)
  have q1 := (hs.cell _).trans (box_get1 w _ _ 1 (.slice a2 (n + 1) c2) rfl)
  have q2 := (hs.cell _).trans (box_get1 w _ _ 2 (.slice a3 n3 c3) rfl)
  have q3 := (hs.cell _).trans (box_get1 w _ _ 3 (.int .i64 pos) rfl)
  have hb := gr_sm (gr_al (gr_refl w) _) hs
  have hsz : w.heap.size < w2.heap.size := by rw [hs.size]; simp
  have i1 := (h1.alloc _).same hs
  have i2 := (hp.alloc _).same hs
  have i3 := (ht.alloc _).same hs
  clear h1 hp ht hs
  go_wp2_with fail
  refine (rabove_any _ _ _ _ _ i2 i1).mono ?_
  rintro e w4 ⟨rfl, hs⟩
  rw [b4]
  replace q0 := (hs.cell _).trans q0
  replace q1 := (hs.cell _).trans q1
  replace q2 := (hs.cell _).trans q2
  replace q3 := (hs.cell _).trans q3
  replace hb := gr_sm hb hs
  replace hsz : w.heap.size < w4.heap.size := by rw [hs.size]; exact hsz
  replace i1 := i1.same hs
  replace i2 := i2.same hs
  replace i3 := i3.same hs
  clear hs
  go_wp2_with fail
  refine (rleft_any _ _ _ _ _ i2 i1).mono ?_
  rintro e w5 ⟨rfl, hs⟩
  rw [b5]
  replace q0 := (hs.cell _).trans q0
  replace q1 := (hs.cell _).trans q1
  replace q2 := (hs.cell _).trans q2
  replace q3 := (hs.cell _).trans q3
  replace hb := gr_sm hb hs
  replace hsz : w.heap.size < w5.heap.size := by rw [hs.size]; exact hsz
  replace i1 := i1.same hs
  replace i2 := i2.same hs
  replace i3 := i3.same hs
  clear hs
  obtain ⟨a', c', he, _, _, o1⟩ := i1.open_
  simp only [Value.slice.injEq] at he
  obtain ⟨rfl, hx, rfl⟩ := he
  clear hx
  obtain ⟨pb, pf, rfl, hc⟩ := o1 (by omega)
  have qc : w5.cell? ⟨pb, pf + (n + 1), none⟩ = some (.int .i64 (xs.getD (n + 1) 0)) := hc (n + 1) (by omega)
  clear hc o1
  generalize hzz : xs.getD (n + 1) 0 = z at *
  have HZZ := Lib.hid hzz
  clear hzz
  go_wp2_with fail
  go_quiet (fail)
  replace i1 := i1.same ⟨nq, rfl⟩
  replace i2 := i2.same ⟨nq, rfl⟩
  replace hb := gr_dn hb nq
  replace hsz : w.heap.size < (w5.drewN nq).heap.size := hsz
  replace q3 := (drewN_cell w5 nq _).trans q3
  have X1 : Hid ((shiftL xs (q.length - 1) 1).getD (n + 1) 0 = xs.getD (n + 1) 0) := by show _ = _; exact shift_get_ne (by have := HN.out; omega)
  have XL : Hid (n + 1 < (shiftL xs (q.length - 1) 1).length) := by show _ < _; rw [shift_len]; exact l2
  have XE : Hid (shiftL (shiftL xs q.length (-pos)) (q.length - 1) 1 = (shiftL xs (q.length - 1) 1).set (n + 1) (xs.getD (n + 1) 0 - pos)) := by
    show _ = _
    rw [shift_comm (by have := HN.out; omega)]
    have e0 : q.length = n + 1 := HN.out
    rw [show shiftL (shiftL xs (q.length - 1) 1) q.length (-pos) = (shiftL xs (q.length - 1) 1).set q.length ((shiftL xs (q.length - 1) 1).getD q.length 0 + (-pos)) from rfl, e0, shift_get_ne (by omega)]
    rw [Int.sub_eq_add_neg]
  go_wp2_with fail
  refine (rby_any xs q _ _ 1 _ i1 i2 HQ.out HQL.out (BY.out 1 (by omega))).mono ?_
  rintro e w3 ⟨v', rfl, ho, hbk⟩
  replace q3 := (hbk.cell (p := ⟨w.heap.size, 3, none⟩) (by first | exact hsz | (simp; omega))).trans q3
  have hz0 : w.heap.size ≤ w5.heap.size := hb.size
  replace hb := gr_tr hb hbk
  clear hbk q0 q1 q2 i1 i2 i3
  obtain ⟨g, cap, rfl, hcap, hg1, hg2, hcell, hfr, hset⟩ := ho.at_ (n + 1) XL.out
  rw [X1.out] at hcell
  obtain ⟨X, hX⟩ : ∃ X, xs.getD (n + 1) 0 = X := ⟨_, rfl⟩
  rw [hX] at XE
  have HX := Lib.hid hX
  rw [hX] at hcell
  have XB : Hid (0 ≤ X ∧ X ≤ 1048576) := by show _ ∧ _; rw [← hX]; exact small_get SS1.out _
  have hwr : IntKind.i64.wrap (X - pos) = X - pos := IntWalk.i64_in _ (by have := XB.out; have := PB.out; omega)
  have xl := XL.out
  generalize shiftL xs (q.length - 1) 1 = ys at *
  have HS := Lib.hid (hset (X - pos))
  clear hset ho hX
  have gne : ¬ g = w.heap.size := by omega
  go_wp2_with fail
  go_region
  go_wp2
  go_ret2
  exact Mv.some_ HM.out (by rw [XE.out]; exact ((HS.out.1.mono hz0).below (gr_dn (gr_refl _) 1) (Nat.le_refl _))) (gr_dr (hb.trans (HS.out.2.mono hz0)))

set_option maxRecDepth 100000 in
set_option maxHeartbeats 4000000 in
theorem rmove_k5h2 (xs q to : List Int) (pos : Int) (v1 v2 : Value) (w : World) (h1 : Ints w v1 xs) (h2 : OpAt w v2 5 q to pos) (s1 : smallB xs = true) (s2 : smallB q = true) (s3 : smallB to = true) (p1 : ¬ pos < 0) (p2 : ¬ 1048576 < pos) (hlen : (to.length + xs.length) * 8 ≤ 140737488351232) (hq : 0 < q.length) (hh : standsN q xs = 2)
    (hm : moveP xs 5 q to pos = some (to ++ xs.drop q.length)) :
    Calls Try.prog 41 #[v1, v2] w (Mv (moveP xs 5 q to pos) w) := by
  obtain ⟨pv, tv, r4, r5, r6, r7, r8, r9, r10, r11, r12, r13, r14, r15, r16, r17, r18, r19, r20, rfl, hp, ht⟩ := h2
  have HM := Lib.hid hm
  obtain ⟨a1, c1, rfl⟩ := h1.slice
  have b1 := h1.len
  obtain ⟨b3, b4, b5⟩ := (stands_bools (p := xs) hq).2.1 hh
  have HH := Lib.hid hh
  obtain ⟨n, hn⟩ : ∃ n, q.length = n + 1 := ⟨q.length - 1, by omega⟩
  have HN := Lib.hid hn
  obtain ⟨a2, c2, rfl⟩ := hp.slice_len hn
  obtain ⟨a3, n3, c3, rfl⟩ := ht.slice3
  have b2 := hp.len
  rw [hn] at b2
  have f0 : ((n : Int) + 1 == 0) = false := by rw [beq_eq_false_iff_ne]; omega
  have f0' : (((n + 1 : Nat) : Int) == 0) = false := by rw [beq_eq_false_iff_ne]; omega
  have SS1 := Lib.hid s1
  have PB : Hid (0 ≤ pos ∧ pos ≤ 1048576) := ⟨by omega, by omega⟩
  have BY : Hid (∀ d : Int, -1 ≤ d ∧ d ≤ 1 → -9223372036854775808 ≤ xs.getD (q.length - 1) 0 + d ∧ xs.getD (q.length - 1) 0 + d ≤ 9223372036854775807) := fun d hd => by have := small_get SS1.out (q.length - 1); omega
  have HQ := Lib.hid hq
  have l1 : n + 1 ≤ xs.length := by have := (stands_len (q := q) (p := xs) (by rw [hh]; decide)).2; omega
  have HQL : Hid (q.length ≤ xs.length) := by show _ ≤ _; omega
  have l2 : n + 1 < xs.length := by have := stands_above_lt hh; omega
  have CC : Hid (n + 1 < c1) := by show _ < _; obtain ⟨_, _, he, hle, _⟩ := h1; simp only [Value.slice.injEq] at he; omega
  clear hm hh hn hq
  go_enter Try.func41, Try.ntmps41
  go_wp2_with fail
  refine (rsmall_any _ _ _ (h1.alloc _)).mono ?_
  rintro e w1 ⟨rfl, rfl⟩
  rw [s1]
  go_wp2_with fail
  refine (rsmall_any _ _ _ (hp.alloc _)).mono ?_
  rintro e w1 ⟨rfl, rfl⟩
  rw [s2]
  go_wp2_with fail
  refine (rsmall_any _ _ _ (ht.alloc _)).mono ?_
  rintro e w1 ⟨rfl, rfl⟩
  rw [s3]
  go_wp2_with fail
  refine (rsame_any _ _ _ _ _ (hp.alloc _) (h1.alloc _)).mono ?_
  rintro e w2 ⟨rfl, hs⟩
  rw [b3]
  have q0 := (hs.cell _).trans (box_get1 w _ _ 0 (.int .i64 5) rfl)
  have q1 := (hs.cell _).trans (box_get1 w _ _ 1 (.slice a2 (n + 1) c2) rfl)
  have q2 := (hs.cell _).trans (box_get1 w _ _ 2 (.slice a3 n3 c3) rfl)
  have q3 := (hs.cell _).trans (box_get1 w _ _ 3 (.int .i64 pos) rfl)
  have hb := gr_sm (gr_al (gr_refl w) _) hs
  have hsz : w.heap.size < w2.heap.size := by rw [hs.size]; simp
  have i1 := (h1.alloc _).same hs
  have i2 := (hp.alloc _).same hs
  have i3 := (ht.alloc _).same hs
  clear h1 hp ht hs
  go_wp2_with fail
  refine (rabove_any _ _ _ _ _ i2 i1).mono ?_
  rintro e w4 ⟨rfl, hs⟩
  rw [b4]
  replace q0 := (hs.cell _).trans q0
  replace q1 := (hs.cell _).trans q1
  replace q2 := (hs.cell _).trans q2
  replace q3 := (hs.cell _).trans q3
  replace hb := gr_sm hb hs
  replace hsz : w.heap.size < w4.heap.size := by rw [hs.size]; exact hsz
  replace i1 := i1.same hs
  replace i2 := i2.same hs
  replace i3 := i3.same hs
  clear hs
  go_wp2_with fail
  refine (rleft_any _ _ _ _ _ i2 i1).mono ?_
  rintro e w5 ⟨rfl, hs⟩
  rw [b5]
  replace q0 := (hs.cell _).trans q0
  replace q1 := (hs.cell _).trans q1
  replace q2 := (hs.cell _).trans q2
  replace q3 := (hs.cell _).trans q3
  replace hb := gr_sm hb hs
  replace hsz : w.heap.size < w5.heap.size := by rw [hs.size]; exact hsz
  replace i1 := i1.same hs
  replace i2 := i2.same hs
  replace i3 := i3.same hs
  clear hs
  obtain ⟨pb, pf, rfl, idr⟩ := i1.drop (k := n + 1) (by omega) CC.out
  have hcc : ¬ (c1 = n + 1) := by have := CC.out; omega
  have hlf : (to.length + (xs.drop (n + 1)).length) * 8 ≤ 140737488351232 := by simp; omega
  have hl1 : (n : Int) + 1 ≤ (xs.length : Int) := by omega
  have hl2 : 0 ≤ (n : Int) + 1 := by omega
  have hl3 : ((n : Int) + 1).toNat = n + 1 := by omega
  have hl4 : IntKind.i64.wrap ((n : Int) + 1) = (n : Int) + 1 := IntWalk.i64_in _ (by omega)
  have hc := fun m => rwith_any to (xs.drop (n + 1)) _ _ (w5.drewN m) (i3.same ⟨m, rfl⟩) (idr.same ⟨m, rfl⟩) hlf
  have HC := Lib.hid hc
  clear hlf hc
  go_wp2_with fail
  go_region_held3 (fun w' => w'.cell? ⟨w.heap.size, 2, none⟩ = some (.slice a3 n3 c3)) (first | go_keep | (exact (hbk.cell (p := ⟨w.heap.size, 2, none⟩) (by simp; omega)).trans (by go_keep)))
    (first | (go_at_call 56; refine (HC.out 1).mono ?_; rintro e w3 ⟨v', rfl, ho, hbk⟩))
  go_wp2
  go_ret2
  have hfin : q.length = n + 1 := HN.out
  refine Mv.some_ HM.out ?_ (gr_tr (gr_dn hb 1) hbk)
  rw [hfin]
  exact ho.mono hb.size

set_option maxRecDepth 100000 in
set_option maxHeartbeats 4000000 in
theorem rmove_k5h3r (xs q to : List Int) (pos : Int) (v1 v2 : Value) (w : World) (h1 : Ints w v1 xs) (h2 : OpAt w v2 5 q to pos) (s1 : smallB xs = true) (s2 : smallB q = true) (s3 : smallB to = true) (p1 : ¬ pos < 0) (p2 : ¬ 1048576 < pos) (hlen : (to.length + xs.length) * 8 ≤ 140737488351232) (hroom : ∀ a n c, v1 = .slice a n c → q.length < c) (hq : 0 < q.length) (hh : standsN q xs = 3)
    (hm : moveP xs 5 q to pos = some (to ++ xs.drop q.length)) :
    Calls Try.prog 41 #[v1, v2] w (Mv (moveP xs 5 q to pos) w) := by
  obtain ⟨pv, tv, r4, r5, r6, r7, r8, r9, r10, r11, r12, r13, r14, r15, r16, r17, r18, r19, r20, rfl, hp, ht⟩ := h2
  have HM := Lib.hid hm
  obtain ⟨a1, c1, rfl⟩ := h1.slice
  have b1 := h1.len
  obtain ⟨b3, b4, b5⟩ := (stands_bools (p := xs) hq).1 hh
  have HH := Lib.hid hh
  obtain ⟨n, hn⟩ : ∃ n, q.length = n + 1 := ⟨q.length - 1, by omega⟩
  have HN := Lib.hid hn
  obtain ⟨a2, c2, rfl⟩ := hp.slice_len hn
  obtain ⟨a3, n3, c3, rfl⟩ := ht.slice3
  have b2 := hp.len
  rw [hn] at b2
  have f0 : ((n : Int) + 1 == 0) = false := by rw [beq_eq_false_iff_ne]; omega
  have f0' : (((n + 1 : Nat) : Int) == 0) = false := by rw [beq_eq_false_iff_ne]; omega
  have SS1 := Lib.hid s1
  have PB : Hid (0 ≤ pos ∧ pos ≤ 1048576) := ⟨by omega, by omega⟩
  have BY : Hid (∀ d : Int, -1 ≤ d ∧ d ≤ 1 → -9223372036854775808 ≤ xs.getD (q.length - 1) 0 + d ∧ xs.getD (q.length - 1) 0 + d ≤ 9223372036854775807) := fun d hd => by have := small_get SS1.out (q.length - 1); omega
  have HQ := Lib.hid hq
  have l1 : n + 1 ≤ xs.length := by have := (stands_len (q := q) (p := xs) (by rw [hh]; decide)).2; omega
  have HQL : Hid (q.length ≤ xs.length) := by show _ ≤ _; omega
  have CC : Hid (n + 1 < c1) := by show _ < _; rw [← hn]; exact hroom _ _ _ rfl
  clear hroom
  clear hm hh hn hq
  go_enter Try.func41, Try.ntmps41
  go_wp2_with fail
  refine (rsmall_any _ _ _ (h1.alloc _)).mono ?_
  rintro e w1 ⟨rfl, rfl⟩
  rw [s1]
  go_wp2_with fail
  refine (rsmall_any _ _ _ (hp.alloc _)).mono ?_
  rintro e w1 ⟨rfl, rfl⟩
  rw [s2]
  go_wp2_with fail
  refine (rsmall_any _ _ _ (ht.alloc _)).mono ?_
  rintro e w1 ⟨rfl, rfl⟩
  rw [s3]
  go_wp2_with fail
  refine (rsame_any _ _ _ _ _ (hp.alloc _) (h1.alloc _)).mono ?_
  rintro e w2 ⟨rfl, hs⟩
  rw [b3]
  have q0 := (hs.cell _).trans (box_get1 w _ _ 0 (.int .i64 5) rfl)
  have q1 := (hs.cell _).trans (box_get1 w _ _ 1 (.slice a2 (n + 1) c2) rfl)
  have q2 := (hs.cell _).trans (box_get1 w _ _ 2 (.slice a3 n3 c3) rfl)
  have q3 := (hs.cell _).trans (box_get1 w _ _ 3 (.int .i64 pos) rfl)
  have hb := gr_sm (gr_al (gr_refl w) _) hs
  have hsz : w.heap.size < w2.heap.size := by rw [hs.size]; simp
  have i1 := (h1.alloc _).same hs
  have i2 := (hp.alloc _).same hs
  have i3 := (ht.alloc _).same hs
  clear h1 hp ht hs
  go_wp2_with fail
  refine (rabove_any _ _ _ _ _ i2 i1).mono ?_
  rintro e w4 ⟨rfl, hs⟩
  rw [b4]
  replace q0 := (hs.cell _).trans q0
  replace q1 := (hs.cell _).trans q1
  replace q2 := (hs.cell _).trans q2
  replace q3 := (hs.cell _).trans q3
  replace hb := gr_sm hb hs
  replace hsz : w.heap.size < w4.heap.size := by rw [hs.size]; exact hsz
  replace i1 := i1.same hs
  replace i2 := i2.same hs
  replace i3 := i3.same hs
  clear hs
  go_wp2_with fail
  refine (rleft_any _ _ _ _ _ i2 i1).mono ?_
  rintro e w5 ⟨rfl, hs⟩
  rw [b5]
  replace q0 := (hs.cell _).trans q0
  replace q1 := (hs.cell _).trans q1
  replace q2 := (hs.cell _).trans q2
  replace q3 := (hs.cell _).trans q3
  replace hb := gr_sm hb hs
  replace hsz : w.heap.size < w5.heap.size := by rw [hs.size]; exact hsz
  replace i1 := i1.same hs
  replace i2 := i2.same hs
  replace i3 := i3.same hs
  clear hs
  obtain ⟨pb, pf, rfl, idr⟩ := i1.drop (k := n + 1) (by omega) CC.out
  have hcc : ¬ (c1 = n + 1) := by have := CC.out; omega
  have hlf : (to.length + (xs.drop (n + 1)).length) * 8 ≤ 140737488351232 := by simp; omega
  have hl1 : (n : Int) + 1 ≤ (xs.length : Int) := by omega
  have hl2 : 0 ≤ (n : Int) + 1 := by omega
  have hl3 : ((n : Int) + 1).toNat = n + 1 := by omega
  have hl4 : IntKind.i64.wrap ((n : Int) + 1) = (n : Int) + 1 := IntWalk.i64_in _ (by omega)
  have hc := fun m => rwith_any to (xs.drop (n + 1)) _ _ (w5.drewN m) (i3.same ⟨m, rfl⟩) (idr.same ⟨m, rfl⟩) hlf
  have HC := Lib.hid hc
  clear hlf hc
  go_wp2_with fail
  go_region_held3 (fun w' => w'.cell? ⟨w.heap.size, 2, none⟩ = some (.slice a3 n3 c3)) (first | go_keep | (exact (hbk.cell (p := ⟨w.heap.size, 2, none⟩) (by simp; omega)).trans (by go_keep)))
    (first | (go_at_call 56; refine (HC.out 1).mono ?_; rintro e w3 ⟨v', rfl, ho, hbk⟩))
  go_wp2
  go_ret2
  have hfin : q.length = n + 1 := HN.out
  refine Mv.some_ HM.out ?_ (gr_tr (gr_dn hb 1) hbk)
  rw [hfin]
  exact ho.mono hb.size

set_option maxRecDepth 100000 in
set_option maxHeartbeats 4000000 in
theorem rmove_k5h3n (xs q to : List Int) (pos : Int) (v1 v2 : Value) (w : World) (h1 : Ints w v1 xs) (h2 : OpAt w v2 5 q to pos) (s1 : smallB xs = true) (s2 : smallB q = true) (s3 : smallB to = true) (p1 : ¬ pos < 0) (p2 : ¬ 1048576 < pos) (hlen : (to.length + xs.length) * 8 ≤ 140737488351232) (hroom : ∀ a n c, v1 = .slice a n c → c = q.length) (hq : 0 < q.length) (hh : standsN q xs = 3)
    (hm : moveP xs 5 q to pos = some (to ++ xs.drop q.length)) :
    Calls Try.prog 41 #[v1, v2] w (Mv (moveP xs 5 q to pos) w) := by
  obtain ⟨pv, tv, r4, r5, r6, r7, r8, r9, r10, r11, r12, r13, r14, r15, r16, r17, r18, r19, r20, rfl, hp, ht⟩ := h2
  have HM := Lib.hid hm
  obtain ⟨a1, c1, rfl⟩ := h1.slice
  have b1 := h1.len
  obtain ⟨b3, b4, b5⟩ := (stands_bools (p := xs) hq).1 hh
  have HH := Lib.hid hh
  obtain ⟨n, hn⟩ : ∃ n, q.length = n + 1 := ⟨q.length - 1, by omega⟩
  have HN := Lib.hid hn
  obtain ⟨a2, c2, rfl⟩ := hp.slice_len hn
  obtain ⟨a3, n3, c3, rfl⟩ := ht.slice3
  have b2 := hp.len
  rw [hn] at b2
  have f0 : ((n : Int) + 1 == 0) = false := by rw [beq_eq_false_iff_ne]; omega
  have f0' : (((n + 1 : Nat) : Int) == 0) = false := by rw [beq_eq_false_iff_ne]; omega
  have SS1 := Lib.hid s1
  have PB : Hid (0 ≤ pos ∧ pos ≤ 1048576) := ⟨by omega, by omega⟩
  have BY : Hid (∀ d : Int, -1 ≤ d ∧ d ≤ 1 → -9223372036854775808 ≤ xs.getD (q.length - 1) 0 + d ∧ xs.getD (q.length - 1) 0 + d ≤ 9223372036854775807) := fun d hd => by have := small_get SS1.out (q.length - 1); omega
  have HQ := Lib.hid hq
  have l1 : n + 1 ≤ xs.length := by have := (stands_len (q := q) (p := xs) (by rw [hh]; decide)).2; omega
  have HQL : Hid (q.length ≤ xs.length) := by show _ ≤ _; omega
  have CC : Hid (c1 = n + 1) := by show _ = _; rw [← hn]; exact hroom _ _ _ rfl
  clear hroom
  clear hm hh hn hq
  go_enter Try.func41, Try.ntmps41
  go_wp2_with fail
  refine (rsmall_any _ _ _ (h1.alloc _)).mono ?_
  rintro e w1 ⟨rfl, rfl⟩
  rw [s1]
  go_wp2_with fail
  refine (rsmall_any _ _ _ (hp.alloc _)).mono ?_
  rintro e w1 ⟨rfl, rfl⟩
  rw [s2]
  go_wp2_with fail
  refine (rsmall_any _ _ _ (ht.alloc _)).mono ?_
  rintro e w1 ⟨rfl, rfl⟩
  rw [s3]
  go_wp2_with fail
  refine (rsame_any _ _ _ _ _ (hp.alloc _) (h1.alloc _)).mono ?_
  rintro e w2 ⟨rfl, hs⟩
  rw [b3]
  have q0 := (hs.cell _).trans (box_get1 w _ _ 0 (.int .i64 5) rfl)
  have q1 := (hs.cell _).trans (box_get1 w _ _ 1 (.slice a2 (n + 1) c2) rfl)
  have q2 := (hs.cell _).trans (box_get1 w _ _ 2 (.slice a3 n3 c3) rfl)
  have q3 := (hs.cell _).trans (box_get1 w _ _ 3 (.int .i64 pos) rfl)
  have hb := gr_sm (gr_al (gr_refl w) _) hs
  have hsz : w.heap.size < w2.heap.size := by rw [hs.size]; simp
  have i1 := (h1.alloc _).same hs
  have i2 := (hp.alloc _).same hs
  have i3 := (ht.alloc _).same hs
  clear h1 hp ht hs
  go_wp2_with fail
  refine (rabove_any _ _ _ _ _ i2 i1).mono ?_
  rintro e w4 ⟨rfl, hs⟩
  rw [b4]
  replace q0 := (hs.cell _).trans q0
  replace q1 := (hs.cell _).trans q1
  replace q2 := (hs.cell _).trans q2
  replace q3 := (hs.cell _).trans q3
  replace hb := gr_sm hb hs
  replace hsz : w.heap.size < w4.heap.size := by rw [hs.size]; exact hsz
  replace i1 := i1.same hs
  replace i2 := i2.same hs
  replace i3 := i3.same hs
  clear hs
  go_wp2_with fail
  refine (rleft_any _ _ _ _ _ i2 i1).mono ?_
  rintro e w5 ⟨rfl, hs⟩
  rw [b5]
  replace q0 := (hs.cell _).trans q0
  replace q1 := (hs.cell _).trans q1
  replace q2 := (hs.cell _).trans q2
  replace q3 := (hs.cell _).trans q3
  replace hb := gr_sm hb hs
  replace hsz : w.heap.size < w5.heap.size := by rw [hs.size]; exact hsz
  replace i1 := i1.same hs
  replace i2 := i2.same hs
  replace i3 := i3.same hs
  clear hs
  obtain rfl := CC.out
  have hxl : xs.length = n + 1 := by obtain ⟨_, _, he, hle, _⟩ := i1; simp only [Value.slice.injEq] at he; omega
  have idr : Ints w5 (.slice a1 (xs.length - (n + 1)) 0) (xs.drop (n + 1)) := by rw [show xs.length - (n + 1) = 0 from by omega]; exact (i1.drop_end (k := n + 1) (c := 0) (by omega)).1
  have HXL := Lib.hid hxl
  clear hxl
  have hlf : (to.length + (xs.drop (n + 1)).length) * 8 ≤ 140737488351232 := by simp; omega
  have hl1 : (n : Int) + 1 ≤ (xs.length : Int) := by omega
  have hl2 : 0 ≤ (n : Int) + 1 := by omega
  have hl3 : ((n : Int) + 1).toNat = n + 1 := by omega
  have hl4 : IntKind.i64.wrap ((n : Int) + 1) = (n : Int) + 1 := IntWalk.i64_in _ (by omega)
  have hc := fun m => rwith_any to (xs.drop (n + 1)) _ _ (w5.drewN m) (i3.same ⟨m, rfl⟩) (idr.same ⟨m, rfl⟩) hlf
  have HC := Lib.hid hc
  clear hlf hc
  go_wp2_with fail
  go_region_held3 (fun w' => w'.cell? ⟨w.heap.size, 2, none⟩ = some (.slice a3 n3 c3)) (first | go_keep | (exact (hbk.cell (p := ⟨w.heap.size, 2, none⟩) (by simp; omega)).trans (by go_keep)))
    (first | (go_at_call 56; refine (HC.out 1).mono ?_; rintro e w3 ⟨v', rfl, ho, hbk⟩))
  go_wp2
  go_ret2
  have hfin : q.length = n + 1 := HN.out
  refine Mv.some_ HM.out ?_ (gr_tr (gr_dn hb 1) hbk)
  rw [hfin]
  exact ho.mono hb.size

set_option maxRecDepth 100000 in
set_option maxHeartbeats 4000000 in
theorem rmove_k5h0tz (xs q to : List Int) (pos : Int) (v1 v2 : Value) (w : World) (h1 : Ints w v1 xs) (h2 : OpAt w v2 5 q to pos) (s1 : smallB xs = true) (s2 : smallB q = true) (s3 : smallB to = true) (p1 : ¬ pos < 0) (p2 : ¬ 1048576 < pos) (hto : to.length = 0) (hq : 0 < q.length) (hh : standsN q xs = 0)
    (hm : moveP xs 5 q to pos = some (insL xs to)) :
    Calls Try.prog 41 #[v1, v2] w (Mv (moveP xs 5 q to pos) w) := by
  obtain ⟨pv, tv, r4, r5, r6, r7, r8, r9, r10, r11, r12, r13, r14, r15, r16, r17, r18, r19, r20, rfl, hp, ht⟩ := h2
  have HM := Lib.hid hm
  obtain ⟨a1, c1, rfl⟩ := h1.slice
  have b1 := h1.len
  obtain ⟨b3, b4, b5⟩ := (stands_bools (p := xs) hq).2.2.2 hh
  have HH := Lib.hid hh
  obtain ⟨n, hn⟩ : ∃ n, q.length = n + 1 := ⟨q.length - 1, by omega⟩
  have HN := Lib.hid hn
  obtain ⟨a2, c2, rfl⟩ := hp.slice_len hn
  obtain ⟨a3, c3, rfl⟩ := ht.slice_len hto
  have b2 := hp.len
  rw [hn] at b2
  have f0 : ((n : Int) + 1 == 0) = false := by rw [beq_eq_false_iff_ne]; omega
  have f0' : (((n + 1 : Nat) : Int) == 0) = false := by rw [beq_eq_false_iff_ne]; omega
  have SS1 := Lib.hid s1
  have PB : Hid (0 ≤ pos ∧ pos ≤ 1048576) := ⟨by omega, by omega⟩
  have BY : Hid (∀ d : Int, -1 ≤ d ∧ d ≤ 1 → -9223372036854775808 ≤ xs.getD (q.length - 1) 0 + d ∧ xs.getD (q.length - 1) 0 + d ≤ 9223372036854775807) := fun d hd => by have := small_get SS1.out (q.length - 1); omega
  have HQ := Lib.hid hq
  have INS : Hid (insL (xs) to = xs) := by show _ = _; rw [insL, if_pos (by rw [standsN, if_pos hto])]
  clear hto
  clear hm hh hn hq
  go_enter Try.func41, Try.ntmps41
  go_wp2_with fail
  refine (rsmall_any _ _ _ (h1.alloc _)).mono ?_
  rintro e w1 ⟨rfl, rfl⟩
  rw [s1]
  go_wp2_with fail
  refine (rsmall_any _ _ _ (hp.alloc _)).mono ?_
  rintro e w1 ⟨rfl, rfl⟩
  rw [s2]
  go_wp2_with fail
  refine (rsmall_any _ _ _ (ht.alloc _)).mono ?_
  rintro e w1 ⟨rfl, rfl⟩
  rw [s3]
  go_wp2_with fail
  refine (rsame_any _ _ _ _ _ (hp.alloc _) (h1.alloc _)).mono ?_
  rintro e w2 ⟨rfl, hs⟩
  rw [b3]
  have q0 := (hs.cell _).trans (box_get1 w _ _ 0 (.int .i64 5) rfl)
  have q1 := (hs.cell _).trans (box_get1 w _ _ 1 (.slice a2 (n + 1) c2) rfl)
  have q2 := (hs.cell _).trans (box_get1 w _ _ 2 (.slice a3 0 c3) rfl)
  have q3 := (hs.cell _).trans (box_get1 w _ _ 3 (.int .i64 pos) rfl)
  have hb := gr_sm (gr_al (gr_refl w) _) hs
  have hsz : w.heap.size < w2.heap.size := by rw [hs.size]; simp
  have i1 := (h1.alloc _).same hs
  have i2 := (hp.alloc _).same hs
  have i3 := (ht.alloc _).same hs
  clear h1 hp ht hs
  go_wp2_with fail
  refine (rabove_any _ _ _ _ _ i2 i1).mono ?_
  rintro e w4 ⟨rfl, hs⟩
  rw [b4]
  replace q0 := (hs.cell _).trans q0
  replace q1 := (hs.cell _).trans q1
  replace q2 := (hs.cell _).trans q2
  replace q3 := (hs.cell _).trans q3
  replace hb := gr_sm hb hs
  replace hsz : w.heap.size < w4.heap.size := by rw [hs.size]; exact hsz
  replace i1 := i1.same hs
  replace i2 := i2.same hs
  replace i3 := i3.same hs
  clear hs
  go_wp2_with fail
  refine (rleft_any _ _ _ _ _ i2 i1).mono ?_
  rintro e w5 ⟨rfl, hs⟩
  rw [b5]
  replace q0 := (hs.cell _).trans q0
  replace q1 := (hs.cell _).trans q1
  replace q2 := (hs.cell _).trans q2
  replace q3 := (hs.cell _).trans q3
  replace hb := gr_sm hb hs
  replace hsz : w.heap.size < w5.heap.size := by rw [hs.size]; exact hsz
  replace i1 := i1.same hs
  replace i2 := i2.same hs
  replace i3 := i3.same hs
  clear hs
  go_wp2_with fail
  refine (rcopy_any (xs) _ _ i1).mono ?_
  rintro e w8 ⟨v8, rfl, ho8, hbk8⟩
  go_wp2
  go_ret2
  exact Mv.some_ (HM.out.trans (by rw [INS.out])) (ho8.mono hb.size) (gr_tr hb hbk8)

set_option maxRecDepth 100000 in
set_option maxHeartbeats 4000000 in
theorem rmove_k5h1tz (xs q to : List Int) (pos : Int) (v1 v2 : Value) (w : World) (h1 : Ints w v1 xs) (h2 : OpAt w v2 5 q to pos) (s1 : smallB xs = true) (s2 : smallB q = true) (s3 : smallB to = true) (p1 : ¬ pos < 0) (p2 : ¬ 1048576 < pos) (hto : to.length = 0) (hq : 0 < q.length) (hh : standsN q xs = 1)
    (hm : moveP xs 5 q to pos = some (insL (shiftL xs (q.length - 1) (-1)) to)) :
    Calls Try.prog 41 #[v1, v2] w (Mv (moveP xs 5 q to pos) w) := by
  obtain ⟨pv, tv, r4, r5, r6, r7, r8, r9, r10, r11, r12, r13, r14, r15, r16, r17, r18, r19, r20, rfl, hp, ht⟩ := h2
  have HM := Lib.hid hm
  obtain ⟨a1, c1, rfl⟩ := h1.slice
  have b1 := h1.len
  obtain ⟨b3, b4, b5⟩ := (stands_bools (p := xs) hq).2.2.1 hh
  have HH := Lib.hid hh
  obtain ⟨n, hn⟩ : ∃ n, q.length = n + 1 := ⟨q.length - 1, by omega⟩
  have HN := Lib.hid hn
  obtain ⟨a2, c2, rfl⟩ := hp.slice_len hn
  obtain ⟨a3, c3, rfl⟩ := ht.slice_len hto
  have b2 := hp.len
  rw [hn] at b2
  have f0 : ((n : Int) + 1 == 0) = false := by rw [beq_eq_false_iff_ne]; omega
  have f0' : (((n + 1 : Nat) : Int) == 0) = false := by rw [beq_eq_false_iff_ne]; omega
  have SS1 := Lib.hid s1
  have PB : Hid (0 ≤ pos ∧ pos ≤ 1048576) := ⟨by omega, by omega⟩
  have BY : Hid (∀ d : Int, -1 ≤ d ∧ d ≤ 1 → -9223372036854775808 ≤ xs.getD (q.length - 1) 0 + d ∧ xs.getD (q.length - 1) 0 + d ≤ 9223372036854775807) := fun d hd => by have := small_get SS1.out (q.length - 1); omega
  have HQ := Lib.hid hq
  have l1 : n + 1 ≤ xs.length := by have := (stands_len (q := q) (p := xs) (by rw [hh]; decide)).2; omega
  have HQL : Hid (q.length ≤ xs.length) := by show _ ≤ _; omega
  have INS : Hid (insL (shiftL xs (q.length - 1) (-1)) to = shiftL xs (q.length - 1) (-1)) := by show _ = _; rw [insL, if_pos (by rw [standsN, if_pos hto])]
  clear hto
  clear hm hh hn hq
  go_enter Try.func41, Try.ntmps41
  go_wp2_with fail
  refine (rsmall_any _ _ _ (h1.alloc _)).mono ?_
  rintro e w1 ⟨rfl, rfl⟩
  rw [s1]
  go_wp2_with fail
  refine (rsmall_any _ _ _ (hp.alloc _)).mono ?_
  rintro e w1 ⟨rfl, rfl⟩
  rw [s2]
  go_wp2_with fail
  refine (rsmall_any _ _ _ (ht.alloc _)).mono ?_
  rintro e w1 ⟨rfl, rfl⟩
  rw [s3]
  go_wp2_with fail
  refine (rsame_any _ _ _ _ _ (hp.alloc _) (h1.alloc _)).mono ?_
  rintro e w2 ⟨rfl, hs⟩
  rw [b3]
  have q0 := (hs.cell _).trans (box_get1 w _ _ 0 (.int .i64 5) rfl)
  have q1 := (hs.cell _).trans (box_get1 w _ _ 1 (.slice a2 (n + 1) c2) rfl)
  have q2 := (hs.cell _).trans (box_get1 w _ _ 2 (.slice a3 0 c3) rfl)
  have q3 := (hs.cell _).trans (box_get1 w _ _ 3 (.int .i64 pos) rfl)
  have hb := gr_sm (gr_al (gr_refl w) _) hs
  have hsz : w.heap.size < w2.heap.size := by rw [hs.size]; simp
  have i1 := (h1.alloc _).same hs
  have i2 := (hp.alloc _).same hs
  have i3 := (ht.alloc _).same hs
  clear h1 hp ht hs
  go_wp2_with fail
  refine (rabove_any _ _ _ _ _ i2 i1).mono ?_
  rintro e w4 ⟨rfl, hs⟩
  rw [b4]
  replace q0 := (hs.cell _).trans q0
  replace q1 := (hs.cell _).trans q1
  replace q2 := (hs.cell _).trans q2
  replace q3 := (hs.cell _).trans q3
  replace hb := gr_sm hb hs
  replace hsz : w.heap.size < w4.heap.size := by rw [hs.size]; exact hsz
  replace i1 := i1.same hs
  replace i2 := i2.same hs
  replace i3 := i3.same hs
  clear hs
  go_wp2_with fail
  refine (rleft_any _ _ _ _ _ i2 i1).mono ?_
  rintro e w5 ⟨rfl, hs⟩
  rw [b5]
  replace q0 := (hs.cell _).trans q0
  replace q1 := (hs.cell _).trans q1
  replace q2 := (hs.cell _).trans q2
  replace q3 := (hs.cell _).trans q3
  replace hb := gr_sm hb hs
  replace hsz : w.heap.size < w5.heap.size := by rw [hs.size]; exact hsz
  replace i1 := i1.same hs
  replace i2 := i2.same hs
  replace i3 := i3.same hs
  clear hs
  go_wp2_with fail
  refine (rby_any xs q _ _ (-1) _ i1 i2 HQ.out HQL.out (BY.out (-1) (by omega))).mono ?_
  rintro e w3 ⟨v', rfl, ho, hbk⟩
  replace q2 := (hbk.cell (p := ⟨w.heap.size, 2, none⟩) (by first | exact hsz | (simp; omega))).trans q2
  replace hb := gr_tr hb hbk
  replace i3 := i3.below hbk (Nat.le_refl _)
  have iL := ho.ints
  obtain ⟨aL, nL, cL, rfl⟩ := iL.slice3
  clear hbk q0 q1 q3 i1 i2 ho
  go_wp2_with fail
  refine (rcopy_any (shiftL xs (q.length - 1) (-1)) _ _ iL).mono ?_
  rintro e w8 ⟨v8, rfl, ho8, hbk8⟩
  go_wp2
  go_ret2
  exact Mv.some_ (HM.out.trans (by rw [INS.out])) (ho8.mono hb.size) (gr_tr hb hbk8)

set_option maxRecDepth 100000 in
set_option maxHeartbeats 4000000 in
theorem rmove_k5h0t3 (xs q to : List Int) (pos : Int) (v1 v2 : Value) (w : World) (h1 : Ints w v1 xs) (h2 : OpAt w v2 5 q to pos) (s1 : smallB xs = true) (s2 : smallB q = true) (s3 : smallB to = true) (p1 : ¬ pos < 0) (p2 : ¬ 1048576 < pos) (hto : 0 < to.length) (hst : standsN to (xs) = 3) (hq : 0 < q.length) (hh : standsN q xs = 0)
    (hm : moveP xs 5 q to pos = some (insL xs to)) :
    Calls Try.prog 41 #[v1, v2] w (Mv (moveP xs 5 q to pos) w) := by
  obtain ⟨pv, tv, r4, r5, r6, r7, r8, r9, r10, r11, r12, r13, r14, r15, r16, r17, r18, r19, r20, rfl, hp, ht⟩ := h2
  have HM := Lib.hid hm
  obtain ⟨a1, c1, rfl⟩ := h1.slice
  have b1 := h1.len
  obtain ⟨b3, b4, b5⟩ := (stands_bools (p := xs) hq).2.2.2 hh
  have HH := Lib.hid hh
  obtain ⟨n, hn⟩ : ∃ n, q.length = n + 1 := ⟨q.length - 1, by omega⟩
  have HN := Lib.hid hn
  obtain ⟨a2, c2, rfl⟩ := hp.slice_len hn
  obtain ⟨m, hm3⟩ : ∃ m, to.length = m + 1 := ⟨to.length - 1, by omega⟩
  obtain ⟨a3, c3, rfl⟩ := ht.slice_len hm3
  have g0 : decide ((0 : Int) < (m : Int) + 1) = true := decide_eq_true (by omega)
  have g0' : decide ((0 : Int) < ((m + 1 : Nat) : Int)) = true := decide_eq_true (by omega)
  have HTO := Lib.hid hto
  have b2 := hp.len
  rw [hn] at b2
  have f0 : ((n : Int) + 1 == 0) = false := by rw [beq_eq_false_iff_ne]; omega
  have f0' : (((n + 1 : Nat) : Int) == 0) = false := by rw [beq_eq_false_iff_ne]; omega
  have SS1 := Lib.hid s1
  have PB : Hid (0 ≤ pos ∧ pos ≤ 1048576) := ⟨by omega, by omega⟩
  have BY : Hid (∀ d : Int, -1 ≤ d ∧ d ≤ 1 → -9223372036854775808 ≤ xs.getD (q.length - 1) 0 + d ∧ xs.getD (q.length - 1) 0 + d ≤ 9223372036854775807) := fun d hd => by have := small_get SS1.out (q.length - 1); omega
  have HQ := Lib.hid hq
  obtain ⟨t3, t4, t5⟩ := (stands_bools (p := xs) hto).1 hst
  have T3 := Lib.hid t3; have T4 := Lib.hid t4; have T5 := Lib.hid t5
  clear t3 t4 t5
  have INS : Hid (insL (xs) to = shiftL (xs) (to.length - 1) 1) := by show _ = _; rw [insL, if_neg (by omega)]
  have HTL : Hid (to.length ≤ (xs).length) := by show _ ≤ _; exact (stands_len (q := to) (p := xs) (by omega)).2
  have HTB : Hid (-9223372036854775808 ≤ (xs).getD (to.length - 1) 0 + 1 ∧ (xs).getD (to.length - 1) 0 + 1 ≤ 9223372036854775807) := by
    show _ ∧ _
    have h1 := small_get SS1.out (to.length - 1)
    omega
  clear hst
  clear hto
  clear hm3
  clear hm hh hn hq
  go_enter Try.func41, Try.ntmps41
  go_wp2_with fail
  refine (rsmall_any _ _ _ (h1.alloc _)).mono ?_
  rintro e w1 ⟨rfl, rfl⟩
  rw [s1]
  go_wp2_with fail
  refine (rsmall_any _ _ _ (hp.alloc _)).mono ?_
  rintro e w1 ⟨rfl, rfl⟩
  rw [s2]
  go_wp2_with fail
  refine (rsmall_any _ _ _ (ht.alloc _)).mono ?_
  rintro e w1 ⟨rfl, rfl⟩
  rw [s3]
  go_wp2_with fail
  refine (rsame_any _ _ _ _ _ (hp.alloc _) (h1.alloc _)).mono ?_
  rintro e w2 ⟨rfl, hs⟩
  rw [b3]
  have q0 := (hs.cell _).trans (box_get1 w _ _ 0 (.int .i64 5) rfl)
  have q1 := (hs.cell _).trans (box_get1 w _ _ 1 (.slice a2 (n + 1) c2) rfl)
  have q2 := (hs.cell _).trans (box_get1 w _ _ 2 (.slice a3 (m + 1) c3) rfl)
  have q3 := (hs.cell _).trans (box_get1 w _ _ 3 (.int .i64 pos) rfl)
  have hb := gr_sm (gr_al (gr_refl w) _) hs
  have hsz : w.heap.size < w2.heap.size := by rw [hs.size]; simp
  have i1 := (h1.alloc _).same hs
  have i2 := (hp.alloc _).same hs
  have i3 := (ht.alloc _).same hs
  clear h1 hp ht hs
  go_wp2_with fail
  refine (rabove_any _ _ _ _ _ i2 i1).mono ?_
  rintro e w4 ⟨rfl, hs⟩
  rw [b4]
  replace q0 := (hs.cell _).trans q0
  replace q1 := (hs.cell _).trans q1
  replace q2 := (hs.cell _).trans q2
  replace q3 := (hs.cell _).trans q3
  replace hb := gr_sm hb hs
  replace hsz : w.heap.size < w4.heap.size := by rw [hs.size]; exact hsz
  replace i1 := i1.same hs
  replace i2 := i2.same hs
  replace i3 := i3.same hs
  clear hs
  go_wp2_with fail
  refine (rleft_any _ _ _ _ _ i2 i1).mono ?_
  rintro e w5 ⟨rfl, hs⟩
  rw [b5]
  replace q0 := (hs.cell _).trans q0
  replace q1 := (hs.cell _).trans q1
  replace q2 := (hs.cell _).trans q2
  replace q3 := (hs.cell _).trans q3
  replace hb := gr_sm hb hs
  replace hsz : w.heap.size < w5.heap.size := by rw [hs.size]; exact hsz
  replace i1 := i1.same hs
  replace i2 := i2.same hs
  replace i3 := i3.same hs
  clear hs
  go_wp2_with fail
  refine (rsame_any _ _ _ _ _ i3 i1).mono ?_
  rintro e w6 ⟨rfl, hs⟩
  rw [T3.out]
  have hb6 := gr_sm hb hs
  have i36 := i3.same hs
  have iL6 := i1.same hs
  clear hs
  go_wp2_with fail
  refine (rby_any (xs) to _ _ 1 _ iL6 i36 HTO.out HTL.out HTB.out).mono ?_
  rintro e w9 ⟨v9, rfl, ho9, hbk9⟩
  go_wp2
  go_ret2
  exact Mv.some_ (HM.out.trans (by rw [INS.out])) (ho9.mono hb6.size) (gr_tr hb6 hbk9)

set_option maxRecDepth 100000 in
set_option maxHeartbeats 4000000 in
theorem rmove_k5h1t3 (xs q to : List Int) (pos : Int) (v1 v2 : Value) (w : World) (h1 : Ints w v1 xs) (h2 : OpAt w v2 5 q to pos) (s1 : smallB xs = true) (s2 : smallB q = true) (s3 : smallB to = true) (p1 : ¬ pos < 0) (p2 : ¬ 1048576 < pos) (hto : 0 < to.length) (hst : standsN to (shiftL xs (q.length - 1) (-1)) = 3) (hq : 0 < q.length) (hh : standsN q xs = 1)
    (hm : moveP xs 5 q to pos = some (insL (shiftL xs (q.length - 1) (-1)) to)) :
    Calls Try.prog 41 #[v1, v2] w (Mv (moveP xs 5 q to pos) w) := by
  obtain ⟨pv, tv, r4, r5, r6, r7, r8, r9, r10, r11, r12, r13, r14, r15, r16, r17, r18, r19, r20, rfl, hp, ht⟩ := h2
  have HM := Lib.hid hm
  obtain ⟨a1, c1, rfl⟩ := h1.slice
  have b1 := h1.len
  obtain ⟨b3, b4, b5⟩ := (stands_bools (p := xs) hq).2.2.1 hh
  have HH := Lib.hid hh
  obtain ⟨n, hn⟩ : ∃ n, q.length = n + 1 := ⟨q.length - 1, by omega⟩
  have HN := Lib.hid hn
  obtain ⟨a2, c2, rfl⟩ := hp.slice_len hn
  obtain ⟨m, hm3⟩ : ∃ m, to.length = m + 1 := ⟨to.length - 1, by omega⟩
  obtain ⟨a3, c3, rfl⟩ := ht.slice_len hm3
  have g0 : decide ((0 : Int) < (m : Int) + 1) = true := decide_eq_true (by omega)
  have g0' : decide ((0 : Int) < ((m + 1 : Nat) : Int)) = true := decide_eq_true (by omega)
  have HTO := Lib.hid hto
  have b2 := hp.len
  rw [hn] at b2
  have f0 : ((n : Int) + 1 == 0) = false := by rw [beq_eq_false_iff_ne]; omega
  have f0' : (((n + 1 : Nat) : Int) == 0) = false := by rw [beq_eq_false_iff_ne]; omega
  have SS1 := Lib.hid s1
  have PB : Hid (0 ≤ pos ∧ pos ≤ 1048576) := ⟨by omega, by omega⟩
  have BY : Hid (∀ d : Int, -1 ≤ d ∧ d ≤ 1 → -9223372036854775808 ≤ xs.getD (q.length - 1) 0 + d ∧ xs.getD (q.length - 1) 0 + d ≤ 9223372036854775807) := fun d hd => by have := small_get SS1.out (q.length - 1); omega
  have HQ := Lib.hid hq
  have l1 : n + 1 ≤ xs.length := by have := (stands_len (q := q) (p := xs) (by rw [hh]; decide)).2; omega
  have HQL : Hid (q.length ≤ xs.length) := by show _ ≤ _; omega
  obtain ⟨t3, t4, t5⟩ := (stands_bools (p := shiftL xs (q.length - 1) (-1)) hto).1 hst
  have T3 := Lib.hid t3; have T4 := Lib.hid t4; have T5 := Lib.hid t5
  clear t3 t4 t5
  have INS : Hid (insL (shiftL xs (q.length - 1) (-1)) to = shiftL (shiftL xs (q.length - 1) (-1)) (to.length - 1) 1) := by show _ = _; rw [insL, if_neg (by omega)]
  have HTL : Hid (to.length ≤ (shiftL xs (q.length - 1) (-1)).length) := by show _ ≤ _; exact (stands_len (q := to) (p := shiftL xs (q.length - 1) (-1)) (by omega)).2
  have HTB : Hid (-9223372036854775808 ≤ (shiftL xs (q.length - 1) (-1)).getD (to.length - 1) 0 + 1 ∧ (shiftL xs (q.length - 1) (-1)).getD (to.length - 1) 0 + 1 ≤ 9223372036854775807) := by
    show _ ∧ _
    have h1 := small_get SS1.out (to.length - 1)
    by_cases he : q.length - 1 = to.length - 1
    · have := stands_len (q := q) (p := xs) (by omega)
      rw [he, shift_get_eq (by omega)]
      omega
    · rw [shift_get_ne he]
      omega
  clear hst
  clear hto
  clear hm3
  clear hm hh hn hq
  go_enter Try.func41, Try.ntmps41
  go_wp2_with fail
  refine (rsmall_any _ _ _ (h1.alloc _)).mono ?_
  rintro e w1 ⟨rfl, rfl⟩
  rw [s1]
  go_wp2_with fail
  refine (rsmall_any _ _ _ (hp.alloc _)).mono ?_
  rintro e w1 ⟨rfl, rfl⟩
  rw [s2]
  go_wp2_with fail
  refine (rsmall_any _ _ _ (ht.alloc _)).mono ?_
  rintro e w1 ⟨rfl, rfl⟩
  rw [s3]
  go_wp2_with fail
  refine (rsame_any _ _ _ _ _ (hp.alloc _) (h1.alloc _)).mono ?_
  rintro e w2 ⟨rfl, hs⟩
  rw [b3]
  have q0 := (hs.cell _).trans (box_get1 w _ _ 0 (.int .i64 5) rfl)
  have q1 := (hs.cell _).trans (box_get1 w _ _ 1 (.slice a2 (n + 1) c2) rfl)
  have q2 := (hs.cell _).trans (box_get1 w _ _ 2 (.slice a3 (m + 1) c3) rfl)
  have q3 := (hs.cell _).trans (box_get1 w _ _ 3 (.int .i64 pos) rfl)
  have hb := gr_sm (gr_al (gr_refl w) _) hs
  have hsz : w.heap.size < w2.heap.size := by rw [hs.size]; simp
  have i1 := (h1.alloc _).same hs
  have i2 := (hp.alloc _).same hs
  have i3 := (ht.alloc _).same hs
  clear h1 hp ht hs
  go_wp2_with fail
  refine (rabove_any _ _ _ _ _ i2 i1).mono ?_
  rintro e w4 ⟨rfl, hs⟩
  rw [b4]
  replace q0 := (hs.cell _).trans q0
  replace q1 := (hs.cell _).trans q1
  replace q2 := (hs.cell _).trans q2
  replace q3 := (hs.cell _).trans q3
  replace hb := gr_sm hb hs
  replace hsz : w.heap.size < w4.heap.size := by rw [hs.size]; exact hsz
  replace i1 := i1.same hs
  replace i2 := i2.same hs
  replace i3 := i3.same hs
  clear hs
  go_wp2_with fail
  refine (rleft_any _ _ _ _ _ i2 i1).mono ?_
  rintro e w5 ⟨rfl, hs⟩
  rw [b5]
  replace q0 := (hs.cell _).trans q0
  replace q1 := (hs.cell _).trans q1
  replace q2 := (hs.cell _).trans q2
  replace q3 := (hs.cell _).trans q3
  replace hb := gr_sm hb hs
  replace hsz : w.heap.size < w5.heap.size := by rw [hs.size]; exact hsz
  replace i1 := i1.same hs
  replace i2 := i2.same hs
  replace i3 := i3.same hs
  clear hs
  go_wp2_with fail
  refine (rby_any xs q _ _ (-1) _ i1 i2 HQ.out HQL.out (BY.out (-1) (by omega))).mono ?_
  rintro e w3 ⟨v', rfl, ho, hbk⟩
  replace q2 := (hbk.cell (p := ⟨w.heap.size, 2, none⟩) (by first | exact hsz | (simp; omega))).trans q2
  replace hb := gr_tr hb hbk
  replace i3 := i3.below hbk (Nat.le_refl _)
  have iL := ho.ints
  obtain ⟨aL, nL, cL, rfl⟩ := iL.slice3
  clear hbk q0 q1 q3 i1 i2 ho
  go_wp2_with fail
  refine (rsame_any _ _ _ _ _ i3 iL).mono ?_
  rintro e w6 ⟨rfl, hs⟩
  rw [T3.out]
  have hb6 := gr_sm hb hs
  have i36 := i3.same hs
  have iL6 := iL.same hs
  clear hs
  go_wp2_with fail
  refine (rby_any (shiftL xs (q.length - 1) (-1)) to _ _ 1 _ iL6 i36 HTO.out HTL.out HTB.out).mono ?_
  rintro e w9 ⟨v9, rfl, ho9, hbk9⟩
  go_wp2
  go_ret2
  exact Mv.some_ (HM.out.trans (by rw [INS.out])) (ho9.mono hb6.size) (gr_tr hb6 hbk9)

set_option maxRecDepth 100000 in
set_option maxHeartbeats 4000000 in
theorem rmove_k5h0t2 (xs q to : List Int) (pos : Int) (v1 v2 : Value) (w : World) (h1 : Ints w v1 xs) (h2 : OpAt w v2 5 q to pos) (s1 : smallB xs = true) (s2 : smallB q = true) (s3 : smallB to = true) (p1 : ¬ pos < 0) (p2 : ¬ 1048576 < pos) (hto : 0 < to.length) (hst : standsN to (xs) = 2) (hq : 0 < q.length) (hh : standsN q xs = 0)
    (hm : moveP xs 5 q to pos = some (insL xs to)) :
    Calls Try.prog 41 #[v1, v2] w (Mv (moveP xs 5 q to pos) w) := by
  obtain ⟨pv, tv, r4, r5, r6, r7, r8, r9, r10, r11, r12, r13, r14, r15, r16, r17, r18, r19, r20, rfl, hp, ht⟩ := h2
  have HM := Lib.hid hm
  obtain ⟨a1, c1, rfl⟩ := h1.slice
  have b1 := h1.len
  obtain ⟨b3, b4, b5⟩ := (stands_bools (p := xs) hq).2.2.2 hh
  have HH := Lib.hid hh
  obtain ⟨n, hn⟩ : ∃ n, q.length = n + 1 := ⟨q.length - 1, by omega⟩
  have HN := Lib.hid hn
  obtain ⟨a2, c2, rfl⟩ := hp.slice_len hn
  obtain ⟨m, hm3⟩ : ∃ m, to.length = m + 1 := ⟨to.length - 1, by omega⟩
  obtain ⟨a3, c3, rfl⟩ := ht.slice_len hm3
  have g0 : decide ((0 : Int) < (m : Int) + 1) = true := decide_eq_true (by omega)
  have g0' : decide ((0 : Int) < ((m + 1 : Nat) : Int)) = true := decide_eq_true (by omega)
  have HTO := Lib.hid hto
  have b2 := hp.len
  rw [hn] at b2
  have f0 : ((n : Int) + 1 == 0) = false := by rw [beq_eq_false_iff_ne]; omega
  have f0' : (((n + 1 : Nat) : Int) == 0) = false := by rw [beq_eq_false_iff_ne]; omega
  have SS1 := Lib.hid s1
  have PB : Hid (0 ≤ pos ∧ pos ≤ 1048576) := ⟨by omega, by omega⟩
  have BY : Hid (∀ d : Int, -1 ≤ d ∧ d ≤ 1 → -9223372036854775808 ≤ xs.getD (q.length - 1) 0 + d ∧ xs.getD (q.length - 1) 0 + d ≤ 9223372036854775807) := fun d hd => by have := small_get SS1.out (q.length - 1); omega
  have HQ := Lib.hid hq
  obtain ⟨t3, t4, t5⟩ := (stands_bools (p := xs) hto).2.1 hst
  have T3 := Lib.hid t3; have T4 := Lib.hid t4; have T5 := Lib.hid t5
  clear t3 t4 t5
  have INS : Hid (insL (xs) to = shiftL (xs) (to.length - 1) 1) := by show _ = _; rw [insL, if_neg (by omega)]
  have HTL : Hid (to.length ≤ (xs).length) := by show _ ≤ _; exact (stands_len (q := to) (p := xs) (by omega)).2
  have HTB : Hid (-9223372036854775808 ≤ (xs).getD (to.length - 1) 0 + 1 ∧ (xs).getD (to.length - 1) 0 + 1 ≤ 9223372036854775807) := by
    show _ ∧ _
    have h1 := small_get SS1.out (to.length - 1)
    omega
  clear hst
  clear hto
  clear hm3
  clear hm hh hn hq
  go_enter Try.func41, Try.ntmps41
  go_wp2_with fail
  refine (rsmall_any _ _ _ (h1.alloc _)).mono ?_
  rintro e w1 ⟨rfl, rfl⟩
  rw [s1]
  go_wp2_with fail
  refine (rsmall_any _ _ _ (hp.alloc _)).mono ?_
  rintro e w1 ⟨rfl, rfl⟩
  rw [s2]
  go_wp2_with fail
  refine (rsmall_any _ _ _ (ht.alloc _)).mono ?_
  rintro e w1 ⟨rfl, rfl⟩
  rw [s3]
  go_wp2_with fail
  refine (rsame_any _ _ _ _ _ (hp.alloc _) (h1.alloc _)).mono ?_
  rintro e w2 ⟨rfl, hs⟩
  rw [b3]
  have q0 := (hs.cell _).trans (box_get1 w _ _ 0 (.int .i64 5) rfl)
  have q1 := (hs.cell _).trans (box_get1 w _ _ 1 (.slice a2 (n + 1) c2) rfl)
  have q2 := (hs.cell _).trans (box_get1 w _ _ 2 (.slice a3 (m + 1) c3) rfl)
  have q3 := (hs.cell _).trans (box_get1 w _ _ 3 (.int .i64 pos) rfl)
  have hb := gr_sm (gr_al (gr_refl w) _) hs
  have hsz : w.heap.size < w2.heap.size := by rw [hs.size]; simp
  have i1 := (h1.alloc _).same hs
  have i2 := (hp.alloc _).same hs
  have i3 := (ht.alloc _).same hs
  clear h1 hp ht hs
  go_wp2_with fail
  refine (rabove_any _ _ _ _ _ i2 i1).mono ?_
  rintro e w4 ⟨rfl, hs⟩
  rw [b4]
  replace q0 := (hs.cell _).trans q0
  replace q1 := (hs.cell _).trans q1
  replace q2 := (hs.cell _).trans q2
  replace q3 := (hs.cell _).trans q3
  replace hb := gr_sm hb hs
  replace hsz : w.heap.size < w4.heap.size := by rw [hs.size]; exact hsz
  replace i1 := i1.same hs
  replace i2 := i2.same hs
  replace i3 := i3.same hs
  clear hs
  go_wp2_with fail
  refine (rleft_any _ _ _ _ _ i2 i1).mono ?_
  rintro e w5 ⟨rfl, hs⟩
  rw [b5]
  replace q0 := (hs.cell _).trans q0
  replace q1 := (hs.cell _).trans q1
  replace q2 := (hs.cell _).trans q2
  replace q3 := (hs.cell _).trans q3
  replace hb := gr_sm hb hs
  replace hsz : w.heap.size < w5.heap.size := by rw [hs.size]; exact hsz
  replace i1 := i1.same hs
  replace i2 := i2.same hs
  replace i3 := i3.same hs
  clear hs
  go_wp2_with fail
  refine (rsame_any _ _ _ _ _ i3 i1).mono ?_
  rintro e w6 ⟨rfl, hs⟩
  rw [T3.out]
  have hb6 := gr_sm hb hs
  have i36 := i3.same hs
  have iL6 := i1.same hs
  clear hs
  go_wp2_with fail
  refine (rabove_any _ _ _ _ _ i36 iL6).mono ?_
  rintro e w7 ⟨rfl, hs⟩
  rw [T4.out]
  have hb7 := gr_sm hb6 hs
  have i37 := i36.same hs
  have iL7 := iL6.same hs
  clear hs
  go_wp2_with fail
  refine (rby_any (xs) to _ _ 1 _ iL7 i37 HTO.out HTL.out HTB.out).mono ?_
  rintro e w9 ⟨v9, rfl, ho9, hbk9⟩
  go_wp2
  go_ret2
  exact Mv.some_ (HM.out.trans (by rw [INS.out])) (ho9.mono hb7.size) (gr_tr hb7 hbk9)

set_option maxRecDepth 100000 in
set_option maxHeartbeats 4000000 in
theorem rmove_k5h1t2 (xs q to : List Int) (pos : Int) (v1 v2 : Value) (w : World) (h1 : Ints w v1 xs) (h2 : OpAt w v2 5 q to pos) (s1 : smallB xs = true) (s2 : smallB q = true) (s3 : smallB to = true) (p1 : ¬ pos < 0) (p2 : ¬ 1048576 < pos) (hto : 0 < to.length) (hst : standsN to (shiftL xs (q.length - 1) (-1)) = 2) (hq : 0 < q.length) (hh : standsN q xs = 1)
    (hm : moveP xs 5 q to pos = some (insL (shiftL xs (q.length - 1) (-1)) to)) :
    Calls Try.prog 41 #[v1, v2] w (Mv (moveP xs 5 q to pos) w) := by
  obtain ⟨pv, tv, r4, r5, r6, r7, r8, r9, r10, r11, r12, r13, r14, r15, r16, r17, r18, r19, r20, rfl, hp, ht⟩ := h2
  have HM := Lib.hid hm
  obtain ⟨a1, c1, rfl⟩ := h1.slice
  have b1 := h1.len
  obtain ⟨b3, b4, b5⟩ := (stands_bools (p := xs) hq).2.2.1 hh
  have HH := Lib.hid hh
  obtain ⟨n, hn⟩ : ∃ n, q.length = n + 1 := ⟨q.length - 1, by omega⟩
  have HN := Lib.hid hn
  obtain ⟨a2, c2, rfl⟩ := hp.slice_len hn
  obtain ⟨m, hm3⟩ : ∃ m, to.length = m + 1 := ⟨to.length - 1, by omega⟩
  obtain ⟨a3, c3, rfl⟩ := ht.slice_len hm3
  have g0 : decide ((0 : Int) < (m : Int) + 1) = true := decide_eq_true (by omega)
  have g0' : decide ((0 : Int) < ((m + 1 : Nat) : Int)) = true := decide_eq_true (by omega)
  have HTO := Lib.hid hto
  have b2 := hp.len
  rw [hn] at b2
  have f0 : ((n : Int) + 1 == 0) = false := by rw [beq_eq_false_iff_ne]; omega
  have f0' : (((n + 1 : Nat) : Int) == 0) = false := by rw [beq_eq_false_iff_ne]; omega
  have SS1 := Lib.hid s1
  have PB : Hid (0 ≤ pos ∧ pos ≤ 1048576) := ⟨by omega, by omega⟩
  have BY : Hid (∀ d : Int, -1 ≤ d ∧ d ≤ 1 → -9223372036854775808 ≤ xs.getD (q.length - 1) 0 + d ∧ xs.getD (q.length - 1) 0 + d ≤ 9223372036854775807) := fun d hd => by have := small_get SS1.out (q.length - 1); omega
  have HQ := Lib.hid hq
  have l1 : n + 1 ≤ xs.length := by have := (stands_len (q := q) (p := xs) (by rw [hh]; decide)).2; omega
  have HQL : Hid (q.length ≤ xs.length) := by show _ ≤ _; omega
  obtain ⟨t3, t4, t5⟩ := (stands_bools (p := shiftL xs (q.length - 1) (-1)) hto).2.1 hst
  have T3 := Lib.hid t3; have T4 := Lib.hid t4; have T5 := Lib.hid t5
  clear t3 t4 t5
  have INS : Hid (insL (shiftL xs (q.length - 1) (-1)) to = shiftL (shiftL xs (q.length - 1) (-1)) (to.length - 1) 1) := by show _ = _; rw [insL, if_neg (by omega)]
  have HTL : Hid (to.length ≤ (shiftL xs (q.length - 1) (-1)).length) := by show _ ≤ _; exact (stands_len (q := to) (p := shiftL xs (q.length - 1) (-1)) (by omega)).2
  have HTB : Hid (-9223372036854775808 ≤ (shiftL xs (q.length - 1) (-1)).getD (to.length - 1) 0 + 1 ∧ (shiftL xs (q.length - 1) (-1)).getD (to.length - 1) 0 + 1 ≤ 9223372036854775807) := by
    show _ ∧ _
    have h1 := small_get SS1.out (to.length - 1)
    by_cases he : q.length - 1 = to.length - 1
    · have := stands_len (q := q) (p := xs) (by omega)
      rw [he, shift_get_eq (by omega)]
      omega
    · rw [shift_get_ne he]
      omega
  clear hst
  clear hto
  clear hm3
  clear hm hh hn hq
  go_enter Try.func41, Try.ntmps41
  go_wp2_with fail
  refine (rsmall_any _ _ _ (h1.alloc _)).mono ?_
  rintro e w1 ⟨rfl, rfl⟩
  rw [s1]
  go_wp2_with fail
  refine (rsmall_any _ _ _ (hp.alloc _)).mono ?_
  rintro e w1 ⟨rfl, rfl⟩
  rw [s2]
  go_wp2_with fail
  refine (rsmall_any _ _ _ (ht.alloc _)).mono ?_
  rintro e w1 ⟨rfl, rfl⟩
  rw [s3]
  go_wp2_with fail
  refine (rsame_any _ _ _ _ _ (hp.alloc _) (h1.alloc _)).mono ?_
  rintro e w2 ⟨rfl, hs⟩
  rw [b3]
  have q0 := (hs.cell _).trans (box_get1 w _ _ 0 (.int .i64 5) rfl)
  have q1 := (hs.cell _).trans (box_get1 w _ _ 1 (.slice a2 (n + 1) c2) rfl)
  have q2 := (hs.cell _).trans (box_get1 w _ _ 2 (.slice a3 (m + 1) c3) rfl)
  have q3 := (hs.cell _).trans (box_get1 w _ _ 3 (.int .i64 pos) rfl)
  have hb := gr_sm (gr_al (gr_refl w) _) hs
  have hsz : w.heap.size < w2.heap.size := by rw [hs.size]; simp
  have i1 := (h1.alloc _).same hs
  have i2 := (hp.alloc _).same hs
  have i3 := (ht.alloc _).same hs
  clear h1 hp ht hs
  go_wp2_with fail
  refine (rabove_any _ _ _ _ _ i2 i1).mono ?_
  rintro e w4 ⟨rfl, hs⟩
  rw [b4]
  replace q0 := (hs.cell _).trans q0
  replace q1 := (hs.cell _).trans q1
  replace q2 := (hs.cell _).trans q2
  replace q3 := (hs.cell _).trans q3
  replace hb := gr_sm hb hs
  replace hsz : w.heap.size < w4.heap.size := by rw [hs.size]; exact hsz
  replace i1 := i1.same hs
  replace i2 := i2.same hs
  replace i3 := i3.same hs
  clear hs
  go_wp2_with fail
  refine (rleft_any _ _ _ _ _ i2 i1).mono ?_
  rintro e w5 ⟨rfl, hs⟩
  rw [b5]
  replace q0 := (hs.cell _).trans q0
  replace q1 := (hs.cell _).trans q1
  replace q2 := (hs.cell _).trans q2
  replace q3 := (hs.cell _).trans q3
  replace hb := gr_sm hb hs
  replace hsz : w.heap.size < w5.heap.size := by rw [hs.size]; exact hsz
  replace i1 := i1.same hs
  replace i2 := i2.same hs
  replace i3 := i3.same hs
  clear hs
  go_wp2_with fail
  refine (rby_any xs q _ _ (-1) _ i1 i2 HQ.out HQL.out (BY.out (-1) (by omega))).mono ?_
  rintro e w3 ⟨v', rfl, ho, hbk⟩
  replace q2 := (hbk.cell (p := ⟨w.heap.size, 2, none⟩) (by first | exact hsz | (simp; omega))).trans q2
  replace hb := gr_tr hb hbk
  replace i3 := i3.below hbk (Nat.le_refl _)
  have iL := ho.ints
  obtain ⟨aL, nL, cL, rfl⟩ := iL.slice3
  clear hbk q0 q1 q3 i1 i2 ho
  go_wp2_with fail
  refine (rsame_any _ _ _ _ _ i3 iL).mono ?_
  rintro e w6 ⟨rfl, hs⟩
  rw [T3.out]
  have hb6 := gr_sm hb hs
  have i36 := i3.same hs
  have iL6 := iL.same hs
  clear hs
  go_wp2_with fail
  refine (rabove_any _ _ _ _ _ i36 iL6).mono ?_
  rintro e w7 ⟨rfl, hs⟩
  rw [T4.out]
  have hb7 := gr_sm hb6 hs
  have i37 := i36.same hs
  have iL7 := iL6.same hs
  clear hs
  go_wp2_with fail
  refine (rby_any (shiftL xs (q.length - 1) (-1)) to _ _ 1 _ iL7 i37 HTO.out HTL.out HTB.out).mono ?_
  rintro e w9 ⟨v9, rfl, ho9, hbk9⟩
  go_wp2
  go_ret2
  exact Mv.some_ (HM.out.trans (by rw [INS.out])) (ho9.mono hb7.size) (gr_tr hb7 hbk9)

set_option maxRecDepth 100000 in
set_option maxHeartbeats 4000000 in
theorem rmove_k5h0t1 (xs q to : List Int) (pos : Int) (v1 v2 : Value) (w : World) (h1 : Ints w v1 xs) (h2 : OpAt w v2 5 q to pos) (s1 : smallB xs = true) (s2 : smallB q = true) (s3 : smallB to = true) (p1 : ¬ pos < 0) (p2 : ¬ 1048576 < pos) (hto : 0 < to.length) (hst : standsN to (xs) = 1) (hq : 0 < q.length) (hh : standsN q xs = 0)
    (hm : moveP xs 5 q to pos = some (insL xs to)) :
    Calls Try.prog 41 #[v1, v2] w (Mv (moveP xs 5 q to pos) w) := by
  obtain ⟨pv, tv, r4, r5, r6, r7, r8, r9, r10, r11, r12, r13, r14, r15, r16, r17, r18, r19, r20, rfl, hp, ht⟩ := h2
  have HM := Lib.hid hm
  obtain ⟨a1, c1, rfl⟩ := h1.slice
  have b1 := h1.len
  obtain ⟨b3, b4, b5⟩ := (stands_bools (p := xs) hq).2.2.2 hh
  have HH := Lib.hid hh
  obtain ⟨n, hn⟩ : ∃ n, q.length = n + 1 := ⟨q.length - 1, by omega⟩
  have HN := Lib.hid hn
  obtain ⟨a2, c2, rfl⟩ := hp.slice_len hn
  obtain ⟨m, hm3⟩ : ∃ m, to.length = m + 1 := ⟨to.length - 1, by omega⟩
  obtain ⟨a3, c3, rfl⟩ := ht.slice_len hm3
  have g0 : decide ((0 : Int) < (m : Int) + 1) = true := decide_eq_true (by omega)
  have g0' : decide ((0 : Int) < ((m + 1 : Nat) : Int)) = true := decide_eq_true (by omega)
  have HTO := Lib.hid hto
  have b2 := hp.len
  rw [hn] at b2
  have f0 : ((n : Int) + 1 == 0) = false := by rw [beq_eq_false_iff_ne]; omega
  have f0' : (((n + 1 : Nat) : Int) == 0) = false := by rw [beq_eq_false_iff_ne]; omega
  have SS1 := Lib.hid s1
  have PB : Hid (0 ≤ pos ∧ pos ≤ 1048576) := ⟨by omega, by omega⟩
  have BY : Hid (∀ d : Int, -1 ≤ d ∧ d ≤ 1 → -9223372036854775808 ≤ xs.getD (q.length - 1) 0 + d ∧ xs.getD (q.length - 1) 0 + d ≤ 9223372036854775807) := fun d hd => by have := small_get SS1.out (q.length - 1); omega
  have HQ := Lib.hid hq
  obtain ⟨t3, t4, t5⟩ := (stands_bools (p := xs) hto).2.2.1 hst
  have T3 := Lib.hid t3; have T4 := Lib.hid t4; have T5 := Lib.hid t5
  clear t3 t4 t5
  have INS : Hid (insL (xs) to = shiftL (xs) (to.length - 1) 1) := by show _ = _; rw [insL, if_neg (by omega)]
  have HTL : Hid (to.length ≤ (xs).length) := by show _ ≤ _; exact (stands_len (q := to) (p := xs) (by omega)).2
  have HTB : Hid (-9223372036854775808 ≤ (xs).getD (to.length - 1) 0 + 1 ∧ (xs).getD (to.length - 1) 0 + 1 ≤ 9223372036854775807) := by
    show _ ∧ _
    have h1 := small_get SS1.out (to.length - 1)
    omega
  clear hst
  clear hto
  clear hm3
  clear hm hh hn hq
  go_enter Try.func41, Try.ntmps41
  go_wp2_with fail
  refine (rsmall_any _ _ _ (h1.alloc _)).mono ?_
  rintro e w1 ⟨rfl, rfl⟩
  rw [s1]
  go_wp2_with fail
  refine (rsmall_any _ _ _ (hp.alloc _)).mono ?_
  rintro e w1 ⟨rfl, rfl⟩
  rw [s2]
  go_wp2_with fail
  refine (rsmall_any _ _ _ (ht.alloc _)).mono ?_
  rintro e w1 ⟨rfl, rfl⟩
  rw [s3]
  go_wp2_with fail
  refine (rsame_any _ _ _ _ _ (hp.alloc _) (h1.alloc _)).mono ?_
  rintro e w2 ⟨rfl, hs⟩
  rw [b3]
  have q0 := (hs.cell _).trans (box_get1 w _ _ 0 (.int .i64 5) rfl)
  have q1 := (hs.cell _).trans (box_get1 w _ _ 1 (.slice a2 (n + 1) c2) rfl)
  have q2 := (hs.cell _).trans (box_get1 w _ _ 2 (.slice a3 (m + 1) c3) rfl)
  have q3 := (hs.cell _).trans (box_get1 w _ _ 3 (.int .i64 pos) rfl)
  have hb := gr_sm (gr_al (gr_refl w) _) hs
  have hsz : w.heap.size < w2.heap.size := by rw [hs.size]; simp
  have i1 := (h1.alloc _).same hs
  have i2 := (hp.alloc _).same hs
  have i3 := (ht.alloc _).same hs
  clear h1 hp ht hs
  go_wp2_with fail
  refine (rabove_any _ _ _ _ _ i2 i1).mono ?_
  rintro e w4 ⟨rfl, hs⟩
  rw [b4]
  replace q0 := (hs.cell _).trans q0
  replace q1 := (hs.cell _).trans q1
  replace q2 := (hs.cell _).trans q2
  replace q3 := (hs.cell _).trans q3
  replace hb := gr_sm hb hs
  replace hsz : w.heap.size < w4.heap.size := by rw [hs.size]; exact hsz
  replace i1 := i1.same hs
  replace i2 := i2.same hs
  replace i3 := i3.same hs
  clear hs
  go_wp2_with fail
  refine (rleft_any _ _ _ _ _ i2 i1).mono ?_
  rintro e w5 ⟨rfl, hs⟩
  rw [b5]
  replace q0 := (hs.cell _).trans q0
  replace q1 := (hs.cell _).trans q1
  replace q2 := (hs.cell _).trans q2
  replace q3 := (hs.cell _).trans q3
  replace hb := gr_sm hb hs
  replace hsz : w.heap.size < w5.heap.size := by rw [hs.size]; exact hsz
  replace i1 := i1.same hs
  replace i2 := i2.same hs
  replace i3 := i3.same hs
  clear hs
  go_wp2_with fail
  refine (rsame_any _ _ _ _ _ i3 i1).mono ?_
  rintro e w6 ⟨rfl, hs⟩
  rw [T3.out]
  have hb6 := gr_sm hb hs
  have i36 := i3.same hs
  have iL6 := i1.same hs
  clear hs
  go_wp2_with fail
  refine (rabove_any _ _ _ _ _ i36 iL6).mono ?_
  rintro e w7 ⟨rfl, hs⟩
  rw [T4.out]
  have hb7 := gr_sm hb6 hs
  have i37 := i36.same hs
  have iL7 := iL6.same hs
  clear hs
  go_wp2_with fail
  refine (rleft_any _ _ _ _ _ i37 iL7).mono ?_
  rintro e w8 ⟨rfl, hs⟩
  rw [T5.out]
  have hb8 := gr_sm hb7 hs
  have i38 := i37.same hs
  have iL8 := iL7.same hs
  clear hs
  go_wp2_with fail
  refine (rby_any (xs) to _ _ 1 _ iL8 i38 HTO.out HTL.out HTB.out).mono ?_
  rintro e w9 ⟨v9, rfl, ho9, hbk9⟩
  go_wp2
  go_ret2
  exact Mv.some_ (HM.out.trans (by rw [INS.out])) (ho9.mono hb8.size) (gr_tr hb8 hbk9)

set_option maxRecDepth 100000 in
set_option maxHeartbeats 4000000 in
theorem rmove_k5h1t1 (xs q to : List Int) (pos : Int) (v1 v2 : Value) (w : World) (h1 : Ints w v1 xs) (h2 : OpAt w v2 5 q to pos) (s1 : smallB xs = true) (s2 : smallB q = true) (s3 : smallB to = true) (p1 : ¬ pos < 0) (p2 : ¬ 1048576 < pos) (hto : 0 < to.length) (hst : standsN to (shiftL xs (q.length - 1) (-1)) = 1) (hq : 0 < q.length) (hh : standsN q xs = 1)
    (hm : moveP xs 5 q to pos = some (insL (shiftL xs (q.length - 1) (-1)) to)) :
    Calls Try.prog 41 #[v1, v2] w (Mv (moveP xs 5 q to pos) w) := by
  obtain ⟨pv, tv, r4, r5, r6, r7, r8, r9, r10, r11, r12, r13, r14, r15, r16, r17, r18, r19, r20, rfl, hp, ht⟩ := h2
  have HM := Lib.hid hm
  obtain ⟨a1, c1, rfl⟩ := h1.slice
  have b1 := h1.len
  obtain ⟨b3, b4, b5⟩ := (stands_bools (p := xs) hq).2.2.1 hh
  have HH := Lib.hid hh
  obtain ⟨n, hn⟩ : ∃ n, q.length = n + 1 := ⟨q.length - 1, by omega⟩
  have HN := Lib.hid hn
  obtain ⟨a2, c2, rfl⟩ := hp.slice_len hn
  obtain ⟨m, hm3⟩ : ∃ m, to.length = m + 1 := ⟨to.length - 1, by omega⟩
  obtain ⟨a3, c3, rfl⟩ := ht.slice_len hm3
  have g0 : decide ((0 : Int) < (m : Int) + 1) = true := decide_eq_true (by omega)
  have g0' : decide ((0 : Int) < ((m + 1 : Nat) : Int)) = true := decide_eq_true (by omega)
  have HTO := Lib.hid hto
  have b2 := hp.len
  rw [hn] at b2
  have f0 : ((n : Int) + 1 == 0) = false := by rw [beq_eq_false_iff_ne]; omega
  have f0' : (((n + 1 : Nat) : Int) == 0) = false := by rw [beq_eq_false_iff_ne]; omega
  have SS1 := Lib.hid s1
  have PB : Hid (0 ≤ pos ∧ pos ≤ 1048576) := ⟨by omega, by omega⟩
  have BY : Hid (∀ d : Int, -1 ≤ d ∧ d ≤ 1 → -9223372036854775808 ≤ xs.getD (q.length - 1) 0 + d ∧ xs.getD (q.length - 1) 0 + d ≤ 9223372036854775807) := fun d hd => by have := small_get SS1.out (q.length - 1); omega
  have HQ := Lib.hid hq
  have l1 : n + 1 ≤ xs.length := by have := (stands_len (q := q) (p := xs) (by rw [hh]; decide)).2; omega
  have HQL : Hid (q.length ≤ xs.length) := by show _ ≤ _; omega
  obtain ⟨t3, t4, t5⟩ := (stands_bools (p := shiftL xs (q.length - 1) (-1)) hto).2.2.1 hst
  have T3 := Lib.hid t3; have T4 := Lib.hid t4; have T5 := Lib.hid t5
  clear t3 t4 t5
  have INS : Hid (insL (shiftL xs (q.length - 1) (-1)) to = shiftL (shiftL xs (q.length - 1) (-1)) (to.length - 1) 1) := by show _ = _; rw [insL, if_neg (by omega)]
  have HTL : Hid (to.length ≤ (shiftL xs (q.length - 1) (-1)).length) := by show _ ≤ _; exact (stands_len (q := to) (p := shiftL xs (q.length - 1) (-1)) (by omega)).2
  have HTB : Hid (-9223372036854775808 ≤ (shiftL xs (q.length - 1) (-1)).getD (to.length - 1) 0 + 1 ∧ (shiftL xs (q.length - 1) (-1)).getD (to.length - 1) 0 + 1 ≤ 9223372036854775807) := by
    show _ ∧ _
    have h1 := small_get SS1.out (to.length - 1)
    by_cases he : q.length - 1 = to.length - 1
    · have := stands_len (q := q) (p := xs) (by omega)
      rw [he, shift_get_eq (by omega)]
      omega
    · rw [shift_get_ne he]
      omega
  clear hst
  clear hto
  clear hm3
  clear hm hh hn hq
  go_enter Try.func41, Try.ntmps41
  go_wp2_with fail
  refine (rsmall_any _ _ _ (h1.alloc _)).mono ?_
  rintro e w1 ⟨rfl, rfl⟩
  rw [s1]
  go_wp2_with fail
  refine (rsmall_any _ _ _ (hp.alloc _)).mono ?_
  rintro e w1 ⟨rfl, rfl⟩
  rw [s2]
  go_wp2_with fail
  refine (rsmall_any _ _ _ (ht.alloc _)).mono ?_
  rintro e w1 ⟨rfl, rfl⟩
  rw [s3]
  go_wp2_with fail
  refine (rsame_any _ _ _ _ _ (hp.alloc _) (h1.alloc _)).mono ?_
  rintro e w2 ⟨rfl, hs⟩
  rw [b3]
  have q0 := (hs.cell _).trans (box_get1 w _ _ 0 (.int .i64 5) rfl)
  have q1 := (hs.cell _).trans (box_get1 w _ _ 1 (.slice a2 (n + 1) c2) rfl)
  have q2 := (hs.cell _).trans (box_get1 w _ _ 2 (.slice a3 (m + 1) c3) rfl)
  have q3 := (hs.cell _).trans (box_get1 w _ _ 3 (.int .i64 pos) rfl)
  have hb := gr_sm (gr_al (gr_refl w) _) hs
  have hsz : w.heap.size < w2.heap.size := by rw [hs.size]; simp
  have i1 := (h1.alloc _).same hs
  have i2 := (hp.alloc _).same hs
  have i3 := (ht.alloc _).same hs
  clear h1 hp ht hs
  go_wp2_with fail
  refine (rabove_any _ _ _ _ _ i2 i1).mono ?_
  rintro e w4 ⟨rfl, hs⟩
  rw [b4]
  replace q0 := (hs.cell _).trans q0
  replace q1 := (hs.cell _).trans q1
  replace q2 := (hs.cell _).trans q2
  replace q3 := (hs.cell _).trans q3
  replace hb := gr_sm hb hs
  replace hsz : w.heap.size < w4.heap.size := by rw [hs.size]; exact hsz
  replace i1 := i1.same hs
  replace i2 := i2.same hs
  replace i3 := i3.same hs
  clear hs
  go_wp2_with fail
  refine (rleft_any _ _ _ _ _ i2 i1).mono ?_
  rintro e w5 ⟨rfl, hs⟩
  rw [b5]
  replace q0 := (hs.cell _).trans q0
  replace q1 := (hs.cell _).trans q1
  replace q2 := (hs.cell _).trans q2
  replace q3 := (hs.cell _).trans q3
  replace hb := gr_sm hb hs
  replace hsz : w.heap.size < w5.heap.size := by rw [hs.size]; exact hsz
  replace i1 := i1.same hs
  replace i2 := i2.same hs
  replace i3 := i3.same hs
  clear hs
  go_wp2_with fail
  refine (rby_any xs q _ _ (-1) _ i1 i2 HQ.out HQL.out (BY.out (-1) (by omega))).mono ?_
  rintro e w3 ⟨v', rfl, ho, hbk⟩
  replace q2 := (hbk.cell (p := ⟨w.heap.size, 2, none⟩) (by first | exact hsz | (simp; omega))).trans q2
  replace hb := gr_tr hb hbk
  replace i3 := i3.below hbk (Nat.le_refl _)
  have iL := ho.ints
  obtain ⟨aL, nL, cL, rfl⟩ := iL.slice3
  clear hbk q0 q1 q3 i1 i2 ho
  go_wp2_with fail
  refine (rsame_any _ _ _ _ _ i3 iL).mono ?_
  rintro e w6 ⟨rfl, hs⟩
  rw [T3.out]
  have hb6 := gr_sm hb hs
  have i36 := i3.same hs
  have iL6 := iL.same hs
  clear hs
  go_wp2_with fail
  refine (rabove_any _ _ _ _ _ i36 iL6).mono ?_
  rintro e w7 ⟨rfl, hs⟩
  rw [T4.out]
  have hb7 := gr_sm hb6 hs
  have i37 := i36.same hs
  have iL7 := iL6.same hs
  clear hs
  go_wp2_with fail
  refine (rleft_any _ _ _ _ _ i37 iL7).mono ?_
  rintro e w8 ⟨rfl, hs⟩
  rw [T5.out]
  have hb8 := gr_sm hb7 hs
  have i38 := i37.same hs
  have iL8 := iL7.same hs
  clear hs
  go_wp2_with fail
  refine (rby_any (shiftL xs (q.length - 1) (-1)) to _ _ 1 _ iL8 i38 HTO.out HTL.out HTB.out).mono ?_
  rintro e w9 ⟨v9, rfl, ho9, hbk9⟩
  go_wp2
  go_ret2
  exact Mv.some_ (HM.out.trans (by rw [INS.out])) (ho9.mono hb8.size) (gr_tr hb8 hbk9)

set_option maxRecDepth 100000 in
set_option maxHeartbeats 4000000 in
theorem rmove_k5h0t0 (xs q to : List Int) (pos : Int) (v1 v2 : Value) (w : World) (h1 : Ints w v1 xs) (h2 : OpAt w v2 5 q to pos) (s1 : smallB xs = true) (s2 : smallB q = true) (s3 : smallB to = true) (p1 : ¬ pos < 0) (p2 : ¬ 1048576 < pos) (hto : 0 < to.length) (hst : standsN to (xs) = 0) (hq : 0 < q.length) (hh : standsN q xs = 0)
    (hm : moveP xs 5 q to pos = some (insL xs to)) :
    Calls Try.prog 41 #[v1, v2] w (Mv (moveP xs 5 q to pos) w) := by
  obtain ⟨pv, tv, r4, r5, r6, r7, r8, r9, r10, r11, r12, r13, r14, r15, r16, r17, r18, r19, r20, rfl, hp, ht⟩ := h2
  have HM := Lib.hid hm
  obtain ⟨a1, c1, rfl⟩ := h1.slice
  have b1 := h1.len
  obtain ⟨b3, b4, b5⟩ := (stands_bools (p := xs) hq).2.2.2 hh
  have HH := Lib.hid hh
  obtain ⟨n, hn⟩ : ∃ n, q.length = n + 1 := ⟨q.length - 1, by omega⟩
  have HN := Lib.hid hn
  obtain ⟨a2, c2, rfl⟩ := hp.slice_len hn
  obtain ⟨m, hm3⟩ : ∃ m, to.length = m + 1 := ⟨to.length - 1, by omega⟩
  obtain ⟨a3, c3, rfl⟩ := ht.slice_len hm3
  have g0 : decide ((0 : Int) < (m : Int) + 1) = true := decide_eq_true (by omega)
  have g0' : decide ((0 : Int) < ((m + 1 : Nat) : Int)) = true := decide_eq_true (by omega)
  have HTO := Lib.hid hto
  have b2 := hp.len
  rw [hn] at b2
  have f0 : ((n : Int) + 1 == 0) = false := by rw [beq_eq_false_iff_ne]; omega
  have f0' : (((n + 1 : Nat) : Int) == 0) = false := by rw [beq_eq_false_iff_ne]; omega
  have SS1 := Lib.hid s1
  have PB : Hid (0 ≤ pos ∧ pos ≤ 1048576) := ⟨by omega, by omega⟩
  have BY : Hid (∀ d : Int, -1 ≤ d ∧ d ≤ 1 → -9223372036854775808 ≤ xs.getD (q.length - 1) 0 + d ∧ xs.getD (q.length - 1) 0 + d ≤ 9223372036854775807) := fun d hd => by have := small_get SS1.out (q.length - 1); omega
  have HQ := Lib.hid hq
  obtain ⟨t3, t4, t5⟩ := (stands_bools (p := xs) hto).2.2.2 hst
  have T3 := Lib.hid t3; have T4 := Lib.hid t4; have T5 := Lib.hid t5
  clear t3 t4 t5
  have INS : Hid (insL (xs) to = xs) := by show _ = _; rw [insL, if_pos hst]
  clear hst
  clear hto
  clear hm3
  clear hm hh hn hq
  go_enter Try.func41, Try.ntmps41
  go_wp2_with fail
  refine (rsmall_any _ _ _ (h1.alloc _)).mono ?_
  rintro e w1 ⟨rfl, rfl⟩
  rw [s1]
  go_wp2_with fail
  refine (rsmall_any _ _ _ (hp.alloc _)).mono ?_
  rintro e w1 ⟨rfl, rfl⟩
  rw [s2]
  go_wp2_with fail
  refine (rsmall_any _ _ _ (ht.alloc _)).mono ?_
  rintro e w1 ⟨rfl, rfl⟩
  rw [s3]
  go_wp2_with fail
  refine (rsame_any _ _ _ _ _ (hp.alloc _) (h1.alloc _)).mono ?_
  rintro e w2 ⟨rfl, hs⟩
  rw [b3]
  have q0 := (hs.cell _).trans (box_get1 w _ _ 0 (.int .i64 5) rfl)
  have q1 := (hs.cell _).trans (box_get1 w _ _ 1 (.slice a2 (n + 1) c2) rfl)
  have q2 := (hs.cell _).trans (box_get1 w _ _ 2 (.slice a3 (m + 1) c3) rfl)
  have q3 := (hs.cell _).trans (box_get1 w _ _ 3 (.int .i64 pos) rfl)
  have hb := gr_sm (gr_al (gr_refl w) _) hs
  have hsz : w.heap.size < w2.heap.size := by rw [hs.size]; simp
  have i1 := (h1.alloc _).same hs
  have i2 := (hp.alloc _).same hs
  have i3 := (ht.alloc _).same hs
  clear h1 hp ht hs
  go_wp2_with fail
  refine (rabove_any _ _ _ _ _ i2 i1).mono ?_
  rintro e w4 ⟨rfl, hs⟩
  rw [b4]
  replace q0 := (hs.cell _).trans q0
  replace q1 := (hs.cell _).trans q1
  replace q2 := (hs.cell _).trans q2
  replace q3 := (hs.cell _).trans q3
  replace hb := gr_sm hb hs
  replace hsz : w.heap.size < w4.heap.size := by rw [hs.size]; exact hsz
  replace i1 := i1.same hs
  replace i2 := i2.same hs
  replace i3 := i3.same hs
  clear hs
  go_wp2_with fail
  refine (rleft_any _ _ _ _ _ i2 i1).mono ?_
  rintro e w5 ⟨rfl, hs⟩
  rw [b5]
  replace q0 := (hs.cell _).trans q0
  replace q1 := (hs.cell _).trans q1
  replace q2 := (hs.cell _).trans q2
  replace q3 := (hs.cell _).trans q3
  replace hb := gr_sm hb hs
  replace hsz : w.heap.size < w5.heap.size := by rw [hs.size]; exact hsz
  replace i1 := i1.same hs
  replace i2 := i2.same hs
  replace i3 := i3.same hs
  clear hs
  go_wp2_with fail
  refine (rsame_any _ _ _ _ _ i3 i1).mono ?_
  rintro e w6 ⟨rfl, hs⟩
  rw [T3.out]
  have hb6 := gr_sm hb hs
  have i36 := i3.same hs
  have iL6 := i1.same hs
  clear hs
  go_wp2_with fail
  refine (rabove_any _ _ _ _ _ i36 iL6).mono ?_
  rintro e w7 ⟨rfl, hs⟩
  rw [T4.out]
  have hb7 := gr_sm hb6 hs
  have i37 := i36.same hs
  have iL7 := iL6.same hs
  clear hs
  go_wp2_with fail
  refine (rleft_any _ _ _ _ _ i37 iL7).mono ?_
  rintro e w8 ⟨rfl, hs⟩
  rw [T5.out]
  have hb8 := gr_sm hb7 hs
  have i38 := i37.same hs
  have iL8 := iL7.same hs
  clear hs
  go_wp2_with fail
  refine (rcopy_any (xs) _ _ iL8).mono ?_
  rintro e w9 ⟨v9, rfl, ho9, hbk9⟩
  go_wp2
  go_ret2
  exact Mv.some_ (HM.out.trans (by rw [INS.out])) (ho9.mono hb8.size) (gr_tr hb8 hbk9)

set_option maxRecDepth 100000 in
set_option maxHeartbeats 4000000 in
theorem rmove_k5h1t0 (xs q to : List Int) (pos : Int) (v1 v2 : Value) (w : World) (h1 : Ints w v1 xs) (h2 : OpAt w v2 5 q to pos) (s1 : smallB xs = true) (s2 : smallB q = true) (s3 : smallB to = true) (p1 : ¬ pos < 0) (p2 : ¬ 1048576 < pos) (hto : 0 < to.length) (hst : standsN to (shiftL xs (q.length - 1) (-1)) = 0) (hq : 0 < q.length) (hh : standsN q xs = 1)
    (hm : moveP xs 5 q to pos = some (insL (shiftL xs (q.length - 1) (-1)) to)) :
    Calls Try.prog 41 #[v1, v2] w (Mv (moveP xs 5 q to pos) w) := by
  obtain ⟨pv, tv, r4, r5, r6, r7, r8, r9, r10, r11, r12, r13, r14, r15, r16, r17, r18, r19, r20, rfl, hp, ht⟩ := h2
  have HM := Lib.hid hm
  obtain ⟨a1, c1, rfl⟩ := h1.slice
  have b1 := h1.len
  obtain ⟨b3, b4, b5⟩ := (stands_bools (p := xs) hq).2.2.1 hh
  have HH := Lib.hid hh
  obtain ⟨n, hn⟩ : ∃ n, q.length = n + 1 := ⟨q.length - 1, by omega⟩
  have HN := Lib.hid hn
  obtain ⟨a2, c2, rfl⟩ := hp.slice_len hn
  obtain ⟨m, hm3⟩ : ∃ m, to.length = m + 1 := ⟨to.length - 1, by omega⟩
  obtain ⟨a3, c3, rfl⟩ := ht.slice_len hm3
  have g0 : decide ((0 : Int) < (m : Int) + 1) = true := decide_eq_true (by omega)
  have g0' : decide ((0 : Int) < ((m + 1 : Nat) : Int)) = true := decide_eq_true (by omega)
  have HTO := Lib.hid hto
  have b2 := hp.len
  rw [hn] at b2
  have f0 : ((n : Int) + 1 == 0) = false := by rw [beq_eq_false_iff_ne]; omega
  have f0' : (((n + 1 : Nat) : Int) == 0) = false := by rw [beq_eq_false_iff_ne]; omega
  have SS1 := Lib.hid s1
  have PB : Hid (0 ≤ pos ∧ pos ≤ 1048576) := ⟨by omega, by omega⟩
  have BY : Hid (∀ d : Int, -1 ≤ d ∧ d ≤ 1 → -9223372036854775808 ≤ xs.getD (q.length - 1) 0 + d ∧ xs.getD (q.length - 1) 0 + d ≤ 9223372036854775807) := fun d hd => by have := small_get SS1.out (q.length - 1); omega
  have HQ := Lib.hid hq
  have l1 : n + 1 ≤ xs.length := by have := (stands_len (q := q) (p := xs) (by rw [hh]; decide)).2; omega
  have HQL : Hid (q.length ≤ xs.length) := by show _ ≤ _; omega
  obtain ⟨t3, t4, t5⟩ := (stands_bools (p := shiftL xs (q.length - 1) (-1)) hto).2.2.2 hst
  have T3 := Lib.hid t3; have T4 := Lib.hid t4; have T5 := Lib.hid t5
  clear t3 t4 t5
  have INS : Hid (insL (shiftL xs (q.length - 1) (-1)) to = shiftL xs (q.length - 1) (-1)) := by show _ = _; rw [insL, if_pos hst]
  clear hst
  clear hto
  clear hm3
  clear hm hh hn hq
  go_enter Try.func41, Try.ntmps41
  go_wp2_with fail
  refine (rsmall_any _ _ _ (h1.alloc _)).mono ?_
  rintro e w1 ⟨rfl, rfl⟩
  rw [s1]
  go_wp2_with fail
  refine (rsmall_any _ _ _ (hp.alloc _)).mono ?_
  rintro e w1 ⟨rfl, rfl⟩
  rw [s2]
  go_wp2_with fail
  refine (rsmall_any _ _ _ (ht.alloc _)).mono ?_
  rintro e w1 ⟨rfl, rfl⟩
  rw [s3]
  go_wp2_with fail
  refine (rsame_any _ _ _ _ _ (hp.alloc _) (h1.alloc _)).mono ?_
  rintro e w2 ⟨rfl, hs⟩
  rw [b3]
  have q0 := (hs.cell _).trans (box_get1 w _ _ 0 (.int .i64 5) rfl)
  have q1 := (hs.cell _).trans (box_get1 w _ _ 1 (.slice a2 (n + 1) c2) rfl)
  have q2 := (hs.cell _).trans (box_get1 w _ _ 2 (.slice a3 (m + 1) c3) rfl)
  have q3 := (hs.cell _).trans (box_get1 w _ _ 3 (.int .i64 pos) rfl)
  have hb := gr_sm (gr_al (gr_refl w) _) hs
  have hsz : w.heap.size < w2.heap.size := by rw [hs.size]; simp
  have i1 := (h1.alloc _).same hs
  have i2 := (hp.alloc _).same hs
  have i3 := (ht.alloc _).same hs
  clear h1 hp ht hs
  go_wp2_with fail
  refine (rabove_any _ _ _ _ _ i2 i1).mono ?_
  rintro e w4 ⟨rfl, hs⟩
  rw [b4]
  replace q0 := (hs.cell _).trans q0
  replace q1 := (hs.cell _).trans q1
  replace q2 := (hs.cell _).trans q2
  replace q3 := (hs.cell _).trans q3
  replace hb := gr_sm hb hs
  replace hsz : w.heap.size < w4.heap.size := by rw [hs.size]; exact hsz
  replace i1 := i1.same hs
  replace i2 := i2.same hs
  replace i3 := i3.same hs
  clear hs
  go_wp2_with fail
  refine (rleft_any _ _ _ _ _ i2 i1).mono ?_
  rintro e w5 ⟨rfl, hs⟩
  rw [b5]
  replace q0 := (hs.cell _).trans q0
  replace q1 := (hs.cell _).trans q1
  replace q2 := (hs.cell _).trans q2
  replace q3 := (hs.cell _).trans q3
  replace hb := gr_sm hb hs
  replace hsz : w.heap.size < w5.heap.size := by rw [hs.size]; exact hsz
  replace i1 := i1.same hs
  replace i2 := i2.same hs
  replace i3 := i3.same hs
  clear hs
  go_wp2_with fail
  refine (rby_any xs q _ _ (-1) _ i1 i2 HQ.out HQL.out (BY.out (-1) (by omega))).mono ?_
  rintro e w3 ⟨v', rfl, ho, hbk⟩
  replace q2 := (hbk.cell (p := ⟨w.heap.size, 2, none⟩) (by first | exact hsz | (simp; omega))).trans q2
  replace hb := gr_tr hb hbk
  replace i3 := i3.below hbk (Nat.le_refl _)
  have iL := ho.ints
  obtain ⟨aL, nL, cL, rfl⟩ := iL.slice3
  clear hbk q0 q1 q3 i1 i2 ho
  go_wp2_with fail
  refine (rsame_any _ _ _ _ _ i3 iL).mono ?_
  rintro e w6 ⟨rfl, hs⟩
  rw [T3.out]
  have hb6 := gr_sm hb hs
  have i36 := i3.same hs
  have iL6 := iL.same hs
  clear hs
  go_wp2_with fail
  refine (rabove_any _ _ _ _ _ i36 iL6).mono ?_
  rintro e w7 ⟨rfl, hs⟩
  rw [T4.out]
  have hb7 := gr_sm hb6 hs
  have i37 := i36.same hs
  have iL7 := iL6.same hs
  clear hs
  go_wp2_with fail
  refine (rleft_any _ _ _ _ _ i37 iL7).mono ?_
  rintro e w8 ⟨rfl, hs⟩
  rw [T5.out]
  have hb8 := gr_sm hb7 hs
  have i38 := i37.same hs
  have iL8 := iL7.same hs
  clear hs
  go_wp2_with fail
  refine (rcopy_any (shiftL xs (q.length - 1) (-1)) _ _ iL8).mono ?_
  rintro e w9 ⟨v9, rfl, ho9, hbk9⟩
  go_wp2
  go_ret2
  exact Mv.some_ (HM.out.trans (by rw [INS.out])) (ho9.mono hb8.size) (gr_tr hb8 hbk9)

set_option maxRecDepth 100000 in
set_option maxHeartbeats 4000000 in
theorem rmove_koh0 (xs q to : List Int) (pos : Int) (kind : Int) (v1 v2 : Value) (w : World) (h1 : Ints w v1 xs) (h2 : OpAt w v2 kind q to pos) (s1 : smallB xs = true) (s2 : smallB q = true) (s3 : smallB to = true) (p1 : ¬ pos < 0) (p2 : ¬ 1048576 < pos) (k1 : kind ≠ 1) (k2 : kind ≠ 2) (k3 : kind ≠ 3) (k4 : kind ≠ 4) (k5 : kind ≠ 5) (hq : 0 < q.length) (hh : standsN q xs = 0)
    (hm : moveP xs kind q to pos = some xs) :
    Calls Try.prog 41 #[v1, v2] w (Mv (moveP xs kind q to pos) w) := by
  obtain ⟨pv, tv, r4, r5, r6, r7, r8, r9, r10, r11, r12, r13, r14, r15, r16, r17, r18, r19, r20, rfl, hp, ht⟩ := h2
  have HM := Lib.hid hm
  obtain ⟨a1, c1, rfl⟩ := h1.slice
  have b1 := h1.len
  obtain ⟨b3, b4, b5⟩ := (stands_bools (p := xs) hq).2.2.2 hh
  have HH := Lib.hid hh
  obtain ⟨n, hn⟩ : ∃ n, q.length = n + 1 := ⟨q.length - 1, by omega⟩
  have HN := Lib.hid hn
  obtain ⟨a2, c2, rfl⟩ := hp.slice_len hn
  obtain ⟨a3, n3, c3, rfl⟩ := ht.slice3
  have b2 := hp.len
  rw [hn] at b2
  have f0 : ((n : Int) + 1 == 0) = false := by rw [beq_eq_false_iff_ne]; omega
  have f0' : (((n + 1 : Nat) : Int) == 0) = false := by rw [beq_eq_false_iff_ne]; omega
  have SS1 := Lib.hid s1
  have PB : Hid (0 ≤ pos ∧ pos ≤ 1048576) := ⟨by omega, by omega⟩
  have BY : Hid (∀ d : Int, -1 ≤ d ∧ d ≤ 1 → -9223372036854775808 ≤ xs.getD (q.length - 1) 0 + d ∧ xs.getD (q.length - 1) 0 + d ≤ 9223372036854775807) := fun d hd => by have := small_get SS1.out (q.length - 1); omega
  have HQ := Lib.hid hq
  have f1 : (kind == 1) = false := by simpa using k1
  have f2 : (kind == 2) = false := by simpa using k2
  have f3 : (kind == 3) = false := by simpa using k3
  have f4 : (kind == 4) = false := by simpa using k4
  have f5 : (kind == 5) = false := by simpa using k5
  clear k1 k2 k3 k4 k5
  clear hm hh hn hq
  go_enter Try.func41, Try.ntmps41
  go_wp2_with fail
  refine (rsmall_any _ _ _ (h1.alloc _)).mono ?_
  rintro e w1 ⟨rfl, rfl⟩
  rw [s1]
  go_wp2_with fail
  refine (rsmall_any _ _ _ (hp.alloc _)).mono ?_
  rintro e w1 ⟨rfl, rfl⟩
  rw [s2]
  go_wp2_with fail
  refine (rsmall_any _ _ _ (ht.alloc _)).mono ?_
  rintro e w1 ⟨rfl, rfl⟩
  rw [s3]
  go_wp2_with fail
  refine (rsame_any _ _ _ _ _ (hp.alloc _) (h1.alloc _)).mono ?_
  rintro e w2 ⟨rfl, hs⟩
  rw [b3]
  have q0 := (hs.cell _).trans (box_get1 w _ _ 0 (.int .i64 kind) rfl)
  have q1 := (hs.cell _).trans (box_get1 w _ _ 1 (.slice a2 (n + 1) c2) rfl)
  have q2 := (hs.cell _).trans (box_get1 w _ _ 2 (.slice a3 n3 c3) rfl)
  have q3 := (hs.cell _).trans (box_get1 w _ _ 3 (.int .i64 pos) rfl)
  have hb := gr_sm (gr_al (gr_refl w) _) hs
  have hsz : w.heap.size < w2.heap.size := by rw [hs.size]; simp
  have i1 := (h1.alloc _).same hs
  have i2 := (hp.alloc _).same hs
  have i3 := (ht.alloc _).same hs
  clear h1 hp ht hs
  go_wp2_with fail
  refine (rabove_any _ _ _ _ _ i2 i1).mono ?_
  rintro e w4 ⟨rfl, hs⟩
  rw [b4]
  replace q0 := (hs.cell _).trans q0
  replace q1 := (hs.cell _).trans q1
  replace q2 := (hs.cell _).trans q2
  replace q3 := (hs.cell _).trans q3
  replace hb := gr_sm hb hs
  replace hsz : w.heap.size < w4.heap.size := by rw [hs.size]; exact hsz
  replace i1 := i1.same hs
  replace i2 := i2.same hs
  replace i3 := i3.same hs
  clear hs
  go_wp2_with fail
  refine (rleft_any _ _ _ _ _ i2 i1).mono ?_
  rintro e w5 ⟨rfl, hs⟩
  rw [b5]
  replace q0 := (hs.cell _).trans q0
  replace q1 := (hs.cell _).trans q1
  replace q2 := (hs.cell _).trans q2
  replace q3 := (hs.cell _).trans q3
  replace hb := gr_sm hb hs
  replace hsz : w.heap.size < w5.heap.size := by rw [hs.size]; exact hsz
  replace i1 := i1.same hs
  replace i2 := i2.same hs
  replace i3 := i3.same hs
  clear hs
  go_wp2_with fail
  refine (rcopy_any xs _ _ i1).mono ?_
  rintro e w3 ⟨v', rfl, ho, hbk⟩
  go_wp2
  go_ret2
  exact Mv.some_ HM.out (ho.mono hb.size) (gr_tr hb hbk)

set_option maxRecDepth 100000 in
set_option maxHeartbeats 4000000 in
theorem rmove_koh1 (xs q to : List Int) (pos : Int) (kind : Int) (v1 v2 : Value) (w : World) (h1 : Ints w v1 xs) (h2 : OpAt w v2 kind q to pos) (s1 : smallB xs = true) (s2 : smallB q = true) (s3 : smallB to = true) (p1 : ¬ pos < 0) (p2 : ¬ 1048576 < pos) (k1 : kind ≠ 1) (k2 : kind ≠ 2) (k3 : kind ≠ 3) (k4 : kind ≠ 4) (k5 : kind ≠ 5) (hq : 0 < q.length) (hh : standsN q xs = 1)
    (hm : moveP xs kind q to pos = some xs) :
    Calls Try.prog 41 #[v1, v2] w (Mv (moveP xs kind q to pos) w) := by
  obtain ⟨pv, tv, r4, r5, r6, r7, r8, r9, r10, r11, r12, r13, r14, r15, r16, r17, r18, r19, r20, rfl, hp, ht⟩ := h2
  have HM := Lib.hid hm
  obtain ⟨a1, c1, rfl⟩ := h1.slice
  have b1 := h1.len
  obtain ⟨b3, b4, b5⟩ := (stands_bools (p := xs) hq).2.2.1 hh
  have HH := Lib.hid hh
  obtain ⟨n, hn⟩ : ∃ n, q.length = n + 1 := ⟨q.length - 1, by omega⟩
  have HN := Lib.hid hn
  obtain ⟨a2, c2, rfl⟩ := hp.slice_len hn
  obtain ⟨a3, n3, c3, rfl⟩ := ht.slice3
  have b2 := hp.len
  rw [hn] at b2
  have f0 : ((n : Int) + 1 == 0) = false := by rw [beq_eq_false_iff_ne]; omega
  have f0' : (((n + 1 : Nat) : Int) == 0) = false := by rw [beq_eq_false_iff_ne]; omega
  have SS1 := Lib.hid s1
  have PB : Hid (0 ≤ pos ∧ pos ≤ 1048576) := ⟨by omega, by omega⟩
  have BY : Hid (∀ d : Int, -1 ≤ d ∧ d ≤ 1 → -9223372036854775808 ≤ xs.getD (q.length - 1) 0 + d ∧ xs.getD (q.length - 1) 0 + d ≤ 9223372036854775807) := fun d hd => by have := small_get SS1.out (q.length - 1); omega
  have HQ := Lib.hid hq
  have l1 : n + 1 ≤ xs.length := by have := (stands_len (q := q) (p := xs) (by rw [hh]; decide)).2; omega
  have HQL : Hid (q.length ≤ xs.length) := by show _ ≤ _; omega
  have f1 : (kind == 1) = false := by simpa using k1
  have f2 : (kind == 2) = false := by simpa using k2
  have f3 : (kind == 3) = false := by simpa using k3
  have f4 : (kind == 4) = false := by simpa using k4
  have f5 : (kind == 5) = false := by simpa using k5
  clear k1 k2 k3 k4 k5
  clear hm hh hn hq
  go_enter Try.func41, Try.ntmps41
  go_wp2_with fail
  refine (rsmall_any _ _ _ (h1.alloc _)).mono ?_
  rintro e w1 ⟨rfl, rfl⟩
  rw [s1]
  go_wp2_with fail
  refine (rsmall_any _ _ _ (hp.alloc _)).mono ?_
  rintro e w1 ⟨rfl, rfl⟩
  rw [s2]
  go_wp2_with fail
  refine (rsmall_any _ _ _ (ht.alloc _)).mono ?_
  rintro e w1 ⟨rfl, rfl⟩
  rw [s3]
  go_wp2_with fail
  refine (rsame_any _ _ _ _ _ (hp.alloc _) (h1.alloc _)).mono ?_
  rintro e w2 ⟨rfl, hs⟩
  rw [b3]
  have q0 := (hs.cell _).trans (box_get1 w _ _ 0 (.int .i64 kind) rfl)
  have q1 := (hs.cell _).trans (box_get1 w _ _ 1 (.slice a2 (n + 1) c2) rfl)
  have q2 := (hs.cell _).trans (box_get1 w _ _ 2 (.slice a3 n3 c3) rfl)
  have q3 := (hs.cell _).trans (box_get1 w _ _ 3 (.int .i64 pos) rfl)
  have hb := gr_sm (gr_al (gr_refl w) _) hs
  have hsz : w.heap.size < w2.heap.size := by rw [hs.size]; simp
  have i1 := (h1.alloc _).same hs
  have i2 := (hp.alloc _).same hs
  have i3 := (ht.alloc _).same hs
  clear h1 hp ht hs
  go_wp2_with fail
  refine (rabove_any _ _ _ _ _ i2 i1).mono ?_
  rintro e w4 ⟨rfl, hs⟩
  rw [b4]
  replace q0 := (hs.cell _).trans q0
  replace q1 := (hs.cell _).trans q1
  replace q2 := (hs.cell _).trans q2
  replace q3 := (hs.cell _).trans q3
  replace hb := gr_sm hb hs
  replace hsz : w.heap.size < w4.heap.size := by rw [hs.size]; exact hsz
  replace i1 := i1.same hs
  replace i2 := i2.same hs
  replace i3 := i3.same hs
  clear hs
  go_wp2_with fail
  refine (rleft_any _ _ _ _ _ i2 i1).mono ?_
  rintro e w5 ⟨rfl, hs⟩
  rw [b5]
  replace q0 := (hs.cell _).trans q0
  replace q1 := (hs.cell _).trans q1
  replace q2 := (hs.cell _).trans q2
  replace q3 := (hs.cell _).trans q3
  replace hb := gr_sm hb hs
  replace hsz : w.heap.size < w5.heap.size := by rw [hs.size]; exact hsz
  replace i1 := i1.same hs
  replace i2 := i2.same hs
  replace i3 := i3.same hs
  clear hs
  go_wp2_with fail
  refine (rcopy_any xs _ _ i1).mono ?_
  rintro e w3 ⟨v', rfl, ho, hbk⟩
  go_wp2
  go_ret2
  exact Mv.some_ HM.out (ho.mono hb.size) (gr_tr hb hbk)

set_option maxRecDepth 100000 in
set_option maxHeartbeats 4000000 in
theorem rmove_koh2 (xs q to : List Int) (pos : Int) (kind : Int) (v1 v2 : Value) (w : World) (h1 : Ints w v1 xs) (h2 : OpAt w v2 kind q to pos) (s1 : smallB xs = true) (s2 : smallB q = true) (s3 : smallB to = true) (p1 : ¬ pos < 0) (p2 : ¬ 1048576 < pos) (k1 : kind ≠ 1) (k2 : kind ≠ 2) (k3 : kind ≠ 3) (k4 : kind ≠ 4) (k5 : kind ≠ 5) (hq : 0 < q.length) (hh : standsN q xs = 2)
    (hm : moveP xs kind q to pos = some xs) :
    Calls Try.prog 41 #[v1, v2] w (Mv (moveP xs kind q to pos) w) := by
  obtain ⟨pv, tv, r4, r5, r6, r7, r8, r9, r10, r11, r12, r13, r14, r15, r16, r17, r18, r19, r20, rfl, hp, ht⟩ := h2
  have HM := Lib.hid hm
  obtain ⟨a1, c1, rfl⟩ := h1.slice
  have b1 := h1.len
  obtain ⟨b3, b4, b5⟩ := (stands_bools (p := xs) hq).2.1 hh
  have HH := Lib.hid hh
  obtain ⟨n, hn⟩ : ∃ n, q.length = n + 1 := ⟨q.length - 1, by omega⟩
  have HN := Lib.hid hn
  obtain ⟨a2, c2, rfl⟩ := hp.slice_len hn
  obtain ⟨a3, n3, c3, rfl⟩ := ht.slice3
  have b2 := hp.len
  rw [hn] at b2
  have f0 : ((n : Int) + 1 == 0) = false := by rw [beq_eq_false_iff_ne]; omega
  have f0' : (((n + 1 : Nat) : Int) == 0) = false := by rw [beq_eq_false_iff_ne]; omega
  have SS1 := Lib.hid s1
  have PB : Hid (0 ≤ pos ∧ pos ≤ 1048576) := ⟨by omega, by omega⟩
  have BY : Hid (∀ d : Int, -1 ≤ d ∧ d ≤ 1 → -9223372036854775808 ≤ xs.getD (q.length - 1) 0 + d ∧ xs.getD (q.length - 1) 0 + d ≤ 9223372036854775807) := fun d hd => by have := small_get SS1.out (q.length - 1); omega
  have HQ := Lib.hid hq
  have l1 : n + 1 ≤ xs.length := by have := (stands_len (q := q) (p := xs) (by rw [hh]; decide)).2; omega
  have HQL : Hid (q.length ≤ xs.length) := by show _ ≤ _; omega
  have l2 : n + 1 < xs.length := by have := stands_above_lt hh; omega
  have f1 : (kind == 1) = false := by simpa using k1
  have f2 : (kind == 2) = false := by simpa using k2
  have f3 : (kind == 3) = false := by simpa using k3
  have f4 : (kind == 4) = false := by simpa using k4
  have f5 : (kind == 5) = false := by simpa using k5
  clear k1 k2 k3 k4 k5
  clear hm hh hn hq
  go_enter Try.func41, Try.ntmps41
  go_wp2_with fail
  refine (rsmall_any _ _ _ (h1.alloc _)).mono ?_
  rintro e w1 ⟨rfl, rfl⟩
  rw [s1]
  go_wp2_with fail
  refine (rsmall_any _ _ _ (hp.alloc _)).mono ?_
  rintro e w1 ⟨rfl, rfl⟩
  rw [s2]
  go_wp2_with fail
  refine (rsmall_any _ _ _ (ht.alloc _)).mono ?_
  rintro e w1 ⟨rfl, rfl⟩
  rw [s3]
  go_wp2_with fail
  refine (rsame_any _ _ _ _ _ (hp.alloc _) (h1.alloc _)).mono ?_
  rintro e w2 ⟨rfl, hs⟩
  rw [b3]
  have q0 := (hs.cell _).trans (box_get1 w _ _ 0 (.int .i64 kind) rfl)
  have q1 := (hs.cell _).trans (box_get1 w _ _ 1 (.slice a2 (n + 1) c2) rfl)
  have q2 := (hs.cell _).trans (box_get1 w _ _ 2 (.slice a3 n3 c3) rfl)
  have q3 := (hs.cell _).trans (box_get1 w _ _ 3 (.int .i64 pos) rfl)
  have hb := gr_sm (gr_al (gr_refl w) _) hs
  have hsz : w.heap.size < w2.heap.size := by rw [hs.size]; simp
  have i1 := (h1.alloc _).same hs
  have i2 := (hp.alloc _).same hs
  have i3 := (ht.alloc _).same hs
  clear h1 hp ht hs
  go_wp2_with fail
  refine (rabove_any _ _ _ _ _ i2 i1).mono ?_
  rintro e w4 ⟨rfl, hs⟩
  rw [b4]
  replace q0 := (hs.cell _).trans q0
  replace q1 := (hs.cell _).trans q1
  replace q2 := (hs.cell _).trans q2
  replace q3 := (hs.cell _).trans q3
  replace hb := gr_sm hb hs
  replace hsz : w.heap.size < w4.heap.size := by rw [hs.size]; exact hsz
  replace i1 := i1.same hs
  replace i2 := i2.same hs
  replace i3 := i3.same hs
  clear hs
  go_wp2_with fail
  refine (rleft_any _ _ _ _ _ i2 i1).mono ?_
  rintro e w5 ⟨rfl, hs⟩
  rw [b5]
  replace q0 := (hs.cell _).trans q0
  replace q1 := (hs.cell _).trans q1
  replace q2 := (hs.cell _).trans q2
  replace q3 := (hs.cell _).trans q3
  replace hb := gr_sm hb hs
  replace hsz : w.heap.size < w5.heap.size := by rw [hs.size]; exact hsz
  replace i1 := i1.same hs
  replace i2 := i2.same hs
  replace i3 := i3.same hs
  clear hs
  go_wp2_with fail
  refine (rcopy_any xs _ _ i1).mono ?_
  rintro e w3 ⟨v', rfl, ho, hbk⟩
  go_wp2
  go_ret2
  exact Mv.some_ HM.out (ho.mono hb.size) (gr_tr hb hbk)

set_option maxRecDepth 100000 in
set_option maxHeartbeats 4000000 in
theorem rmove_koh3 (xs q to : List Int) (pos : Int) (kind : Int) (v1 v2 : Value) (w : World) (h1 : Ints w v1 xs) (h2 : OpAt w v2 kind q to pos) (s1 : smallB xs = true) (s2 : smallB q = true) (s3 : smallB to = true) (p1 : ¬ pos < 0) (p2 : ¬ 1048576 < pos) (k1 : kind ≠ 1) (k2 : kind ≠ 2) (k3 : kind ≠ 3) (k4 : kind ≠ 4) (k5 : kind ≠ 5) (hq : 0 < q.length) (hh : standsN q xs = 3)
    (hm : moveP xs kind q to pos = some xs) :
    Calls Try.prog 41 #[v1, v2] w (Mv (moveP xs kind q to pos) w) := by
  obtain ⟨pv, tv, r4, r5, r6, r7, r8, r9, r10, r11, r12, r13, r14, r15, r16, r17, r18, r19, r20, rfl, hp, ht⟩ := h2
  have HM := Lib.hid hm
  obtain ⟨a1, c1, rfl⟩ := h1.slice
  have b1 := h1.len
  obtain ⟨b3, b4, b5⟩ := (stands_bools (p := xs) hq).1 hh
  have HH := Lib.hid hh
  obtain ⟨n, hn⟩ : ∃ n, q.length = n + 1 := ⟨q.length - 1, by omega⟩
  have HN := Lib.hid hn
  obtain ⟨a2, c2, rfl⟩ := hp.slice_len hn
  obtain ⟨a3, n3, c3, rfl⟩ := ht.slice3
  have b2 := hp.len
  rw [hn] at b2
  have f0 : ((n : Int) + 1 == 0) = false := by rw [beq_eq_false_iff_ne]; omega
  have f0' : (((n + 1 : Nat) : Int) == 0) = false := by rw [beq_eq_false_iff_ne]; omega
  have SS1 := Lib.hid s1
  have PB : Hid (0 ≤ pos ∧ pos ≤ 1048576) := ⟨by omega, by omega⟩
  have BY : Hid (∀ d : Int, -1 ≤ d ∧ d ≤ 1 → -9223372036854775808 ≤ xs.getD (q.length - 1) 0 + d ∧ xs.getD (q.length - 1) 0 + d ≤ 9223372036854775807) := fun d hd => by have := small_get SS1.out (q.length - 1); omega
  have HQ := Lib.hid hq
  have l1 : n + 1 ≤ xs.length := by have := (stands_len (q := q) (p := xs) (by rw [hh]; decide)).2; omega
  have HQL : Hid (q.length ≤ xs.length) := by show _ ≤ _; omega
  have f1 : (kind == 1) = false := by simpa using k1
  have f2 : (kind == 2) = false := by simpa using k2
  have f3 : (kind == 3) = false := by simpa using k3
  have f4 : (kind == 4) = false := by simpa using k4
  have f5 : (kind == 5) = false := by simpa using k5
  clear k1 k2 k3 k4 k5
  clear hm hh hn hq
  go_enter Try.func41, Try.ntmps41
  go_wp2_with fail
  refine (rsmall_any _ _ _ (h1.alloc _)).mono ?_
  rintro e w1 ⟨rfl, rfl⟩
  rw [s1]
  go_wp2_with fail
  refine (rsmall_any _ _ _ (hp.alloc _)).mono ?_
  rintro e w1 ⟨rfl, rfl⟩
  rw [s2]
  go_wp2_with fail
  refine (rsmall_any _ _ _ (ht.alloc _)).mono ?_
  rintro e w1 ⟨rfl, rfl⟩
  rw [s3]
  go_wp2_with fail
  refine (rsame_any _ _ _ _ _ (hp.alloc _) (h1.alloc _)).mono ?_
  rintro e w2 ⟨rfl, hs⟩
  rw [b3]
  have q0 := (hs.cell _).trans (box_get1 w _ _ 0 (.int .i64 kind) rfl)
  have q1 := (hs.cell _).trans (box_get1 w _ _ 1 (.slice a2 (n + 1) c2) rfl)
  have q2 := (hs.cell _).trans (box_get1 w _ _ 2 (.slice a3 n3 c3) rfl)
  have q3 := (hs.cell _).trans (box_get1 w _ _ 3 (.int .i64 pos) rfl)
  have hb := gr_sm (gr_al (gr_refl w) _) hs
  have hsz : w.heap.size < w2.heap.size := by rw [hs.size]; simp
  have i1 := (h1.alloc _).same hs
  have i2 := (hp.alloc _).same hs
  have i3 := (ht.alloc _).same hs
  clear h1 hp ht hs
  go_wp2_with fail
  refine (rabove_any _ _ _ _ _ i2 i1).mono ?_
  rintro e w4 ⟨rfl, hs⟩
  rw [b4]
  replace q0 := (hs.cell _).trans q0
  replace q1 := (hs.cell _).trans q1
  replace q2 := (hs.cell _).trans q2
  replace q3 := (hs.cell _).trans q3
  replace hb := gr_sm hb hs
  replace hsz : w.heap.size < w4.heap.size := by rw [hs.size]; exact hsz
  replace i1 := i1.same hs
  replace i2 := i2.same hs
  replace i3 := i3.same hs
  clear hs
  go_wp2_with fail
  refine (rleft_any _ _ _ _ _ i2 i1).mono ?_
  rintro e w5 ⟨rfl, hs⟩
  rw [b5]
  replace q0 := (hs.cell _).trans q0
  replace q1 := (hs.cell _).trans q1
  replace q2 := (hs.cell _).trans q2
  replace q3 := (hs.cell _).trans q3
  replace hb := gr_sm hb hs
  replace hsz : w.heap.size < w5.heap.size := by rw [hs.size]; exact hsz
  replace i1 := i1.same hs
  replace i2 := i2.same hs
  replace i3 := i3.same hs
  clear hs
  go_wp2_with fail
  refine (rcopy_any xs _ _ i1).mono ?_
  rintro e w3 ⟨v', rfl, ho, hbk⟩
  go_wp2
  go_ret2
  exact Mv.some_ HM.out (ho.mono hb.size) (gr_tr hb hbk)

end Go.Proofs.Ytkalomdbbgeemaa
