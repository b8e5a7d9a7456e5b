/- The walk of xpath.Move, of the kind that moves a node, and of kinds that move nothing. -/
import Derived.Test.YtkalomdbbgeemaaXpath3
namespace Go.Proofs.Ytkalomdbbgeemaa
open Go.RowKit

set_option maxHeartbeats 2000000 in
theorem xmove_k5h2 (xs q to : List Int) (pos : Int) (v1 v2 : Value) (w : World) (h1 : Ints w v1 xs) (h2 : OpAt w v2 5 q to pos) (s1 : smallB xs = true) (s2 : smallB q = true) (s3 : smallB to = true) (s4 : smallB [pos] = true) (hlen : (to.length + xs.length) * 8 ≤ 140737488351232) (hq : 0 < q.length) (hh : standsN q xs = 2)
    (hm : moveP xs 5 q to pos = some (to ++ xs.drop q.length)) :
    Calls Try.prog 40 #[v1, v2] w (Mv (moveP xs 5 q to pos) w) := by
  obtain ⟨pv, tv, r4, r5, r6, r7, r8, r9, r10, r11, r12, r13, r14, r15, r16, r17, r18, r19, r20, rfl, hp, ht⟩ := h2
  have HM := Lib.hid hm
  obtain ⟨a1, c1, rfl⟩ := h1.slice
  have b1 := h1.len
  have HH := Lib.hid hh
  obtain ⟨n, hn⟩ : ∃ n, q.length = n + 1 := ⟨q.length - 1, by omega⟩
  have HN := Lib.hid hn
  obtain ⟨a2, c2, rfl⟩ := hp.slice_len hn
  obtain ⟨a3, n3, c3, rfl⟩ := ht.slice3
  have b2 := hp.len
  rw [hn] at b2
  have l1 : n + 1 ≤ xs.length := by have := (stands_len (q := q) (p := xs) (by rw [hh]; decide)).2; omega
  have l2 : n + 1 < xs.length := by have := stands_above_lt hh; omega
  have CC : Hid (n + 1 < c1) := by show _ < _; obtain ⟨_, _, he, hle, _⟩ := h1; simp only [Value.slice.injEq] at he; omega
  clear hm hh hn hq
  go_enter Try.func40, Try.ntmps40
  go_wp2_with fail
  refine (small_any _ _ _ (h1.alloc _)).mono ?_
  rintro e w1 ⟨rfl, rfl⟩
  rw [s1]
  go_wp2_with fail
  refine (small_any _ _ _ (hp.alloc _)).mono ?_
  rintro e w1 ⟨rfl, rfl⟩
  rw [s2]
  go_wp2_with fail
  refine (small_any _ _ _ (ht.alloc _)).mono ?_
  rintro e w1 ⟨rfl, rfl⟩
  rw [s3]
  go_wp2_with fail
  refine (small_any [pos] _ _ (lit_ints (w.alloc _) _ 1 (w.heap.size + 1) _ (by simp) rfl rfl (by simp))).mono ?_
  rintro e w1 ⟨rfl, rfl⟩
  rw [s4]
  go_wp2_with fail
  refine (stands_any _ _ _ _ _ ((hp.alloc _).alloc _) ((h1.alloc _).alloc _)).mono ?_
  rintro e w2 ⟨rfl, hs⟩
  rw [HH.out]
  have q0 := (hs.cell _).trans (box_cell w _ _ _ 0 _ rfl)
  have q1 := (hs.cell _).trans (box_cell w _ _ _ 1 _ rfl)
  have q2 := (hs.cell _).trans (box_cell w _ _ _ 2 _ rfl)
  have q3 := (hs.cell _).trans (box_cell w _ _ _ 3 _ rfl)
  have hb := gr_sm (gr_al (gr_al (gr_refl w) _) _) hs
  have i1 := ((h1.alloc _).alloc _).same hs
  have i2 := ((hp.alloc _).alloc _).same hs
  have i3 := ((ht.alloc _).alloc _).same hs
  have hsz : w.heap.size < w2.heap.size := by rw [hs.size]; simp; omega
  clear h1 hp ht
  obtain ⟨pb, pf, rfl, idr⟩ := i1.drop (k := n + 1) (by omega) CC.out
  have hcc : ¬ (c1 = n + 1) := by have := CC.out; omega
  have hlf : [to, xs.drop (n + 1)].flatten.length * 8 ≤ 140737488351232 := by simp; omega
  have hl1 : (n : Int) + 1 ≤ (xs.length : Int) := by omega
  have hl2 : 0 ≤ (n : Int) + 1 := by omega
  have hl3 : ((n : Int) + 1).toNat = n + 1 := by omega
  have hl4 : IntKind.i64.wrap ((n : Int) + 1) = (n : Int) + 1 := IntWalk.i64_in _ (by omega)
  have hc := fun m => concat_any [to, xs.drop (n + 1)] _ _ (ints_two (w2.drewN m) w2.heap.size _ _ to (xs.drop (n + 1)) rfl (i3.same ⟨m, rfl⟩) (idr.same ⟨m, rfl⟩)) hlf
  have HC := Lib.hid hc
  clear hlf hc
  go_wp2_with fail
  go_region_held3 (fun w' => w'.cell? ⟨w.heap.size, 2, none⟩ = some (.slice a3 n3 c3)) (first | go_keep | (exact (hbk.cell (p := ⟨w.heap.size, 2, none⟩) (by simp; omega)).trans (by go_keep)))
    (first | (go_at_call 54; refine (HC.out 1).mono ?_; rintro e w3 ⟨v', rfl, ho, hbk⟩))
  go_wp2
  go_ret2
  have hfin : q.length = n + 1 := HN.out
  refine Mv.some_ HM.out ?_ (gr_tr (gr_al (gr_dn hb 1) _) hbk)
  rw [hfin]
  refine (show Own w3 _ _ (to ++ xs.drop (n + 1)) from by simpa using ho).mono ?_
  exact Nat.le_succ_of_le hb.size

set_option maxHeartbeats 2000000 in
theorem xmove_k5h3r (xs q to : List Int) (pos : Int) (v1 v2 : Value) (w : World) (h1 : Ints w v1 xs) (h2 : OpAt w v2 5 q to pos) (s1 : smallB xs = true) (s2 : smallB q = true) (s3 : smallB to = true) (s4 : smallB [pos] = true) (hlen : (to.length + xs.length) * 8 ≤ 140737488351232) (hroom : ∀ a n c, v1 = .slice a n c → q.length < c) (hq : 0 < q.length) (hh : standsN q xs = 3)
    (hm : moveP xs 5 q to pos = some (to ++ xs.drop q.length)) :
    Calls Try.prog 40 #[v1, v2] w (Mv (moveP xs 5 q to pos) w) := by
  obtain ⟨pv, tv, r4, r5, r6, r7, r8, r9, r10, r11, r12, r13, r14, r15, r16, r17, r18, r19, r20, rfl, hp, ht⟩ := h2
  have HM := Lib.hid hm
  obtain ⟨a1, c1, rfl⟩ := h1.slice
  have b1 := h1.len
  have HH := Lib.hid hh
  obtain ⟨n, hn⟩ : ∃ n, q.length = n + 1 := ⟨q.length - 1, by omega⟩
  have HN := Lib.hid hn
  obtain ⟨a2, c2, rfl⟩ := hp.slice_len hn
  obtain ⟨a3, n3, c3, rfl⟩ := ht.slice3
  have b2 := hp.len
  rw [hn] at b2
  have l1 : n + 1 ≤ xs.length := by have := (stands_len (q := q) (p := xs) (by rw [hh]; decide)).2; omega
  have CC : Hid (n + 1 < c1) := by show _ < _; rw [← hn]; exact hroom _ _ _ rfl
  clear hroom
  clear hm hh hn hq
  go_enter Try.func40, Try.ntmps40
  go_wp2_with fail
  refine (small_any _ _ _ (h1.alloc _)).mono ?_
  rintro e w1 ⟨rfl, rfl⟩
  rw [s1]
  go_wp2_with fail
  refine (small_any _ _ _ (hp.alloc _)).mono ?_
  rintro e w1 ⟨rfl, rfl⟩
  rw [s2]
  go_wp2_with fail
  refine (small_any _ _ _ (ht.alloc _)).mono ?_
  rintro e w1 ⟨rfl, rfl⟩
  rw [s3]
  go_wp2_with fail
  refine (small_any [pos] _ _ (lit_ints (w.alloc _) _ 1 (w.heap.size + 1) _ (by simp) rfl rfl (by simp))).mono ?_
  rintro e w1 ⟨rfl, rfl⟩
  rw [s4]
  go_wp2_with fail
  refine (stands_any _ _ _ _ _ ((hp.alloc _).alloc _) ((h1.alloc _).alloc _)).mono ?_
  rintro e w2 ⟨rfl, hs⟩
  rw [HH.out]
  have q0 := (hs.cell _).trans (box_cell w _ _ _ 0 _ rfl)
  have q1 := (hs.cell _).trans (box_cell w _ _ _ 1 _ rfl)
  have q2 := (hs.cell _).trans (box_cell w _ _ _ 2 _ rfl)
  have q3 := (hs.cell _).trans (box_cell w _ _ _ 3 _ rfl)
  have hb := gr_sm (gr_al (gr_al (gr_refl w) _) _) hs
  have i1 := ((h1.alloc _).alloc _).same hs
  have i2 := ((hp.alloc _).alloc _).same hs
  have i3 := ((ht.alloc _).alloc _).same hs
  have hsz : w.heap.size < w2.heap.size := by rw [hs.size]; simp; omega
  clear h1 hp ht
  obtain ⟨pb, pf, rfl, idr⟩ := i1.drop (k := n + 1) (by omega) CC.out
  have hcc : ¬ (c1 = n + 1) := by have := CC.out; omega
  have hlf : [to, xs.drop (n + 1)].flatten.length * 8 ≤ 140737488351232 := by simp; omega
  have hl1 : (n : Int) + 1 ≤ (xs.length : Int) := by omega
  have hl2 : 0 ≤ (n : Int) + 1 := by omega
  have hl3 : ((n : Int) + 1).toNat = n + 1 := by omega
  have hl4 : IntKind.i64.wrap ((n : Int) + 1) = (n : Int) + 1 := IntWalk.i64_in _ (by omega)
  have hc := fun m => concat_any [to, xs.drop (n + 1)] _ _ (ints_two (w2.drewN m) w2.heap.size _ _ to (xs.drop (n + 1)) rfl (i3.same ⟨m, rfl⟩) (idr.same ⟨m, rfl⟩)) hlf
  have HC := Lib.hid hc
  clear hlf hc
  go_wp2_with fail
  go_region_held3 (fun w' => w'.cell? ⟨w.heap.size, 2, none⟩ = some (.slice a3 n3 c3)) (first | go_keep | (exact (hbk.cell (p := ⟨w.heap.size, 2, none⟩) (by simp; omega)).trans (by go_keep)))
    (first | (go_at_call 54; refine (HC.out 1).mono ?_; rintro e w3 ⟨v', rfl, ho, hbk⟩))
  go_wp2
  go_ret2
  have hfin : q.length = n + 1 := HN.out
  refine Mv.some_ HM.out ?_ (gr_tr (gr_al (gr_dn hb 1) _) hbk)
  rw [hfin]
  refine (show Own w3 _ _ (to ++ xs.drop (n + 1)) from by simpa using ho).mono ?_
  exact Nat.le_succ_of_le hb.size

set_option maxHeartbeats 2000000 in
theorem xmove_k5h3n (xs q to : List Int) (pos : Int) (v1 v2 : Value) (w : World) (h1 : Ints w v1 xs) (h2 : OpAt w v2 5 q to pos) (s1 : smallB xs = true) (s2 : smallB q = true) (s3 : smallB to = true) (s4 : smallB [pos] = true) (hlen : (to.length + xs.length) * 8 ≤ 140737488351232) (hroom : ∀ a n c, v1 = .slice a n c → c = q.length) (hq : 0 < q.length) (hh : standsN q xs = 3)
    (hm : moveP xs 5 q to pos = some (to ++ xs.drop q.length)) :
    Calls Try.prog 40 #[v1, v2] w (Mv (moveP xs 5 q to pos) w) := by
  obtain ⟨pv, tv, r4, r5, r6, r7, r8, r9, r10, r11, r12, r13, r14, r15, r16, r17, r18, r19, r20, rfl, hp, ht⟩ := h2
  have HM := Lib.hid hm
  obtain ⟨a1, c1, rfl⟩ := h1.slice
  have b1 := h1.len
  have HH := Lib.hid hh
  obtain ⟨n, hn⟩ : ∃ n, q.length = n + 1 := ⟨q.length - 1, by omega⟩
  have HN := Lib.hid hn
  obtain ⟨a2, c2, rfl⟩ := hp.slice_len hn
  obtain ⟨a3, n3, c3, rfl⟩ := ht.slice3
  have b2 := hp.len
  rw [hn] at b2
  have l1 : n + 1 ≤ xs.length := by have := (stands_len (q := q) (p := xs) (by rw [hh]; decide)).2; omega
  have CC : Hid (c1 = n + 1) := by show _ = _; rw [← hn]; exact hroom _ _ _ rfl
  clear hroom
  clear hm hh hn hq
  go_enter Try.func40, Try.ntmps40
  go_wp2_with fail
  refine (small_any _ _ _ (h1.alloc _)).mono ?_
  rintro e w1 ⟨rfl, rfl⟩
  rw [s1]
  go_wp2_with fail
  refine (small_any _ _ _ (hp.alloc _)).mono ?_
  rintro e w1 ⟨rfl, rfl⟩
  rw [s2]
  go_wp2_with fail
  refine (small_any _ _ _ (ht.alloc _)).mono ?_
  rintro e w1 ⟨rfl, rfl⟩
  rw [s3]
  go_wp2_with fail
  refine (small_any [pos] _ _ (lit_ints (w.alloc _) _ 1 (w.heap.size + 1) _ (by simp) rfl rfl (by simp))).mono ?_
  rintro e w1 ⟨rfl, rfl⟩
  rw [s4]
  go_wp2_with fail
  refine (stands_any _ _ _ _ _ ((hp.alloc _).alloc _) ((h1.alloc _).alloc _)).mono ?_
  rintro e w2 ⟨rfl, hs⟩
  rw [HH.out]
  have q0 := (hs.cell _).trans (box_cell w _ _ _ 0 _ rfl)
  have q1 := (hs.cell _).trans (box_cell w _ _ _ 1 _ rfl)
  have q2 := (hs.cell _).trans (box_cell w _ _ _ 2 _ rfl)
  have q3 := (hs.cell _).trans (box_cell w _ _ _ 3 _ rfl)
  have hb := gr_sm (gr_al (gr_al (gr_refl w) _) _) hs
  have i1 := ((h1.alloc _).alloc _).same hs
  have i2 := ((hp.alloc _).alloc _).same hs
  have i3 := ((ht.alloc _).alloc _).same hs
  have hsz : w.heap.size < w2.heap.size := by rw [hs.size]; simp; omega
  clear h1 hp ht
  obtain rfl := CC.out
  have hxl : xs.length = n + 1 := by obtain ⟨_, _, he, hle, _⟩ := i1; simp only [Value.slice.injEq] at he; omega
  have idr : Ints w2 (.slice a1 (xs.length - (n + 1)) 0) (xs.drop (n + 1)) := by rw [show xs.length - (n + 1) = 0 from by omega]; exact (i1.drop_end (k := n + 1) (c := 0) (by omega)).1
  have HXL := Lib.hid hxl
  clear hxl
  have hlf : [to, xs.drop (n + 1)].flatten.length * 8 ≤ 140737488351232 := by simp; omega
  have hl1 : (n : Int) + 1 ≤ (xs.length : Int) := by omega
  have hl2 : 0 ≤ (n : Int) + 1 := by omega
  have hl3 : ((n : Int) + 1).toNat = n + 1 := by omega
  have hl4 : IntKind.i64.wrap ((n : Int) + 1) = (n : Int) + 1 := IntWalk.i64_in _ (by omega)
  have hc := fun m => concat_any [to, xs.drop (n + 1)] _ _ (ints_two (w2.drewN m) w2.heap.size _ _ to (xs.drop (n + 1)) rfl (i3.same ⟨m, rfl⟩) (idr.same ⟨m, rfl⟩)) hlf
  have HC := Lib.hid hc
  clear hlf hc
  go_wp2_with fail
  go_region_held3 (fun w' => w'.cell? ⟨w.heap.size, 2, none⟩ = some (.slice a3 n3 c3)) (first | go_keep | (exact (hbk.cell (p := ⟨w.heap.size, 2, none⟩) (by simp; omega)).trans (by go_keep)))
    (first | (go_at_call 54; refine (HC.out 1).mono ?_; rintro e w3 ⟨v', rfl, ho, hbk⟩))
  go_wp2
  go_ret2
  have hfin : q.length = n + 1 := HN.out
  refine Mv.some_ HM.out ?_ (gr_tr (gr_al (gr_dn hb 1) _) hbk)
  rw [hfin]
  refine (show Own w3 _ _ (to ++ xs.drop (n + 1)) from by simpa using ho).mono ?_
  exact Nat.le_succ_of_le hb.size

set_option maxHeartbeats 2000000 in
theorem xmove_k5h1 (xs q to : List Int) (pos : Int) (v1 v2 : Value) (w : World) (h1 : Ints w v1 xs) (h2 : OpAt w v2 5 q to pos) (s1 : smallB xs = true) (s2 : smallB q = true) (s3 : smallB to = true) (s4 : smallB [pos] = true) (hq : 0 < q.length) (hh : standsN q xs = 1)
    (hm : moveP xs 5 q to pos = some (insL (shiftL xs (q.length - 1) (-1)) to)) :
    Calls Try.prog 40 #[v1, v2] w (Mv (moveP xs 5 q to pos) w) := by
  obtain ⟨pv, tv, r4, r5, r6, r7, r8, r9, r10, r11, r12, r13, r14, r15, r16, r17, r18, r19, r20, rfl, hp, ht⟩ := h2
  have HM := Lib.hid hm
  obtain ⟨a1, c1, rfl⟩ := h1.slice
  have b1 := h1.len
  have HH := Lib.hid hh
  obtain ⟨n, hn⟩ : ∃ n, q.length = n + 1 := ⟨q.length - 1, by omega⟩
  have HN := Lib.hid hn
  obtain ⟨a2, c2, rfl⟩ := hp.slice_len hn
  obtain ⟨a3, n3, c3, rfl⟩ := ht.slice3
  have b2 := hp.len
  rw [hn] at b2
  have l1 : n + 1 ≤ xs.length := by have := (stands_len (q := q) (p := xs) (by rw [hh]; decide)).2; omega
  have SS1 := Lib.hid s1
  clear hm hh hn hq
  go_enter Try.func40, Try.ntmps40
  go_wp2_with fail
  refine (small_any _ _ _ (h1.alloc _)).mono ?_
  rintro e w1 ⟨rfl, rfl⟩
  rw [s1]
  go_wp2_with fail
  refine (small_any _ _ _ (hp.alloc _)).mono ?_
  rintro e w1 ⟨rfl, rfl⟩
  rw [s2]
  go_wp2_with fail
  refine (small_any _ _ _ (ht.alloc _)).mono ?_
  rintro e w1 ⟨rfl, rfl⟩
  rw [s3]
  go_wp2_with fail
  refine (small_any [pos] _ _ (lit_ints (w.alloc _) _ 1 (w.heap.size + 1) _ (by simp) rfl rfl (by simp))).mono ?_
  rintro e w1 ⟨rfl, rfl⟩
  rw [s4]
  go_wp2_with fail
  refine (stands_any _ _ _ _ _ ((hp.alloc _).alloc _) ((h1.alloc _).alloc _)).mono ?_
  rintro e w2 ⟨rfl, hs⟩
  rw [HH.out]
  have q0 := (hs.cell _).trans (box_cell w _ _ _ 0 _ rfl)
  have q1 := (hs.cell _).trans (box_cell w _ _ _ 1 _ rfl)
  have q2 := (hs.cell _).trans (box_cell w _ _ _ 2 _ rfl)
  have q3 := (hs.cell _).trans (box_cell w _ _ _ 3 _ rfl)
  have hb := gr_sm (gr_al (gr_al (gr_refl w) _) _) hs
  have i1 := ((h1.alloc _).alloc _).same hs
  have i2 := ((hp.alloc _).alloc _).same hs
  have i3 := ((ht.alloc _).alloc _).same hs
  have hsz : w.heap.size < w2.heap.size := by rw [hs.size]; simp; omega
  clear h1 hp ht
  go_wp2_with fail
  refine (shift_any xs _ n (-1) _ i1 (by omega) (by have := small_get SS1.out n; omega)).mono ?_
  rintro e w3 ⟨v', rfl, ho, hbk⟩
  have q2' := (hbk.cell (p := ⟨w.heap.size, 2, none⟩) (by omega)).trans q2
  have i3' := i3.below hbk (Nat.le_refl _)
  have hb3 := gr_tr hb hbk
  go_wp2_with fail
  refine (inserted_any (shiftL xs n (-1)) to _ _ _ ho.ints i3' (by
    intro x hx
    rcases List.mem_or_eq_of_mem_set hx with h | h
    · have := smallB_iff.1 SS1.out x h; omega
    · have := small_get SS1.out n; omega)).mono ?_
  rintro e w4 ⟨v4, rfl, ho4, hbk4⟩
  go_wp2
  go_ret2
  have hfin : q.length - 1 = n := by have := HN.out; omega
  exact Mv.some_ HM.out (by rw [hfin]; exact ho4.mono hb3.size) (gr_tr hb3 hbk4)

set_option maxHeartbeats 2000000 in
theorem xmove_k5h0 (xs q to : List Int) (pos : Int) (v1 v2 : Value) (w : World) (h1 : Ints w v1 xs) (h2 : OpAt w v2 5 q to pos) (s1 : smallB xs = true) (s2 : smallB q = true) (s3 : smallB to = true) (s4 : smallB [pos] = true) (hq : 0 < q.length) (hh : standsN q xs = 0)
    (hm : moveP xs 5 q to pos = some (insL xs to)) :
    Calls Try.prog 40 #[v1, v2] w (Mv (moveP xs 5 q to pos) w) := by
  obtain ⟨pv, tv, r4, r5, r6, r7, r8, r9, r10, r11, r12, r13, r14, r15, r16, r17, r18, r19, r20, rfl, hp, ht⟩ := h2
  have HM := Lib.hid hm
  obtain ⟨a1, c1, rfl⟩ := h1.slice
  have b1 := h1.len
  have HH := Lib.hid hh
  obtain ⟨n, hn⟩ : ∃ n, q.length = n + 1 := ⟨q.length - 1, by omega⟩
  have HN := Lib.hid hn
  obtain ⟨a2, c2, rfl⟩ := hp.slice_len hn
  obtain ⟨a3, n3, c3, rfl⟩ := ht.slice3
  have b2 := hp.len
  rw [hn] at b2
  have SS1 := Lib.hid s1
  clear hm hh hn hq
  go_enter Try.func40, Try.ntmps40
  go_wp2_with fail
  refine (small_any _ _ _ (h1.alloc _)).mono ?_
  rintro e w1 ⟨rfl, rfl⟩
  rw [s1]
  go_wp2_with fail
  refine (small_any _ _ _ (hp.alloc _)).mono ?_
  rintro e w1 ⟨rfl, rfl⟩
  rw [s2]
  go_wp2_with fail
  refine (small_any _ _ _ (ht.alloc _)).mono ?_
  rintro e w1 ⟨rfl, rfl⟩
  rw [s3]
  go_wp2_with fail
  refine (small_any [pos] _ _ (lit_ints (w.alloc _) _ 1 (w.heap.size + 1) _ (by simp) rfl rfl (by simp))).mono ?_
  rintro e w1 ⟨rfl, rfl⟩
  rw [s4]
  go_wp2_with fail
  refine (stands_any _ _ _ _ _ ((hp.alloc _).alloc _) ((h1.alloc _).alloc _)).mono ?_
  rintro e w2 ⟨rfl, hs⟩
  rw [HH.out]
  have q0 := (hs.cell _).trans (box_cell w _ _ _ 0 _ rfl)
  have q1 := (hs.cell _).trans (box_cell w _ _ _ 1 _ rfl)
  have q2 := (hs.cell _).trans (box_cell w _ _ _ 2 _ rfl)
  have q3 := (hs.cell _).trans (box_cell w _ _ _ 3 _ rfl)
  have hb := gr_sm (gr_al (gr_al (gr_refl w) _) _) hs
  have i1 := ((h1.alloc _).alloc _).same hs
  have i2 := ((hp.alloc _).alloc _).same hs
  have i3 := ((ht.alloc _).alloc _).same hs
  have hsz : w.heap.size < w2.heap.size := by rw [hs.size]; simp; omega
  clear h1 hp ht
  go_wp2_with fail
  refine (inserted_any xs to _ _ _ i1 i3 (by intro x hx; have := smallB_iff.1 SS1.out x hx; omega)).mono ?_
  rintro e w3 ⟨v', rfl, ho, hbk⟩
  go_wp2
  go_ret2
  exact Mv.some_ HM.out (ho.mono hb.size) (gr_tr hb hbk)

set_option maxHeartbeats 2000000 in
theorem xmove_koh0 (xs q to : List Int) (pos : Int) (kind : Int) (v1 v2 : Value) (w : World) (h1 : Ints w v1 xs) (h2 : OpAt w v2 kind q to pos) (s1 : smallB xs = true) (s2 : smallB q = true) (s3 : smallB to = true) (s4 : smallB [pos] = true) (k1 : kind ≠ 1) (k2 : kind ≠ 2) (k3 : kind ≠ 3) (k4 : kind ≠ 4) (k5 : kind ≠ 5) (hq : 0 < q.length) (hh : standsN q xs = 0)
    (hm : moveP xs kind q to pos = some xs) :
    Calls Try.prog 40 #[v1, v2] w (Mv (moveP xs kind q to pos) w) := by
  obtain ⟨pv, tv, r4, r5, r6, r7, r8, r9, r10, r11, r12, r13, r14, r15, r16, r17, r18, r19, r20, rfl, hp, ht⟩ := h2
  have HM := Lib.hid hm
  obtain ⟨a1, c1, rfl⟩ := h1.slice
  have b1 := h1.len
  have HH := Lib.hid hh
  obtain ⟨n, hn⟩ : ∃ n, q.length = n + 1 := ⟨q.length - 1, by omega⟩
  have HN := Lib.hid hn
  obtain ⟨a2, c2, rfl⟩ := hp.slice_len hn
  obtain ⟨a3, n3, c3, rfl⟩ := ht.slice3
  have b2 := hp.len
  rw [hn] at b2
  have f1 : (kind == 1) = false := by simpa using k1
  have f2 : (kind == 2) = false := by simpa using k2
  have f3 : (kind == 3) = false := by simpa using k3
  have f4 : (kind == 4) = false := by simpa using k4
  have f5 : (kind == 5) = false := by simpa using k5
  clear k1 k2 k3 k4 k5
  clear hm hh hn hq
  go_enter Try.func40, Try.ntmps40
  go_wp2_with fail
  refine (small_any _ _ _ (h1.alloc _)).mono ?_
  rintro e w1 ⟨rfl, rfl⟩
  rw [s1]
  go_wp2_with fail
  refine (small_any _ _ _ (hp.alloc _)).mono ?_
  rintro e w1 ⟨rfl, rfl⟩
  rw [s2]
  go_wp2_with fail
  refine (small_any _ _ _ (ht.alloc _)).mono ?_
  rintro e w1 ⟨rfl, rfl⟩
  rw [s3]
  go_wp2_with fail
  refine (small_any [pos] _ _ (lit_ints (w.alloc _) _ 1 (w.heap.size + 1) _ (by simp) rfl rfl (by simp))).mono ?_
  rintro e w1 ⟨rfl, rfl⟩
  rw [s4]
  go_wp2_with fail
  refine (stands_any _ _ _ _ _ ((hp.alloc _).alloc _) ((h1.alloc _).alloc _)).mono ?_
  rintro e w2 ⟨rfl, hs⟩
  rw [HH.out]
  have q0 := (hs.cell _).trans (box_cell w _ _ _ 0 _ rfl)
  have q1 := (hs.cell _).trans (box_cell w _ _ _ 1 _ rfl)
  have q2 := (hs.cell _).trans (box_cell w _ _ _ 2 _ rfl)
  have q3 := (hs.cell _).trans (box_cell w _ _ _ 3 _ rfl)
  have hb := gr_sm (gr_al (gr_al (gr_refl w) _) _) hs
  have i1 := ((h1.alloc _).alloc _).same hs
  have i2 := ((hp.alloc _).alloc _).same hs
  have i3 := ((ht.alloc _).alloc _).same hs
  have hsz : w.heap.size < w2.heap.size := by rw [hs.size]; simp; omega
  clear h1 hp ht
  go_wp2_with fail
  refine (clone_ints xs _ _ i1).mono ?_
  rintro e w3 ⟨v', rfl, ho, hbk⟩
  go_wp2
  go_ret2
  exact Mv.some_ HM.out (ho.mono hb.size) (gr_tr hb hbk)

set_option maxHeartbeats 2000000 in
theorem xmove_koh1 (xs q to : List Int) (pos : Int) (kind : Int) (v1 v2 : Value) (w : World) (h1 : Ints w v1 xs) (h2 : OpAt w v2 kind q to pos) (s1 : smallB xs = true) (s2 : smallB q = true) (s3 : smallB to = true) (s4 : smallB [pos] = true) (k1 : kind ≠ 1) (k2 : kind ≠ 2) (k3 : kind ≠ 3) (k4 : kind ≠ 4) (k5 : kind ≠ 5) (hq : 0 < q.length) (hh : standsN q xs = 1)
    (hm : moveP xs kind q to pos = some xs) :
    Calls Try.prog 40 #[v1, v2] w (Mv (moveP xs kind q to pos) w) := by
  obtain ⟨pv, tv, r4, r5, r6, r7, r8, r9, r10, r11, r12, r13, r14, r15, r16, r17, r18, r19, r20, rfl, hp, ht⟩ := h2
  have HM := Lib.hid hm
  obtain ⟨a1, c1, rfl⟩ := h1.slice
  have b1 := h1.len
  have HH := Lib.hid hh
  obtain ⟨n, hn⟩ : ∃ n, q.length = n + 1 := ⟨q.length - 1, by omega⟩
  have HN := Lib.hid hn
  obtain ⟨a2, c2, rfl⟩ := hp.slice_len hn
  obtain ⟨a3, n3, c3, rfl⟩ := ht.slice3
  have b2 := hp.len
  rw [hn] at b2
  have l1 : n + 1 ≤ xs.length := by have := (stands_len (q := q) (p := xs) (by rw [hh]; decide)).2; omega
  have f1 : (kind == 1) = false := by simpa using k1
  have f2 : (kind == 2) = false := by simpa using k2
  have f3 : (kind == 3) = false := by simpa using k3
  have f4 : (kind == 4) = false := by simpa using k4
  have f5 : (kind == 5) = false := by simpa using k5
  clear k1 k2 k3 k4 k5
  clear hm hh hn hq
  go_enter Try.func40, Try.ntmps40
  go_wp2_with fail
  refine (small_any _ _ _ (h1.alloc _)).mono ?_
  rintro e w1 ⟨rfl, rfl⟩
  rw [s1]
  go_wp2_with fail
  refine (small_any _ _ _ (hp.alloc _)).mono ?_
  rintro e w1 ⟨rfl, rfl⟩
  rw [s2]
  go_wp2_with fail
  refine (small_any _ _ _ (ht.alloc _)).mono ?_
  rintro e w1 ⟨rfl, rfl⟩
  rw [s3]
  go_wp2_with fail
  refine (small_any [pos] _ _ (lit_ints (w.alloc _) _ 1 (w.heap.size + 1) _ (by simp) rfl rfl (by simp))).mono ?_
  rintro e w1 ⟨rfl, rfl⟩
  rw [s4]
  go_wp2_with fail
  refine (stands_any _ _ _ _ _ ((hp.alloc _).alloc _) ((h1.alloc _).alloc _)).mono ?_
  rintro e w2 ⟨rfl, hs⟩
  rw [HH.out]
  have q0 := (hs.cell _).trans (box_cell w _ _ _ 0 _ rfl)
  have q1 := (hs.cell _).trans (box_cell w _ _ _ 1 _ rfl)
  have q2 := (hs.cell _).trans (box_cell w _ _ _ 2 _ rfl)
  have q3 := (hs.cell _).trans (box_cell w _ _ _ 3 _ rfl)
  have hb := gr_sm (gr_al (gr_al (gr_refl w) _) _) hs
  have i1 := ((h1.alloc _).alloc _).same hs
  have i2 := ((hp.alloc _).alloc _).same hs
  have i3 := ((ht.alloc _).alloc _).same hs
  have hsz : w.heap.size < w2.heap.size := by rw [hs.size]; simp; omega
  clear h1 hp ht
  go_wp2_with fail
  refine (clone_ints xs _ _ i1).mono ?_
  rintro e w3 ⟨v', rfl, ho, hbk⟩
  go_wp2
  go_ret2
  exact Mv.some_ HM.out (ho.mono hb.size) (gr_tr hb hbk)

set_option maxHeartbeats 2000000 in
theorem xmove_koh2 (xs q to : List Int) (pos : Int) (kind : Int) (v1 v2 : Value) (w : World) (h1 : Ints w v1 xs) (h2 : OpAt w v2 kind q to pos) (s1 : smallB xs = true) (s2 : smallB q = true) (s3 : smallB to = true) (s4 : smallB [pos] = true) (k1 : kind ≠ 1) (k2 : kind ≠ 2) (k3 : kind ≠ 3) (k4 : kind ≠ 4) (k5 : kind ≠ 5) (hq : 0 < q.length) (hh : standsN q xs = 2)
    (hm : moveP xs kind q to pos = some xs) :
    Calls Try.prog 40 #[v1, v2] w (Mv (moveP xs kind q to pos) w) := by
  obtain ⟨pv, tv, r4, r5, r6, r7, r8, r9, r10, r11, r12, r13, r14, r15, r16, r17, r18, r19, r20, rfl, hp, ht⟩ := h2
  have HM := Lib.hid hm
  obtain ⟨a1, c1, rfl⟩ := h1.slice
  have b1 := h1.len
  have HH := Lib.hid hh
  obtain ⟨n, hn⟩ : ∃ n, q.length = n + 1 := ⟨q.length - 1, by omega⟩
  have HN := Lib.hid hn
  obtain ⟨a2, c2, rfl⟩ := hp.slice_len hn
  obtain ⟨a3, n3, c3, rfl⟩ := ht.slice3
  have b2 := hp.len
  rw [hn] at b2
  have l1 : n + 1 ≤ xs.length := by have := (stands_len (q := q) (p := xs) (by rw [hh]; decide)).2; omega
  have l2 : n + 1 < xs.length := by have := stands_above_lt hh; omega
  have f1 : (kind == 1) = false := by simpa using k1
  have f2 : (kind == 2) = false := by simpa using k2
  have f3 : (kind == 3) = false := by simpa using k3
  have f4 : (kind == 4) = false := by simpa using k4
  have f5 : (kind == 5) = false := by simpa using k5
  clear k1 k2 k3 k4 k5
  clear hm hh hn hq
  go_enter Try.func40, Try.ntmps40
  go_wp2_with fail
  refine (small_any _ _ _ (h1.alloc _)).mono ?_
  rintro e w1 ⟨rfl, rfl⟩
  rw [s1]
  go_wp2_with fail
  refine (small_any _ _ _ (hp.alloc _)).mono ?_
  rintro e w1 ⟨rfl, rfl⟩
  rw [s2]
  go_wp2_with fail
  refine (small_any _ _ _ (ht.alloc _)).mono ?_
  rintro e w1 ⟨rfl, rfl⟩
  rw [s3]
  go_wp2_with fail
  refine (small_any [pos] _ _ (lit_ints (w.alloc _) _ 1 (w.heap.size + 1) _ (by simp) rfl rfl (by simp))).mono ?_
  rintro e w1 ⟨rfl, rfl⟩
  rw [s4]
  go_wp2_with fail
  refine (stands_any _ _ _ _ _ ((hp.alloc _).alloc _) ((h1.alloc _).alloc _)).mono ?_
  rintro e w2 ⟨rfl, hs⟩
  rw [HH.out]
  have q0 := (hs.cell _).trans (box_cell w _ _ _ 0 _ rfl)
  have q1 := (hs.cell _).trans (box_cell w _ _ _ 1 _ rfl)
  have q2 := (hs.cell _).trans (box_cell w _ _ _ 2 _ rfl)
  have q3 := (hs.cell _).trans (box_cell w _ _ _ 3 _ rfl)
  have hb := gr_sm (gr_al (gr_al (gr_refl w) _) _) hs
  have i1 := ((h1.alloc _).alloc _).same hs
  have i2 := ((hp.alloc _).alloc _).same hs
  have i3 := ((ht.alloc _).alloc _).same hs
  have hsz : w.heap.size < w2.heap.size := by rw [hs.size]; simp; omega
  clear h1 hp ht
  go_wp2_with fail
  refine (clone_ints xs _ _ i1).mono ?_
  rintro e w3 ⟨v', rfl, ho, hbk⟩
  go_wp2
  go_ret2
  exact Mv.some_ HM.out (ho.mono hb.size) (gr_tr hb hbk)

set_option maxHeartbeats 2000000 in
theorem xmove_koh3 (xs q to : List Int) (pos : Int) (kind : Int) (v1 v2 : Value) (w : World) (h1 : Ints w v1 xs) (h2 : OpAt w v2 kind q to pos) (s1 : smallB xs = true) (s2 : smallB q = true) (s3 : smallB to = true) (s4 : smallB [pos] = true) (k1 : kind ≠ 1) (k2 : kind ≠ 2) (k3 : kind ≠ 3) (k4 : kind ≠ 4) (k5 : kind ≠ 5) (hq : 0 < q.length) (hh : standsN q xs = 3)
    (hm : moveP xs kind q to pos = some xs) :
    Calls Try.prog 40 #[v1, v2] w (Mv (moveP xs kind q to pos) w) := by
  obtain ⟨pv, tv, r4, r5, r6, r7, r8, r9, r10, r11, r12, r13, r14, r15, r16, r17, r18, r19, r20, rfl, hp, ht⟩ := h2
  have HM := Lib.hid hm
  obtain ⟨a1, c1, rfl⟩ := h1.slice
  have b1 := h1.len
  have HH := Lib.hid hh
  obtain ⟨n, hn⟩ : ∃ n, q.length = n + 1 := ⟨q.length - 1, by omega⟩
  have HN := Lib.hid hn
  obtain ⟨a2, c2, rfl⟩ := hp.slice_len hn
  obtain ⟨a3, n3, c3, rfl⟩ := ht.slice3
  have b2 := hp.len
  rw [hn] at b2
  have l1 : n + 1 ≤ xs.length := by have := (stands_len (q := q) (p := xs) (by rw [hh]; decide)).2; omega
  have f1 : (kind == 1) = false := by simpa using k1
  have f2 : (kind == 2) = false := by simpa using k2
  have f3 : (kind == 3) = false := by simpa using k3
  have f4 : (kind == 4) = false := by simpa using k4
  have f5 : (kind == 5) = false := by simpa using k5
  clear k1 k2 k3 k4 k5
  clear hm hh hn hq
  go_enter Try.func40, Try.ntmps40
  go_wp2_with fail
  refine (small_any _ _ _ (h1.alloc _)).mono ?_
  rintro e w1 ⟨rfl, rfl⟩
  rw [s1]
  go_wp2_with fail
  refine (small_any _ _ _ (hp.alloc _)).mono ?_
  rintro e w1 ⟨rfl, rfl⟩
  rw [s2]
  go_wp2_with fail
  refine (small_any _ _ _ (ht.alloc _)).mono ?_
  rintro e w1 ⟨rfl, rfl⟩
  rw [s3]
  go_wp2_with fail
  refine (small_any [pos] _ _ (lit_ints (w.alloc _) _ 1 (w.heap.size + 1) _ (by simp) rfl rfl (by simp))).mono ?_
  rintro e w1 ⟨rfl, rfl⟩
  rw [s4]
  go_wp2_with fail
  refine (stands_any _ _ _ _ _ ((hp.alloc _).alloc _) ((h1.alloc _).alloc _)).mono ?_
  rintro e w2 ⟨rfl, hs⟩
  rw [HH.out]
  have q0 := (hs.cell _).trans (box_cell w _ _ _ 0 _ rfl)
  have q1 := (hs.cell _).trans (box_cell w _ _ _ 1 _ rfl)
  have q2 := (hs.cell _).trans (box_cell w _ _ _ 2 _ rfl)
  have q3 := (hs.cell _).trans (box_cell w _ _ _ 3 _ rfl)
  have hb := gr_sm (gr_al (gr_al (gr_refl w) _) _) hs
  have i1 := ((h1.alloc _).alloc _).same hs
  have i2 := ((hp.alloc _).alloc _).same hs
  have i3 := ((ht.alloc _).alloc _).same hs
  have hsz : w.heap.size < w2.heap.size := by rw [hs.size]; simp; omega
  clear h1 hp ht
  go_wp2_with fail
  refine (clone_ints xs _ _ i1).mono ?_
  rintro e w3 ⟨v', rfl, ho, hbk⟩
  go_wp2
  go_ret2
  exact Mv.some_ HM.out (ho.mono hb.size) (gr_tr hb hbk)

end Go.Proofs.Ytkalomdbbgeemaa
