/- The walk of the law XpathDoes. -/
import Derived.Test.YtkalomdbbgeemaaRef08b
namespace Go.Proofs.Ytkalomdbbgeemaa
open Go.RowKit

set_option maxHeartbeats 8000000 in
theorem law_does8 (xs q to : List Int) (kind pos : Int) (v1 v2 : Value) (w : World) (h1 : Ints w v1 xs) (h2 : OpAt w v2 kind q to pos) :
    Calls Try.prog 8 #[v1, v2] w (True_ w) := by
  obtain ⟨a1, n1, c1, rfl⟩ := h1.slice3
  have H2 := h2
  obtain ⟨pv, tv, r4, r5, r6, r7, r8, r9, r10, r11, r12, r13, r14, r15, r16, r17, r18, r19, r20, rfl, hp, ht⟩ := h2
  obtain ⟨a2, n2, c2, rfl⟩ := hp.slice3
  obtain ⟨a3, n3, c3, rfl⟩ := ht.slice3
  clear hp ht
  go_enter Try.func8, Try.ntmps8
  go_wp2_with fail
  refine (live8_any _).mono ?_
  rintro e w1 ⟨rfl, hb1⟩
  have hk := box_blk hb1
  have HK := Lib.hid hk
  clear hk
  have hb := gr_tr (gr_al (gr_refl w) _) hb1
  have i1 := h1.below hb (Nat.le_refl _)
  have io := H2.below hb (Nat.le_refl _)
  clear h1 H2 hb1
  go_wp2_with (refine wpList_load_row rfl 50 _ rfl _ rfl 50 _ (0, 0) _ HK.out Try.underlying50 rfl (by kernel_rfl) ?_)
  refine (short8_any [xs] q to kind pos _ _ _ (io.alloc _) (lit_one w1 _ _ xs rfl i1)).mono ?_
  rintro e w2 ⟨rfl, hb2⟩
  rw [show short8B [xs] q to = (decide (xs.length ≤ 60) && (decide (q.length ≤ 60) && decide (to.length ≤ 60))) from by simp [short8B, shortB]]
  cases hs : (decide (xs.length ≤ 60) && (decide (q.length ≤ 60) && decide (to.length ≤ 60)))
  · replace hb := gr_tr (gr_al hb _) hb2
    go_wp2
    go_ret
    exact ⟨rfl, hb⟩
  obtain ⟨t1, t2, t3⟩ : xs.length ≤ 60 ∧ q.length ≤ 60 ∧ to.length ≤ 60 := by simpa using hs
  clear hs
  have hbx := gr_tr (gr_al (gr_refl w1) _) hb2
  replace hb := gr_tr hb hbx
  replace i1 := i1.below hbx (Nat.le_refl _)
  replace io := io.below hbx (Nat.le_refl _)
  have hk2 := blk_below HK.out hbx
  replace HK := Lib.hid hk2
  have HL := Lib.hid (show (to.length + xs.length) * 8 ≤ 140737488351232 by omega)
  clear hb2 hbx hk2 t1 t2 t3
  go_wp2_with fail
  refine (rcopy_any xs _ _ i1).mono ?_
  rintro e w3 ⟨v3, rfl, ho, hbx⟩
  have iw := ho.ints
  replace hb := gr_tr hb hbx
  replace i1 := i1.below hbx (Nat.le_refl _)
  replace io := io.below hbx (Nat.le_refl _)
  have hk2 := blk_below HK.out hbx
  replace HK := Lib.hid hk2
  clear hbx ho hk2
  obtain ⟨a5, n5, c5, rfl⟩ := iw.slice3
  generalize hm : moveP xs kind q to pos = m at *
  have HM := Lib.hid hm
  clear hm
  go_wp2_with (refine wpList_load_row rfl 50 _ rfl _ rfl 50 _ (0, 0) _ HK.out Try.underlying50 rfl (by kernel_rfl) ?_)
  refine (xmove_any xs q to kind pos _ _ _ i1 io HL.out).mono ?_
  rintro e w4 ⟨v4, rfl, ho, hb4⟩
  rw [HM.out] at ho
  rw [HM.out]
  have i14 := i1.below hb4 (Nat.le_refl _)
  have io4 := io.below hb4 (Nat.le_refl _)
  have hk2 := blk_below HK.out hb4
  replace HK := Lib.hid hk2
  clear hk2 io
  obtain ⟨a6, c6, rfl⟩ := ho.ints.slice
  go_wp2_with (refine wpList_load_row rfl 50 _ rfl _ rfl 50 _ (0, 0) _ HK.out Try.underlying50 rfl (by kernel_rfl) ?_)
  refine (rmove_any xs q to kind pos _ _ _ i14 io4 HL.out).mono ?_
  rintro e w5 ⟨v5, rfl, ho5, hb5⟩
  rw [HM.out] at ho5
  rw [HM.out]
  have i5 := ho5.ints
  obtain ⟨a7, n7, c7, rfl⟩ := i5.slice3
  have ho4 := ho.below hb5 (Nat.le_refl _)
  have hbm := gr_tr hb4 hb5
  clear ho hb4 hb5 ho5 io4 i14 HK HM HL
  have fb : (m.isSome == m.isSome) = true := by simp
  generalize m.isSome = bo at *
  generalize m.getD [] = L at *
  go_wp2_with fail
  refine (rsame_any _ _ _ _ _ ho4.ints i5).mono ?_
  rintro e w6 ⟨rfl, hs⟩
  rw [show decide (L = L) = true from by simp]
  have ho6 := ho4.below (hs.below w5.heap.size) (Nat.le_refl _)
  replace hbm := gr_sm hbm hs
  have hsz := hbm.size
  clear hs i5 ho4
  generalize hLn : L.length = ln at *
  have HI := Lib.hid i1
  have HW := Lib.hid iw
  have HB := Lib.hid hb
  clear hb
  go_wp2_with fail
  go_loopw [43] (fun i wr => ∃ k : Nat, k ≤ ln ∧ i = .int .i64 k ∧ (∃ ys : List Int, ys.length = ln ∧ Own wr w3.heap.size (.slice a6 ln c6) ys) ∧ Below w3.heap.size w3 wr) (fun i _ => ln - (intOf i).toNat)
  case atStart => exact ⟨0, Nat.zero_le _, rfl, ⟨L, hLn, ho6⟩, hbm⟩
  case round =>
    clear hbm ho6 hsz
    obtain ⟨k, hk, rfl, ⟨ys, hyl, hoy⟩, hbr⟩ := hrel
    have hln : ln * 8 ≤ 140737488351232 := by have := hoy.2; omega
    by_cases hlt : k < ln
    · obtain ⟨g, cap, he, hcap, hg1, hg2, hcell, hfr, hset⟩ := hoy.at_ k (by omega)
      simp only [Value.slice.injEq] at he
      obtain ⟨rfl, hx, rfl⟩ := he
      clear hx
      have HS := Lib.hid (hset (wrap64 (ys.getD k 0 + 1)))
      have HY := Lib.hid hyl
      clear hset hoy hyl
      generalize ys.getD k 0 = x at *
      go_wp2
      go_round
      case rel => exact ⟨k + 1, by omega, by go_num, ⟨_, by rw [List.length_set]; exact HY.out, HS.out.1⟩, hbr.trans HS.out.2⟩
      case measure => simp [intOf]; omega
    · have hkn : k = ln := by omega
      subst hkn
      have hi1 := HI.out.below hbr (Nat.le_refl _)
      have hiw := HW.out.below hbr (Nat.le_refl _)
      clear hlt hk
      go_wp2_with fail
      refine (rsame_any _ _ _ _ _ hi1 hiw).mono ?_
      rintro e w8 ⟨rfl, hs⟩
      rw [show decide (xs = xs) = true from by simp]
      go_wp2
      go_ret
      exact ⟨rfl, gr_sm (gr_tr HB.out hbr) hs⟩

theorem law_does8' (xs : List Int) (o : OpM) (v1 v2 : Value) (w : World) (h1 : Ints w v1 xs ∧ I64 xs) (h2 : OpR w v2 o) :
    Calls Try.prog 8 #[v1, v2] w (True_ w) := law_does8 xs o.path o.to o.kind o.pos v1 v2 w h1.1 h2
end Go.Proofs.Ytkalomdbbgeemaa
