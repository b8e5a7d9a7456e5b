/- The walk of the law XpathStays. -/
import Derived.Test.YtkalomdbbgeemaaLaw08
import Derived.Test.YtkalomdbbgeemaaLawBack
import Derived.Test.YtkalomdbbgeemaaOpenOp
namespace Go.Proofs.Ytkalomdbbgeemaa
open Go.RowKit

/-- Is p by q, or behind it? -/
def byB (q p : List Int) : Bool := decide (q = p) || (aboveB q p || leftB q p)
theorem stands_apart {q p : List Int} (h : byB q p = false) : standsN q p = 0 := by
  simp only [byB, Bool.or_eq_false_iff, decide_eq_false_iff_not] at h
  unfold standsN
  split
  · rfl
  · rw [if_neg h.1, if_neg (by simp [h.2.1]), if_neg (by simp [h.2.2])]

theorem move_content {p q to : List Int} {kind pos : Int} (s1 : smallB p = true) (s2 : smallB q = true) (s3 : smallB to = true) (s4 : smallB [pos] = true) (hk : 6 ≤ kind) : moveP p kind q to pos = some p := by
  rw [moveP, if_pos ⟨s1, s2, s3, s4⟩]
  split
  · rfl
  · rw [if_neg (by omega), if_neg (by omega), if_neg (by omega), if_neg (by omega), if_neg (by omega)]
theorem move_apart {p q to : List Int} {kind pos : Int} (s1 : smallB p = true) (s2 : smallB q = true) (s3 : smallB to = true) (s4 : smallB [pos] = true) (h : byB q p = false) (h5 : kind ≠ 5) (h3 : kind ≠ 3) : moveP p kind q to pos = some p := by
  have hs := stands_apart h
  rw [moveP, if_pos ⟨s1, s2, s3, s4⟩, hs]
  split
  · rfl
  · split
    · rw [insL, if_pos hs]
    · by_cases k2 : kind = 2
      · rw [if_pos k2]; simp
      · rw [if_neg k2]
        by_cases k4 : kind = 4
        · try rw [if_neg h3]
          rw [if_pos k4]; simp
        · try rw [if_neg h3]
          rw [if_neg k4]
          try rw [if_neg h5]

theorem small_one {x : Int} : smallB [x] = true ↔ ¬ x < 0 ∧ ¬ 1048576 < x := by
  rw [smallB_iff]
  simp

set_option maxHeartbeats 8000000 in
theorem law_stays (xs q to : List Int) (kind pos : Int) (v1 v2 : Value) (w : World) (h1 : Ints w v1 xs) (h2 : OpAt w v2 kind q to pos) :
    Calls Try.prog 11 #[v1, v2] w (True_ w) := by
  obtain ⟨a1, n1, c1, rfl⟩ := h1.slice3
  have H2 := h2
  obtain ⟨pv, tv, r4, r5, r6, r7, r8, r9, r10, r11, r12, r13, r14, r15, r16, r17, r18, r19, r20, rfl, hp, ht⟩ := h2
  obtain ⟨a2, n2, c2, rfl⟩ := hp.slice3
  obtain ⟨a3, n3, c3, rfl⟩ := ht.slice3
  go_enter Try.func11, Try.ntmps11
  go_wp2_with fail
  refine (live8_any _).mono ?_
  rintro e w1 ⟨rfl, hb1⟩
  have hk := box_blk hb1
  have HK := Lib.hid hk
  have z0 := box_get hb1 0 _ rfl
  have z1 := box_get hb1 1 _ rfl
  have z2 := box_get hb1 2 _ rfl
  have z3 := box_get hb1 3 _ rfl
  clear hk
  have hb := gr_tr (gr_al (gr_refl w) _) hb1
  have i1 := h1.below hb (Nat.le_refl _)
  have i2 := hp.below hb (Nat.le_refl _)
  have i3 := ht.below hb (Nat.le_refl _)
  have io := H2.below hb (Nat.le_refl _)
  clear h1 hp ht H2 hb1
  go_wp2_with (refine wpList_load_row rfl 50 _ rfl _ rfl 50 _ (0, 0) _ HK.out Try.underlying50 rfl (by kernel_rfl) ?_)
  refine (short8_any [xs] q to kind pos _ _ _ (io.alloc _) (lit_one w1 _ _ xs rfl i1)).mono ?_
  rintro e w2 ⟨rfl, hb2⟩
  rw [show short8B [xs] q to = (decide (xs.length ≤ 60) && (decide (q.length ≤ 60) && decide (to.length ≤ 60))) from by simp [short8B, shortB]]
  cases hs : (decide (xs.length ≤ 60) && (decide (q.length ≤ 60) && decide (to.length ≤ 60)))
  · replace hb := gr_tr (gr_al hb _) hb2
    go_wp2
    go_ret
    exact ⟨rfl, hb⟩
  obtain ⟨t1, t2, t3⟩ : xs.length ≤ 60 ∧ q.length ≤ 60 ∧ to.length ≤ 60 := by simpa using hs
  clear hs
  have hbx := gr_tr (gr_al (gr_refl w1) _) hb2
  replace hb := gr_tr hb hbx
  replace i1 := i1.below hbx (Nat.le_refl _)
  replace i2 := i2.below hbx (Nat.le_refl _)
  replace i3 := i3.below hbx (Nat.le_refl _)
  replace io := io.below hbx (Nat.le_refl _)
  have hk2 := blk_below HK.out hbx
  replace HK := Lib.hid hk2
  replace z0 := (hbx.cell (p := ⟨w.heap.size, 0, none⟩) (World.block_lt_of_cell? _ _ z0)).trans z0
  replace z1 := (hbx.cell (p := ⟨w.heap.size, 1, none⟩) (World.block_lt_of_cell? _ _ z1)).trans z1
  replace z2 := (hbx.cell (p := ⟨w.heap.size, 2, none⟩) (World.block_lt_of_cell? _ _ z2)).trans z2
  replace z3 := (hbx.cell (p := ⟨w.heap.size, 3, none⟩) (World.block_lt_of_cell? _ _ z3)).trans z3
  clear hb2 hbx hk2
  go_wp2_with fail
  refine (rsmall_any _ _ _ i1).mono ?_
  rintro e w' ⟨rfl, rfl⟩
  cases s1 : smallB xs
  · go_wp2
    go_ret
    exact ⟨rfl, hb⟩
  go_wp2_with fail
  refine (rsmall_any _ _ _ i2).mono ?_
  rintro e w' ⟨rfl, rfl⟩
  cases s2 : smallB q
  · go_wp2
    go_ret
    exact ⟨rfl, hb⟩
  go_wp2_with fail
  refine (rsmall_any _ _ _ i3).mono ?_
  rintro e w' ⟨rfl, rfl⟩
  cases s3 : smallB to
  · go_wp2
    go_ret
    exact ⟨rfl, hb⟩
  by_cases p1 : pos < 0
  · go_wp2
    go_ret
    exact ⟨rfl, hb⟩
  by_cases p2 : 1048576 < pos
  · go_wp2
    go_ret
    exact ⟨rfl, hb⟩
  have s4 : smallB [pos] = true := small_one.2 ⟨p1, p2⟩
  have S1 := Lib.hid s1; have S2 := Lib.hid s2; have S3 := Lib.hid s3; have S4 := Lib.hid s4
  have MC : Hid (6 ≤ kind → moveP xs kind q to pos = some xs) := move_content s1 s2 s3 s4
  have MA : Hid (byB q xs = false → kind ≠ 5 → kind ≠ 3 → moveP xs kind q to pos = some xs) := move_apart s1 s2 s3 s4
  clear s1 s2 s3 s4
  go_wp2_with (refine wpList_load_row rfl 50 _ rfl _ rfl 50 _ (0, 0) _ HK.out Try.underlying50 rfl (by kernel_rfl) ?_)
  refine (xmove_any xs q to kind pos _ _ _ i1 io (by omega)).mono ?_
  rintro e w3 ⟨v3, rfl, ho, hbx⟩
  replace hb := gr_tr hb hbx
  replace i1 := i1.below hbx (Nat.le_refl _)
  replace i2 := i2.below hbx (Nat.le_refl _)
  replace z0 := (hbx.cell (p := ⟨w.heap.size, 0, none⟩) (World.block_lt_of_cell? _ _ z0)).trans z0
  replace z1 := (hbx.cell (p := ⟨w.heap.size, 1, none⟩) (World.block_lt_of_cell? _ _ z1)).trans z1
  have io3 := ho.ints
  obtain ⟨a4, n4, c4, rfl⟩ := io3.slice3
  clear ho hbx z2 z3 io i3
  have qx : decide (xs = xs) = true := by simp
  by_cases k6 : 6 ≤ kind ∧ kind ≤ 9
  · obtain ⟨k6, k9⟩ := k6
    rw [MC.out k6] at io3
    rw [MC.out k6]
    go_wp2_with fail
    refine (same_any _ _ _ _ _ io3 i1).mono ?_
    rintro e w4 ⟨rfl, hs⟩
    have qy : decide ((some xs).getD [] = xs) = true := by simp
    rw [qy]
    go_wp2
    go_ret
    exact ⟨rfl, gr_sm hb hs⟩
  · have K6 : (decide (6 ≤ kind) = false) ∨ (decide (6 ≤ kind) = true ∧ decide (kind ≤ 9) = false) := by
      by_cases a : 6 ≤ kind
      · exact .inr ⟨by simpa using a, by simp; omega⟩
      · exact .inl (by simpa using a)
    clear k6 MC
    have B3 : (decide (q = xs) = true) ∨ (decide (q = xs) = false ∧ aboveB q xs = true) ∨ (decide (q = xs) = false ∧ aboveB q xs = false ∧ leftB q xs = true) ∨ (decide (q = xs) = false ∧ aboveB q xs = false ∧ leftB q xs = false) := by
      cases decide (q = xs) <;> cases aboveB q xs <;> cases leftB q xs <;> simp
    rcases K6 with f6 | ⟨f6, f9⟩
    all_goals
      rcases B3 with b1 | ⟨b1, b2⟩ | ⟨b1, b2, b3⟩ | ⟨b1, b2, b3⟩
      · go_wp2_with fail
        refine (same_any _ _ _ _ _ i2 i1).mono ?_
        rintro e w4 ⟨rfl, hs⟩
        rw [b1]
        go_wp2
        go_ret
        exact ⟨rfl, gr_sm hb hs⟩
      · go_wp2_with fail
        refine (same_any _ _ _ _ _ i2 i1).mono ?_
        rintro e w4 ⟨rfl, hs⟩
        rw [b1]
        replace z1 := (hs.cell _).trans z1
        go_wp2_with fail
        refine (above_any _ _ _ _ _ (i2.same hs) (i1.same hs)).mono ?_
        rintro e w5 ⟨rfl, hs5⟩
        rw [b2]
        go_wp2
        go_ret
        exact ⟨rfl, gr_sm (gr_sm hb hs) hs5⟩
      · go_wp2_with fail
        refine (same_any _ _ _ _ _ i2 i1).mono ?_
        rintro e w4 ⟨rfl, hs⟩
        rw [b1]
        replace z1 := (hs.cell _).trans z1
        go_wp2_with fail
        refine (above_any _ _ _ _ _ (i2.same hs) (i1.same hs)).mono ?_
        rintro e w5 ⟨rfl, hs5⟩
        rw [b2]
        replace z1 := (hs5.cell _).trans z1
        go_wp2_with fail
        refine (left_any _ _ _ _ _ ((i2.same hs).same hs5) ((i1.same hs).same hs5)).mono ?_
        rintro e w6 ⟨rfl, hs6⟩
        rw [b3]
        go_wp2
        go_ret
        exact ⟨rfl, gr_sm (gr_sm (gr_sm hb hs) hs5) hs6⟩
      · have hby : byB q xs = false := by rw [byB, b1, b2, b3]; rfl
        have HBY := Lib.hid hby
        clear hby
        go_wp2_with fail
        refine (same_any _ _ _ _ _ i2 i1).mono ?_
        rintro e w4 ⟨rfl, hs⟩
        rw [b1]
        replace z1 := (hs.cell _).trans z1
        replace z0 := (hs.cell _).trans z0
        go_wp2_with fail
        refine (above_any _ _ _ _ _ (i2.same hs) (i1.same hs)).mono ?_
        rintro e w5 ⟨rfl, hs5⟩
        rw [b2]
        replace z1 := (hs5.cell _).trans z1
        replace z0 := (hs5.cell _).trans z0
        go_wp2_with fail
        refine (left_any _ _ _ _ _ ((i2.same hs).same hs5) ((i1.same hs).same hs5)).mono ?_
        rintro e w6 ⟨rfl, hs6⟩
        rw [b3]
        replace z0 := (hs6.cell _).trans z0
        by_cases k5 : kind = 5
        · have f5 : (kind == 5) = true := by simpa using k5
          have HH := Lib.hid k5
          clear k5
          go_wp2
          go_ret
          exact ⟨rfl, gr_sm (gr_sm (gr_sm hb hs) hs5) hs6⟩
        · have f5 : (kind == 5) = false := by simpa using k5
          by_cases k3 : kind = 3
          · have f3 : (kind == 3) = true := by simpa using k3
            have HH := Lib.hid k3
            clear k3 k5
            go_wp2
            go_ret
            exact ⟨rfl, gr_sm (gr_sm (gr_sm hb hs) hs5) hs6⟩
          · have f3 : (kind == 3) = false := by simpa using k3
            have hma := MA.out HBY.out k5 k3
            clear k3 k5
            rw [hma] at io3
            rw [hma]
            have qy : decide ((some xs).getD [] = xs) = true := by simp
            clear hma
            go_wp2_with fail
            refine (same_any _ _ _ _ _ (((io3.same hs).same hs5).same hs6) (((i1.same hs).same hs5).same hs6)).mono ?_
            rintro e w7 ⟨rfl, hs7⟩
            rw [qy]
            go_wp2
            go_ret
            exact ⟨rfl, gr_sm (gr_sm (gr_sm (gr_sm hb hs) hs5) hs6) hs7⟩

theorem law_stays' (xs : List Int) (o : OpM) (v1 v2 : Value) (w : World) (h1 : Ints w v1 xs ∧ I64 xs) (h2 : OpR w v2 o) :
    Calls Try.prog 11 #[v1, v2] w (True_ w) := law_stays xs o.path o.to o.kind o.pos v1 v2 w h1.1 h2
end Go.Proofs.Ytkalomdbbgeemaa
