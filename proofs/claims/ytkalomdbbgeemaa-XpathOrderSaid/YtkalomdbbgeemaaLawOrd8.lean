/- The walk of the law XpathOrder. -/
import Derived.Test.YtkalomdbbgeemaaLawStays
import Derived.Test.YtkalomdbbgeemaaXpathR
namespace Go.Proofs.Ytkalomdbbgeemaa
open Go.RowKit

theorem short8_two {a b q to : List Int} : short8B [a, b] q to = ((decide (a.length ≤ 60) && decide (b.length ≤ 60)) && (decide (q.length ≤ 60) && decide (to.length ≤ 60))) := by simp [short8B, shortB]

set_option maxHeartbeats 8000000 in
theorem law_order8 (a b q to : List Int) (kind pos : Int) (v1 v2 v3 : Value) (w : World) (h1 : Ints w v1 a) (h2 : Ints w v2 b) (h3 : OpAt w v3 kind q to pos) :
    Calls Try.prog 13 #[v1, v2, v3] w (True_ w) := by
  obtain ⟨a1, n1, c1, rfl⟩ := h1.slice3
  obtain ⟨a2, n2, c2, rfl⟩ := h2.slice3
  have H3 := h3
  obtain ⟨pv, tv, r4, r5, r6, r7, r8, r9, r10, r11, r12, r13, r14, r15, r16, r17, r18, r19, r20, rfl, hp, ht⟩ := h3
  obtain ⟨a3, n3, c3, rfl⟩ := hp.slice3
  obtain ⟨a4, n4, c4, rfl⟩ := ht.slice3
  clear hp ht
  go_enter Try.func13, Try.ntmps13
  go_wp2_with fail
  refine (live8_any _).mono ?_
  rintro e w1 ⟨rfl, hb1⟩
  have hk := box_blk hb1
  have HK := Lib.hid hk
  have z0 := box_get hb1 0 _ rfl
  clear hk
  have hb := gr_tr (gr_al (gr_refl w) _) hb1
  have i1 := h1.below hb (Nat.le_refl _)
  have i2 := h2.below hb (Nat.le_refl _)
  have io := H3.below hb (Nat.le_refl _)
  clear h1 h2 H3 hb1
  go_wp2_with (refine wpList_load_row rfl 50 _ rfl _ rfl 50 _ (0, 0) _ HK.out Try.underlying50 rfl (by kernel_rfl) ?_)
  refine (short8_any [a, b] q to kind pos _ _ _ (io.alloc _) (lit_two w1 _ _ _ a b rfl i1 i2)).mono ?_
  rintro e w2 ⟨rfl, hb2⟩
  rw [short8_two]
  cases hs : ((decide (a.length ≤ 60) && decide (b.length ≤ 60)) && (decide (q.length ≤ 60) && decide (to.length ≤ 60)))
  · replace hb := gr_tr (gr_al hb _) hb2
    go_wp2
    go_ret
    exact ⟨rfl, hb⟩
  obtain ⟨⟨t1, t2⟩, t3, t4⟩ : (a.length ≤ 60 ∧ b.length ≤ 60) ∧ q.length ≤ 60 ∧ to.length ≤ 60 := by simpa using hs
  clear hs
  have hbx := gr_tr (gr_al (gr_refl w1) _) hb2
  replace hb := gr_tr hb hbx
  replace i1 := i1.below hbx (Nat.le_refl _)
  replace i2 := i2.below hbx (Nat.le_refl _)
  replace io := io.below hbx (Nat.le_refl _)
  have hk2 := blk_below HK.out hbx
  replace HK := Lib.hid hk2
  replace z0 := (hbx.cell (p := ⟨w.heap.size, 0, none⟩) (World.block_lt_of_cell? _ _ z0)).trans z0
  clear hb2 hbx hk2
  have hkind : (kind = 1 ∨ kind = 2) ∨ (¬ kind = 1 ∧ ¬ kind = 2) := by omega
  rcases hkind with hkind | ⟨ka, kb⟩
  rotate_left
  · have f1 : (kind != 1) = true := by simpa using ka
    have f2 : (kind != 2) = true := by simpa using kb
    clear ka kb
    go_wp2
    go_ret
    exact ⟨rfl, hb⟩
  have MO : Hid (∀ x y, moveP a kind q to pos = some x → moveP b kind q to pos = some y → cmpI x y = cmpI a b ∧ aboveB x y = aboveB a b) := fun x y => move_order hkind
  have hkk : (kind != 1) = false ∨ ((kind != 1) = true ∧ (kind != 2) = false) := by
    rcases hkind with rfl | rfl
    · exact .inl rfl
    · exact .inr ⟨rfl, rfl⟩
  clear hkind
  generalize hm1 : moveP a kind q to pos = m1 at *
  generalize hm2 : moveP b kind q to pos = m2 at *
  have M1 := Lib.hid hm1
  have M2 := Lib.hid hm2
  clear hm1 hm2
  have HL1 := Lib.hid (show (to.length + a.length) * 8 ≤ 140737488351232 by omega)
  have HL2 := Lib.hid (show (to.length + b.length) * 8 ≤ 140737488351232 by omega)
  clear t1 t2 t3 t4
  rcases hkk with f1 | ⟨f1, f2⟩
  all_goals
    go_wp2_with (refine wpList_load_row rfl 50 _ rfl _ rfl 50 _ (0, 0) _ HK.out Try.underlying50 rfl (by kernel_rfl) ?_)
    refine (xmove_any a q to kind pos _ _ _ i1 io HL1.out).mono ?_
    rintro e w3 ⟨v3, rfl, ho, hbx⟩
    rw [M1.out] at ho
    rw [M1.out]
    have i3 := ho.ints
    clear ho
    replace hb := gr_tr hb hbx
    replace i1 := i1.below hbx (Nat.le_refl _)
    replace i2 := i2.below hbx (Nat.le_refl _)
    replace io := io.below hbx (Nat.le_refl _)
    have hk2 := blk_below HK.out hbx
    replace HK := Lib.hid hk2
    clear hk2 hbx z0
    obtain ⟨a5, c5, rfl⟩ := i3.slice
    go_wp2_with (refine wpList_load_row rfl 50 _ rfl _ rfl 50 _ (0, 0) _ HK.out Try.underlying50 rfl (by kernel_rfl) ?_)
    refine (xmove_any b q to kind pos _ _ _ i2 io HL2.out).mono ?_
    rintro e w4 ⟨v4, rfl, ho, hbx⟩
    rw [M2.out] at ho
    rw [M2.out]
    have i4 := ho.ints
    clear ho
    replace hb := gr_tr hb hbx
    replace i1 := i1.below hbx (Nat.le_refl _)
    replace i2 := i2.below hbx (Nat.le_refl _)
    replace i3 := i3.below hbx (Nat.le_refl _)
    clear hbx io HK
    obtain ⟨a6, c6, rfl⟩ := i4.slice
    cases m1 with
    | none =>
      go_wp2
      go_ret
      exact ⟨rfl, hb⟩
    | some x =>
      cases m2 with
      | none =>
        generalize hn : ((some x).getD []).length = nx at *
        cases hz : ((nx : Int) == 0)
        · go_wp2
          go_ret
          exact ⟨rfl, hb⟩
        · go_wp2
          go_ret
          exact ⟨rfl, hb⟩
      | some y =>
        obtain ⟨qa, qb⟩ := MO.out x y rfl rfl
        simp only [Option.getD_some] at i3 i4
        have QA := Lib.hid qa
        have QB := Lib.hid qb
        clear qa qb MO M1 M2
        go_wp2_with fail
        refine (compare_any x y _ _ _ i3 i4).mono ?_
        rintro e w5 ⟨rfl, rfl⟩
        rw [QA.out]
        go_wp2_with fail
        refine (compare_any a b _ _ _ i1 i2).mono ?_
        rintro e w6 ⟨rfl, rfl⟩
        have fc : (cmpI a b == cmpI a b) = true := by simp
        go_wp2_with fail
        refine (above_any x y _ _ _ i3 i4).mono ?_
        rintro e w7 ⟨rfl, hs⟩
        rw [QB.out]
        replace hb := gr_sm hb hs
        replace i1 := i1.same hs
        replace i2 := i2.same hs
        clear hs
        go_wp2_with fail
        refine (above_any a b _ _ _ i1 i2).mono ?_
        rintro e w8 ⟨rfl, hs⟩
        have hbf := gr_sm hb hs
        cases aboveB a b
        · go_wp2
          go_ret
          exact ⟨rfl, hbf⟩
        · go_wp2
          go_ret
          exact ⟨rfl, hbf⟩

theorem law_order8' (a b : List Int) (o : OpM) (v1 v2 v3 : Value) (w : World) (h1 : Ints w v1 a ∧ I64 a) (h2 : Ints w v2 b ∧ I64 b) (h3 : OpR w v3 o) :
    Calls Try.prog 13 #[v1, v2, v3] w (True_ w) := law_order8 a b o.path o.to o.kind o.pos v1 v2 v3 w h1.1 h2.1 h3
end Go.Proofs.Ytkalomdbbgeemaa
