/- The walk of the law TrailMoves. -/
import Derived.Test.YtkalomdbbgeemaaLawLevels
import Derived.Test.YtkalomdbbgeemaaRef02d
namespace Go.Proofs.Ytkalomdbbgeemaa
open Go.RowKit

theorem OwnL.below {w w' : World} {B C : Nat} {v : Value} {xss : List (List Int)} (h : OwnL w B v xss) (hb : Below C w w') (hC : w.heap.size ≤ C) : OwnL w' B v xss := by
  obtain ⟨vs, h1, h2⟩ := h
  exact ⟨vs, row_below h1 hb hC, fun j hj => (h2 j hj).below hb hC⟩
theorem OwnL.mono {w : World} {B C : Nat} {v : Value} {xss : List (List Int)} (h : OwnL w B v xss) (hC : C ≤ B) : OwnL w C v xss := by
  obtain ⟨vs, h1, h2⟩ := h
  exact ⟨vs, row_mono h1 hC, fun j hj => (h2 j hj).mono hC⟩

/-- A store of an int into a block of ints: what is owned stays owned, of other numbers. -/
theorem own_setInt {w : World} {B : Nat} {v : Value} {xs : List Int} (h : Own w B v xs) {g i : Nat} (y : Int) :
    ∃ xs', xs'.length = xs.length ∧ Own (w.setCell ⟨g, i, none⟩ (.int .i64 y)) B v xs' := by
  by_cases hv : v.ownBlock = some g
  · rcases Nat.lt_or_ge i xs.length with hi | hi
    · obtain ⟨g', cap, rfl, _, _, _, _, _, hset⟩ := h.at_ i hi
      simp only [Value.ownBlock, Option.some.injEq] at hv
      subst hv
      exact ⟨_, by simp, (hset y).1⟩
    · refine ⟨xs, rfl, ?_, h.2⟩
      obtain ⟨hl, h'⟩ := h.1
      rcases h' with ⟨rfl, h0⟩ | ⟨g', cap, cur, rfl, hB, hg, hn, hm, hs, ht⟩
      · simp [Value.ownBlock] at hv
      · simp only [Value.ownBlock, Option.some.injEq] at hv
        subst hv
        have hgl := lt_of_block hg
        refine ⟨hl, .inr ⟨g', cap, cur.setIfInBounds i (.int .i64 y), rfl, hB, ?_, hn, hm, by simpa using hs, ?_⟩⟩
        · show (w.heap.modify g' _)[g']? = _
          have h' : w.heap[g'] = .cells cur 3 (0, 0) := by simpa [Array.getElem?_eq_getElem hgl] using hg
          rw [Array.getElem?_eq_getElem (by simpa using hgl), Array.getElem_modify_self, h']
          rfl
        · rw [Array.toList_setIfInBounds, List.take_set_of_le (by omega), ht]
  · exact ⟨xs, rfl, ownsRow_setCell_other h.1 (a := ⟨g, i, none⟩) hv _, h.2⟩

/-- Values of the call's own into which ints may be stored, a list of such, and all that was there when wB was. -/
structure Pool (wB wr : World) (L : List Value) (vl : Value) (us : List Value) : Prop where
  below : Below wB.heap.size wB wr
  each : ∀ u ∈ L, ∃ xs, Own wr wB.heap.size u xs
  row : wr.ownsRow wB.heap.size 22 1 vl us.length us

theorem Pool.at_ {wB wr : World} {L : List Value} {vl : Value} {us : List Value} (h : Pool wB wr L vl us) {a : Option Addr} {n cap : Nat} (hu : Value.slice a n cap ∈ L) {i : Nat} (hi : i < n) :
    ∃ g x, a = some ⟨g, 0, none⟩ ∧ n ≤ cap ∧ g < wr.heap.size ∧ wr.cell? ⟨g, i, none⟩ = some (.int .i64 x) ∧ wr.frozen? ⟨g, i, none⟩ = false ∧ ∀ y, Pool wB (wr.setCell ⟨g, i, none⟩ (.int .i64 y)) L vl us := by
  obtain ⟨xs, ho⟩ := h.each _ hu
  have hn : xs.length = n := by
    obtain ⟨a', c', he⟩ := ho.ints.slice
    simp only [Value.slice.injEq] at he
    omega
  obtain ⟨g, cap', he, hc, hB, hg, hcell, hfr, _⟩ := ho.at_ i (by omega)
  simp only [Value.slice.injEq] at he
  obtain ⟨rfl, _, rfl⟩ := he
  refine ⟨g, _, rfl, by omega, hg, hcell, hfr, fun y => ⟨h.below.setCell (p := ⟨g, i, none⟩) hB _, fun u hu' => ?_, ?_⟩⟩
  · obtain ⟨xs', ho'⟩ := h.each u hu'
    obtain ⟨xs2, _, ho2⟩ := own_setInt ho' (g := g) (i := i) y
    exact ⟨xs2, ho2⟩
  · refine ownsRow_setCell_other h.row (a := ⟨g, i, none⟩) ?_ _
    rcases row_apart h.row ho.1 (by decide) with hx | hx
    · rw [hx]; simp
    · simpa [Value.ownBlock] using hx

theorem Pool.push {wB wr w' : World} {L : List Value} {vl v' x : Value} {us : List Value} {o : Obj} (h : Pool wB wr L vl us) (hg : (wr.alloc o).grownBy w' vl.ownBlock)
    (hown : w'.ownsRow wB.heap.size 22 1 v' (us.length + 1) (us ++ [x])) : Pool wB w' L v' (us ++ [x]) := by
  refine ⟨(h.below.alloc h.below.size o).grown hg (by have := h.below.size; simp; omega) (fun k hk => (h.row.lt k hk).1), fun u hu => ?_, by simpa using hown⟩
  obtain ⟨xs, ho⟩ := h.each u hu
  exact ⟨xs, Own.kept ⟨ho.1.alloc o, ho.2⟩ (h.row.alloc o) hg⟩

theorem row_slice {w : World} {B : Nat} {e : TypeId} {s : Nat} {v : Value} {n : Nat} {xs : List Value} (h : w.ownsRow B e s v n xs) : ∃ a c, v = .slice a n c ∧ n ≤ c := by
  rcases h.2 with ⟨rfl, rfl⟩ | ⟨g, cap, cur, rfl, _, _, hn, _⟩
  · exact ⟨none, 0, rfl, Nat.le_refl _⟩
  · exact ⟨_, cap, rfl, hn⟩

set_option maxHeartbeats 8000000 in
theorem law_moves (xs ys : List Int) (v1 v2 : Value) (w : World) (h1 : Ints w v1 xs) (h2 : Ints w v2 ys) (h64 : I64 xs) :
    Calls Try.prog 4 #[v1, v2] w (True_ w) := by
  obtain ⟨a1, n1, c1, rfl⟩ := h1.slice3
  obtain ⟨a2, n2, c2, rfl⟩ := h2.slice3
  cases hs : shortB 100 [xs, ys]
  all_goals
    have HS := Lib.hid hs
    clear hs
    go_enter Try.func4, Try.ntmps4
    go_wp2_with fail
    refine (live_any _).mono ?_
    rintro e w1 ⟨rfl, hb1⟩
    go_wp2_with fail
    refine (short_any [xs, ys] _ _ (lit_two w1 _ _ _ xs ys rfl (h1.below hb1 (Nat.le_refl _)) (h2.below hb1 (Nat.le_refl _)))).mono ?_
    rintro e w2 ⟨rfl, hw2⟩
    rw [HS.out]
    have hb := gr_al hb1 (.cells #[.slice a1 n1 c1, .slice a2 n2 c2] 22)
    rw [hw2] at hb
    clear hw2 hb1
    have g1 := h1.below hb (Nat.le_refl _)
    have g2 := h2.below hb (Nat.le_refl _)
    clear h1 h2
  · go_wp2
    go_ret
    exact ⟨rfl, hb⟩
  · obtain ⟨s1, s2⟩ : xs.length ≤ 100 ∧ ys.length ≤ 100 := by have := HS.out; simpa [shortB] using this
    clear HS
    have H64 := Lib.hid h64
    clear h64
    go_wp2_with fail
    refine (rcopy_any xs _ _ g1).mono ?_
    rintro e wB ⟨vw, rfl, how, hbw⟩
    obtain ⟨aw, nw, cw, rfl⟩ := how.ints.slice3
    have gw := how.ints
    replace g1 := g1.below hbw (Nat.le_refl _)
    replace g2 := g2.below hbw (Nat.le_refl _)
    replace hb := gr_tr hb hbw
    have hbw0 := hb
    have hB := gr_refl wB
    have g1B := Lib.hid g1
    have gwB := Lib.hid gw
    clear how hbw gw
    go_wp2_with fail
    refine (parent_any xs _ _ g1).mono ?_
    rintro e wp ⟨vp, rfl, kp, hbk⟩
    obtain ⟨ap, np, cp, rfl⟩ := kp.ints.slice3
    replace kp := kp.mono hB.size
    replace g1 := g1.below hbk (Nat.le_refl _)
    replace g2 := g2.below hbk (Nat.le_refl _)
    replace hB := gr_tr hB hbk
    clear hbk
    go_wp2_with fail
    refine (rparent_any xs _ _ g1).mono ?_
    rintro e wq ⟨vq, rfl, kq, hbk⟩
    obtain ⟨aq, nq, cq, rfl⟩ := kq.ints.slice3
    replace kq := kq.mono hB.size
    replace kq := kq.ints
    replace g1 := g1.below hbk (Nat.le_refl _)
    replace g2 := g2.below hbk (Nat.le_refl _)
    replace kp := kp.below hbk (Nat.le_refl _)
    replace hB := gr_tr hB hbk
    clear hbk
    go_wp2_with fail
    refine (next_any xs _ _ g1 H64.out).mono ?_
    rintro e wn ⟨vn, rfl, kn, hbk⟩
    obtain ⟨an, nn, cn, rfl⟩ := kn.ints.slice3
    replace kn := kn.mono hB.size
    replace kn := kn.ints
    replace g1 := g1.below hbk (Nat.le_refl _)
    replace g2 := g2.below hbk (Nat.le_refl _)
    replace kp := kp.below hbk (Nat.le_refl _)
    replace kq := kq.below hbk (Nat.le_refl _)
    replace hB := gr_tr hB hbk
    clear hbk
    go_wp2_with fail
    refine (rnext_any xs _ _ g1 H64.out).mono ?_
    rintro e wm ⟨vm, rfl, km, hbk⟩
    obtain ⟨am, nm, cm, rfl⟩ := km.ints.slice3
    replace km := km.mono hB.size
    replace km := km.ints
    replace g1 := g1.below hbk (Nat.le_refl _)
    replace g2 := g2.below hbk (Nat.le_refl _)
    replace kp := kp.below hbk (Nat.le_refl _)
    replace kq := kq.below hbk (Nat.le_refl _)
    replace kn := kn.below hbk (Nat.le_refl _)
    replace hB := gr_tr hB hbk
    clear hbk
    go_wp2_with fail
    refine (back_any xs _ _ g1 H64.out).mono ?_
    rintro e wz ⟨vz, rfl, kz, hbk⟩
    obtain ⟨az, nz, cz, rfl⟩ := kz.ints.slice3
    replace kz := kz.mono hB.size
    replace kz := kz.ints
    replace g1 := g1.below hbk (Nat.le_refl _)
    replace g2 := g2.below hbk (Nat.le_refl _)
    replace kp := kp.below hbk (Nat.le_refl _)
    replace kq := kq.below hbk (Nat.le_refl _)
    replace kn := kn.below hbk (Nat.le_refl _)
    replace km := km.below hbk (Nat.le_refl _)
    replace hB := gr_tr hB hbk
    clear hbk
    go_wp2_with fail
    refine (rback_any xs _ _ g1 H64.out).mono ?_
    rintro e wu ⟨vu, rfl, ku, hbk⟩
    obtain ⟨au, nu, cu, rfl⟩ := ku.ints.slice3
    replace ku := ku.mono hB.size
    replace ku := ku.ints
    replace g1 := g1.below hbk (Nat.le_refl _)
    replace g2 := g2.below hbk (Nat.le_refl _)
    replace kp := kp.below hbk (Nat.le_refl _)
    replace kq := kq.below hbk (Nat.le_refl _)
    replace kn := kn.below hbk (Nat.le_refl _)
    replace km := km.below hbk (Nat.le_refl _)
    replace kz := kz.below hbk (Nat.le_refl _)
    replace hB := gr_tr hB hbk
    clear hbk
    go_wp2_with fail
    refine (common_any xs ys _ _ _ g1 g2).mono ?_
    rintro e wc ⟨vc, rfl, kc, hbk⟩
    obtain ⟨ac, nc, cc, rfl⟩ := kc.ints.slice3
    replace kc := kc.mono hB.size
    replace g1 := g1.below hbk (Nat.le_refl _)
    replace g2 := g2.below hbk (Nat.le_refl _)
    replace kp := kp.below hbk (Nat.le_refl _)
    replace kq := kq.below hbk (Nat.le_refl _)
    replace kn := kn.below hbk (Nat.le_refl _)
    replace km := km.below hbk (Nat.le_refl _)
    replace kz := kz.below hbk (Nat.le_refl _)
    replace ku := ku.below hbk (Nat.le_refl _)
    replace hB := gr_tr hB hbk
    clear hbk
    go_wp2_with fail
    refine (levels_any xs _ _ g1 (by omega)).mono ?_
    rintro e wl ⟨vl, rfl, kl, hbk⟩
    replace kl := kl.mono hB.size
    replace g1 := g1.below hbk (Nat.le_refl _)
    replace g2 := g2.below hbk (Nat.le_refl _)
    replace kp := kp.below hbk (Nat.le_refl _)
    replace kq := kq.below hbk (Nat.le_refl _)
    replace kn := kn.below hbk (Nat.le_refl _)
    replace km := km.below hbk (Nat.le_refl _)
    replace kz := kz.below hbk (Nat.le_refl _)
    replace ku := ku.below hbk (Nat.le_refl _)
    replace kc := kc.below hbk (Nat.le_refl _)
    replace hB := gr_tr hB hbk
    clear hbk
    have hll : (levelsL xs).length = xs.length + 1 := by simp [levelsL]
    obtain ⟨al, nl, cl, el⟩ : ∃ a n c, vl = .slice a n c := by obtain ⟨a, c, _, h, _⟩ := kl.ints (by rw [hll]; omega); exact ⟨a, _, c, h⟩
    subst el
    have HLL := Lib.hid hll
    clear hll
    go_wp2_with fail
    refine (rsame_any _ _ _ _ _ kp.ints kq).mono ?_
    rintro e wr1 ⟨rfl, hs⟩
    have qs : ∀ zs : List Int, decide (zs = zs) = true := fun zs => by simp
    rw [qs]
    clear qs
    have hbk := sm_below hs
    clear hs
    replace g1 := g1.below hbk (Nat.le_refl _)
    replace g2 := g2.below hbk (Nat.le_refl _)
    replace kp := kp.below hbk (Nat.le_refl _)
    replace kq := kq.below hbk (Nat.le_refl _)
    replace kn := kn.below hbk (Nat.le_refl _)
    replace km := km.below hbk (Nat.le_refl _)
    replace kz := kz.below hbk (Nat.le_refl _)
    replace ku := ku.below hbk (Nat.le_refl _)
    replace kc := kc.below hbk (Nat.le_refl _)
    replace kl := kl.below hbk (Nat.le_refl _)
    replace hB := gr_tr hB hbk
    clear hbk
    go_wp2_with fail
    refine (rsame_any _ _ _ _ _ kn km).mono ?_
    rintro e wr2 ⟨rfl, hs⟩
    have qs : ∀ zs : List Int, decide (zs = zs) = true := fun zs => by simp
    rw [qs]
    clear qs
    have hbk := sm_below hs
    clear hs
    replace g1 := g1.below hbk (Nat.le_refl _)
    replace g2 := g2.below hbk (Nat.le_refl _)
    replace kp := kp.below hbk (Nat.le_refl _)
    replace kq := kq.below hbk (Nat.le_refl _)
    replace kn := kn.below hbk (Nat.le_refl _)
    replace km := km.below hbk (Nat.le_refl _)
    replace kz := kz.below hbk (Nat.le_refl _)
    replace ku := ku.below hbk (Nat.le_refl _)
    replace kc := kc.below hbk (Nat.le_refl _)
    replace kl := kl.below hbk (Nat.le_refl _)
    replace hB := gr_tr hB hbk
    clear hbk
    go_wp2_with fail
    refine (rsame_any _ _ _ _ _ kz ku).mono ?_
    rintro e wr3 ⟨rfl, hs⟩
    have qs : ∀ zs : List Int, decide (zs = zs) = true := fun zs => by simp
    rw [qs]
    clear qs
    have hbk := sm_below hs
    clear hs
    replace g1 := g1.below hbk (Nat.le_refl _)
    replace g2 := g2.below hbk (Nat.le_refl _)
    replace kp := kp.below hbk (Nat.le_refl _)
    replace kq := kq.below hbk (Nat.le_refl _)
    replace kn := kn.below hbk (Nat.le_refl _)
    replace km := km.below hbk (Nat.le_refl _)
    replace kz := kz.below hbk (Nat.le_refl _)
    replace ku := ku.below hbk (Nat.le_refl _)
    replace kc := kc.below hbk (Nat.le_refl _)
    replace kl := kl.below hbk (Nat.le_refl _)
    replace hB := gr_tr hB hbk
    clear hbk
    go_wp2_with fail
    refine (rcommon_any xs ys _ _ _ g1 g2).mono ?_
    rintro e wd ⟨vd, rfl, kd, hbk⟩
    obtain ⟨ad, nd, cd, rfl⟩ := kd.ints.slice3
    replace kd := kd.ints
    replace g1 := g1.below hbk (Nat.le_refl _)
    replace g2 := g2.below hbk (Nat.le_refl _)
    replace kp := kp.below hbk (Nat.le_refl _)
    replace kq := kq.below hbk (Nat.le_refl _)
    replace kn := kn.below hbk (Nat.le_refl _)
    replace km := km.below hbk (Nat.le_refl _)
    replace kz := kz.below hbk (Nat.le_refl _)
    replace ku := ku.below hbk (Nat.le_refl _)
    replace kc := kc.below hbk (Nat.le_refl _)
    replace kl := kl.below hbk (Nat.le_refl _)
    replace hB := gr_tr hB hbk
    clear hbk
    go_wp2_with fail
    refine (rsame_any _ _ _ _ _ kc.ints kd).mono ?_
    rintro e wr4 ⟨rfl, hs⟩
    have qs : ∀ zs : List Int, decide (zs = zs) = true := fun zs => by simp
    rw [qs]
    clear qs
    have hbk := sm_below hs
    clear hs
    replace g1 := g1.below hbk (Nat.le_refl _)
    replace g2 := g2.below hbk (Nat.le_refl _)
    replace kp := kp.below hbk (Nat.le_refl _)
    replace kq := kq.below hbk (Nat.le_refl _)
    replace kn := kn.below hbk (Nat.le_refl _)
    replace km := km.below hbk (Nat.le_refl _)
    replace kz := kz.below hbk (Nat.le_refl _)
    replace ku := ku.below hbk (Nat.le_refl _)
    replace kc := kc.below hbk (Nat.le_refl _)
    replace kl := kl.below hbk (Nat.le_refl _)
    replace kd := kd.below hbk (Nat.le_refl _)
    replace hB := gr_tr hB hbk
    clear hbk
    go_wp2_with fail
    refine (rlevels_any xs _ _ g1 (by omega)).mono ?_
    rintro e wm ⟨vm, rfl, km2, hbk⟩
    have km3 := km2.ints (by rw [HLL.out]; omega)
    replace g1 := g1.below hbk (Nat.le_refl _)
    replace g2 := g2.below hbk (Nat.le_refl _)
    replace kp := kp.below hbk (Nat.le_refl _)
    replace kq := kq.below hbk (Nat.le_refl _)
    replace kn := kn.below hbk (Nat.le_refl _)
    replace km := km.below hbk (Nat.le_refl _)
    replace kz := kz.below hbk (Nat.le_refl _)
    replace ku := ku.below hbk (Nat.le_refl _)
    replace kc := kc.below hbk (Nat.le_refl _)
    replace kl := kl.below hbk (Nat.le_refl _)
    replace kd := kd.below hbk (Nat.le_refl _)
    replace hB := gr_tr hB hbk
    clear hbk km2
    obtain ⟨am, nm, cm, em⟩ : ∃ a n c, vm = .slice a n c := by obtain ⟨a, c, _, h, _⟩ := km3; exact ⟨a, _, c, h⟩
    subst em
    go_wp2_with fail
    refine (rsameall_any _ _ _ _ _ (kl.ints (by rw [HLL.out]; omega)) km3).mono ?_
    rintro e wz ⟨rfl, hs⟩
    have qs : ∀ zs : List (List Int), decide (zs = zs) = true := fun zs => by simp
    rw [qs]
    clear qs
    have hbk := sm_below hs
    clear hs
    replace g1 := g1.below hbk (Nat.le_refl _)
    replace g2 := g2.below hbk (Nat.le_refl _)
    replace kp := kp.below hbk (Nat.le_refl _)
    replace kq := kq.below hbk (Nat.le_refl _)
    replace kn := kn.below hbk (Nat.le_refl _)
    replace km := km.below hbk (Nat.le_refl _)
    replace kz := kz.below hbk (Nat.le_refl _)
    replace ku := ku.below hbk (Nat.le_refl _)
    replace kc := kc.below hbk (Nat.le_refl _)
    replace kl := kl.below hbk (Nat.le_refl _)
    replace kd := kd.below hbk (Nat.le_refl _)
    replace hB := gr_tr hB hbk
    clear hbk km3 kq kn km kz ku kd g1 g2
    obtain ⟨us, r1, r2⟩ := kl
    have hul : us.length = (levelsL xs).length := by simpa using r1.1
    have hP : Pool wB wz (Value.slice ac nc cc :: Value.slice ap np cp :: us) (.slice al nl cl) us := by
      refine ⟨hB, fun u hu => ?_, by rw [hul]; exact r1⟩
      rcases List.mem_cons.1 hu with rfl | hu
      · exact ⟨_, kc⟩
      · rcases List.mem_cons.1 hu with rfl | hu
        · exact ⟨_, kp⟩
        · obtain ⟨j, hj, rfl⟩ := List.getElem_of_mem hu
          have := r2 j (by omega)
          exact ⟨_, by simpa [hj] using this⟩
    have hncb : nc * 8 ≤ 140737488351232 := by
      have h := kc.2
      obtain ⟨a, c, he⟩ := kc.ints.slice
      simp only [Value.slice.injEq] at he
      omega
    have hul2 : us.length = xs.length + 1 := by rw [hul, HLL.out]
    have HU := Lib.hid hul2
    clear r1 r2 hul kc kp hB hul2
    obtain ⟨L, hL⟩ : ∃ L, L = Value.slice ac nc cc :: Value.slice ap np cp :: us := ⟨_, rfl⟩
    rw [← hL] at hP
    have hcL : Value.slice ac nc cc ∈ L := by rw [hL]; simp
    have hpL : ∀ u ∈ us ++ [Value.slice ap np cp], u ∈ L := by
      intro u hu
      rw [hL]
      simp only [List.mem_append, List.mem_singleton] at hu
      rcases hu with h | h
      · exact List.mem_cons_of_mem _ (List.mem_cons_of_mem _ h)
      · rw [h]; simp
    clear hL
    obtain ⟨i0, hi, hz0, hz1, hz2⟩ := info_parts info_ints
    have HI := Lib.hid hi; have HZ0 := Lib.hid hz0; have HZ1 := Lib.hid hz1; have HZ2 := Lib.hid hz2
    have HCL := Lib.hid hcL
    have HPL := Lib.hid hpL
    clear hi hz0 hz1 hz2 hcL hpL
    go_wp2_with fail
    go_loopw [112] (fun i wr => ∃ k : Nat, k ≤ nc ∧ i = .int .i64 k ∧ Pool wB wr L (.slice al nl cl) us) (fun i _ => nc - (intOf i).toNat)
    case atStart => exact ⟨0, Nat.zero_le _, rfl, hP⟩
    case round =>
      clear hP
      obtain ⟨k, hk, rfl, hP⟩ := hrel
      by_cases hlt : k < nc
      · obtain ⟨g, x, rfl, hcap, hg, hcell, hfr, hset⟩ := hP.at_ HCL.out hlt
        have HST := Lib.hid hset
        clear hset
        go_wp2
        go_roundw
        case rel => exact ⟨k + 1, by omega, by go_num, HST.out _⟩
        case measure => simp [intOf]; omega
      · have hkn : k = nc := by omega
        have hge : nc ≤ k := by omega
        clear hlt hkn
        have HP := Lib.hid hP
        have H5 : Hid (us.length + 1 ≤ maxLen) := by show _ ≤ _; rw [HU.out]; unfold maxLen; omega
        have H6 : Hid ((us.length + 1) * 24 ≤ 140737488355328) := by show _ ≤ _; rw [HU.out]; omega
        have H7 : Hid (wB.heap.size ≤ (wr.alloc (.cells #[.slice ap np cp] 22)).heap.size) := by show _ ≤ _; have := hP.below.size; simp; omega
        clear hP
        go_wp2_with (at_builtin; refine wpList_append_any _ rfl _ _ 25 rfl wB.heap.size 22 i0 (.slice none 0 0) 1 24 Try.underlying25 HI.out HZ0.out HZ1.out HZ2.out rfl (by decide) _ us.length us rfl (HP.out.row.alloc _) (some ⟨wr.heap.size, 0, none⟩) 1 1 [.slice ap np cp] rfl rfl (fun h => nomatch h) (one_news _ _ _ _ rfl) (one_sl ap np cp) H5.out H6.out H7.out ?_)
        intro v' w3 hown hgrow
        have hP3 := HP.out.push hgrow hown
        obtain ⟨a', c', rfl, hcap'⟩ := row_slice hown
        clear hown hgrow HP H5 H6 H7
        obtain ⟨m, hm⟩ : ∃ m, m = us.length + 1 := ⟨_, rfl⟩
        have hm2 : m ≤ 102 := by rw [hm, HU.out]; omega
        rw [← hm] at hcap'
        have HM : Hid ((us ++ [Value.slice ap np cp]).length = m) := by show _ = _; rw [hm]; simp
        obtain ⟨us', hus'⟩ : ∃ us', us' = us ++ [Value.slice ap np cp] := ⟨_, rfl⟩
        rw [← hus'] at hP3 HM HPL
        rw [← hm] at hP3 ⊢
        clear hus' hm
        go_wp2_with fail
        go_loopw [127] (fun i wr => ∃ k : Nat, k ≤ m ∧ i = .int .i64 k ∧ Pool wB wr L (.slice a' m c') us') (fun i _ => m - (intOf i).toNat)
        case atStart => exact ⟨0, Nat.zero_le _, rfl, hP3⟩
        case round =>
          clear hP3
          obtain ⟨k2, hk2, rfl, hP2⟩ := hrel
          by_cases hlt2 : k2 < m
          · have hr := hP2.row
            rw [HM.out] at hr
            obtain ⟨g, cap, hv, hcap2, hB2, hg2, hcell, _, _⟩ := row_at hr k2 hlt2
            simp only [Value.slice.injEq] at hv
            obtain ⟨rfl, hx, rfl⟩ := hv
            clear hx hr
            have hkl : k2 < us'.length := by rw [HM.out]; exact hlt2
            have hmem : us'[k2] ∈ us' := List.getElem_mem _
            obtain ⟨zs, hoz⟩ := hP2.each _ (HPL.out _ hmem)
            obtain ⟨ax, nx, cx, hux⟩ := hoz.ints.slice3
            have hxb : nx * 8 ≤ 140737488351232 := by
              have h := hoz.2
              obtain ⟨a, c, he⟩ := hoz.ints.slice
              rw [hux] at he
              simp only [Value.slice.injEq] at he
              omega
            have HXL : Hid (Value.slice ax nx cx ∈ L) := by show _ ∈ L; rw [← hux]; exact HPL.out _ hmem
            have hc2 : wr.cell? ⟨g, k2, none⟩ = some (Value.slice ax nx cx) := by rw [hcell, List.getElem?_eq_getElem hkl, hux]
            clear hcell hmem hoz hux hkl
            obtain ⟨wo, rfl⟩ : ∃ wo : World, wo = wr := ⟨_, rfl⟩
            go_wp2_with fail
            go_loopw [133] (fun i wq => ∃ j : Nat, j ≤ nx ∧ i = .int .i64 j ∧ Pool wB wq L (.slice (some ⟨g, 0, none⟩) m c') us') (fun i _ => nx - (intOf i).toNat)
            case atStart => exact ⟨0, Nat.zero_le _, rfl, hP2⟩
            case round =>
              clear hP2 hc2
              obtain ⟨j, hj, rfl, hPj⟩ := hrel
              by_cases hltj : j < nx
              · obtain ⟨gx, x, rfl, hcapx, hgx, hcellx, hfrx, hsetx⟩ := hPj.at_ HXL.out hltj
                have HSTX := Lib.hid hsetx
                clear hsetx hPj
                go_wp2
                go_roundw
                case rel => exact ⟨j + 1, by omega, by go_num, HSTX.out _⟩
                case measure => simp [intOf]; omega
              · have hgej : nx ≤ j := by omega
                clear hltj
                go_wp2
                go_roundw
                case rel => exact ⟨k2 + 1, by omega, by go_num, hPj⟩
                case measure => simp [intOf]; omega
          · have hgek : m ≤ k2 := by omega
            clear hlt2
            have hfin := hP2.below
            have f1 := g1B.out.below hfin (Nat.le_refl _)
            have f2 := gwB.out.below hfin (Nat.le_refl _)
            go_wp2_with fail
            refine (rsame_any _ _ _ _ _ f1 f2).mono ?_
            rintro e wf ⟨rfl, hs⟩
            have qs : decide (xs = xs) = true := by simp
            go_wp2
            go_ret
            exact ⟨rfl, gr_sm (gr_tr hbw0 hfin) hs⟩

theorem law_moves' (xs ys : List Int) (v1 v2 : Value) (w : World) (h1 : Ints w v1 xs ∧ I64 xs) (h2 : Ints w v2 ys ∧ I64 ys) :
    Calls Try.prog 4 #[v1, v2] w (True_ w) := law_moves xs ys v1 v2 w h1.1 h2.1 h1.2
end Go.Proofs.Ytkalomdbbgeemaa
