/- Walks of package redlineref02: Common, Levels, SameAll. -/
import Derived.Test.YtkalomdbbgeemaaRef02a
import Derived.Test.YtkalomdbbgeemaaRef02c
import Derived.Test.YtkalomdbbgeemaaLaw02
namespace Go.Proofs.Ytkalomdbbgeemaa
open Go.RowKit

theorem one_int (x : Int) : ∀ u ∈ [Value.int .i64 x], u.oneCell' = true := by
  intro u hu
  simp at hu
  subst hu
  rfl
theorem one_sl (a : Option Addr) (n c : Nat) : ∀ u ∈ [Value.slice a n c], u.oneCell' = true := by
  intro u hu
  simp at hu
  subst hu
  rfl

theorem Own.same {w w' : World} {B : Nat} {v : Value} {xs : List Int} (h : Own w B v xs) (hs : Same w w') : Own w' B v xs := ⟨row_same h.1 hs, h.2⟩

theorem take_snoc {xs : List Int} {k : Nat} (h : k < xs.length) : xs.take (k + 1) = xs.take k ++ [xs[k]] := by
  rw [List.take_succ_eq_append_getElem h]

set_option maxHeartbeats 1000000 in
theorem rcommon_any (xs ys : List Int) (v1 v2 : Value) (w : World) (h1 : Ints w v1 xs) (h2 : Ints w v2 ys) :
    Calls Try.prog 28 #[v1, v2] w fun e w' => ∃ v', e = .returned v' ∧ Own w' w.heap.size v' (xs.take (cpre xs ys)) ∧ Below w.heap.size w w' := by
  have b1 := h1.len
  obtain ⟨a1, c1, rfl, l1, _, o1⟩ := h1.open_
  obtain ⟨a2, c2, rfl, l2, b2, o2⟩ := h2.open_
  clear h1 h2
  obtain ⟨i0, hi, hz0, hz1, hz2⟩ := info_parts info_int
  have HI := Lib.hid hi; have HZ0 := Lib.hid hz0; have HZ1 := Lib.hid hz1; have HZ2 := Lib.hid hz2
  clear hi hz0 hz1 hz2
  go_enter Try.func28, Try.ntmps28
  go_wp2
  go_loopw [9, 5] (fun i v wr => ∃ k : Nat, k ≤ xs.length ∧ k ≤ ys.length ∧ i = .int .i64 k ∧ agree xs ys k ∧ Own wr w.heap.size v (xs.take k) ∧ Below w.heap.size w wr) (fun i _ _ => xs.length - (intOf i).toNat)
  case atStart => exact ⟨0, Nat.zero_le _, Nat.zero_le _, rfl, agree_zero _ _, Own.nil _ _, Below.refl _ _⟩
  case round =>
    obtain ⟨k, hk, hk2, rfl, hag, ho, hb⟩ := hrel
    have HAG := Lib.hid hag
    have HO := Lib.hid ho
    clear hag
    obtain ⟨av, nv, cv, rfl⟩ := ho.ints.slice3
    clear ho
    have hsz := hb.size
    by_cases hlt : k < xs.length
    · obtain ⟨p1, f1, rfl, e1⟩ := o1 (by omega)
      have q1 := e1 k hlt
      have d1 : wr.cell? ⟨p1, f1 + k, none⟩ = _ := (hb.cell (p := ⟨p1, f1 + k, none⟩) (World.block_lt_of_cell? w _ q1)).trans q1
      clear q1
      by_cases hlt2 : k < ys.length
      · obtain ⟨p2, f2, rfl, e2⟩ := o2 (by omega)
        have q2 := e2 k hlt2
        have d2 : wr.cell? ⟨p2, f2 + k, none⟩ = _ := (hb.cell (p := ⟨p2, f2 + k, none⟩) (World.block_lt_of_cell? w _ q2)).trans q2
        clear q2
        have qk : ((k : Int) == (ys.length : Int)) = false := by rw [beq_eq_false_iff_ne]; omega
        have HX : Hid (xs.getD k 0 = xs[k]) := by show _ = _; simp [hlt]
        have HY : Hid (ys.getD k 0 = ys[k]) := by show _ = _; simp [hlt2]
        clear e1 e2 o1 o2
        rw [HX.out] at d1
        rw [HY.out] at d2
        by_cases qe : xs[k] = ys[k]
        · have qb : (xs[k] != ys[k]) = false := by simp [qe]
          have HQ := Lib.hid qe
          clear qe
          have HE := Lib.hid (agree_succ HAG.out hlt hlt2 HQ.out)
          have hlen : (xs.take k).length = k := by simp; omega
          have H5 : Hid ((xs.take k).length + 1 ≤ maxLen) := by show _ ≤ _; unfold maxLen; omega
          have H6 : Hid (((xs.take k).length + 1) * 8 ≤ 140737488355328) := by show _ ≤ _; omega
          have H7 : Hid (w.heap.size ≤ (wr.alloc (.cells #[.int .i64 xs[k]] 3)).heap.size) := by show _ ≤ _; simp; omega
          clear hlen
          generalize hx : xs[k] = x at *
          generalize hy : ys[k] = y at *
          have HXX := Lib.hid hx
          clear hx hy
          go_wp2
          go_quiet (fail)
          go_wp2_with (at_builtin; refine wpList_append_any _ rfl _ _ 22 rfl w.heap.size 3 i0 (.int .i64 0) 1 8 Try.underlying22 HI.out HZ0.out HZ1.out HZ2.out rfl (by decide) _ (xs.take k).length ((xs.take k).map (Value.int .i64)) rfl ((row_same HO.out.1 ⟨_, rfl⟩).alloc _) (some ⟨wr.heap.size, 0, none⟩) 1 1 [.int .i64 x] rfl rfl (fun h => nomatch h) (one_news _ _ _ _ rfl) (one_int x) H5.out H6.out H7.out ?_)
          intro v' w1 hown hgrow
          have hb2 : Below w.heap.size w w1 := ((gr_al (gr_dn hb nq) _).grown hgrow (by simp; omega) (by intro g hg; exact ((row_same HO.out.1 ⟨nq, rfl⟩).lt g hg).1))
          have ho2 : Own w1 w.heap.size v' (xs.take (k + 1)) := by
            refine ⟨?_, by simp; omega⟩
            have hl : (xs.take (k + 1)).length = k + 1 := by simp; omega
            rw [hl, take_snoc hlt, HXX.out, List.map_append]
            simpa using hown
          clear hown hgrow
          go_wp2
          go_roundw
          case rel => exact ⟨k + 1, by omega, by omega, by go_num, HE.out, ho2, hb2⟩
          case measure => simp [intOf]; omega
        · have qb : (xs[k] != ys[k]) = true := by simpa using qe
          have HF := Lib.hid (cpre_of_diff HAG.out hlt hlt2 qe)
          clear qe
          go_wp2
          go_quiet (fail)
          go_wp2
          go_ret
          exact ⟨_, rfl, by rw [HF.out]; exact HO.out.same ⟨_, rfl⟩, gr_dn hb _⟩
      · have hky : k = ys.length := by omega
        have HF : Hid (cpre xs ys = k) := by
          show _ = _
          have hm : min xs.length ys.length = k := by omega
          rw [cpre_of_end (by rw [hm]; exact HAG.out), hm]
        have qk : ((k : Int) == (ys.length : Int)) = true := by rw [beq_iff_eq]; omega
        clear e1 o1 o2 hky
        go_wp2
        go_quiet (fail)
        go_wp2
        go_ret
        exact ⟨_, rfl, by rw [HF.out]; exact HO.out.same ⟨_, rfl⟩, gr_dn hb _⟩
    · have hkn : k = xs.length := by omega
      have HF : Hid (cpre xs ys = k) := by
        show _ = _
        have hm : min xs.length ys.length = k := by omega
        rw [cpre_of_end (by rw [hm]; exact HAG.out), hm]
      clear hkn o1 o2
      have hge : xs.length ≤ k := by omega
      go_wp2
      go_ret
      exact ⟨_, rfl, by rw [HF.out]; exact HO.out, hb⟩
/-- The first k levels. -/
def levK (xs : List Int) (k : Nat) : List (List Int) := (List.range k).map fun i => xs.take i
theorem levK_len (xs : List Int) (k : Nat) : (levK xs k).length = k := by simp [levK]
theorem levK_succ (xs : List Int) (k : Nat) : levK xs (k + 1) = levK xs k ++ [xs.take k] := by simp [levK, List.range_succ]

theorem Own.kept {w w' : World} {B : Nat} {v u : Value} {n : Nat} {xs : List Int} {us : List Value} {C : Nat} (h : Own w B v xs) (hr : w.ownsRow C 22 1 u n us) (hg : w.grownBy w' u.ownBlock) : Own w' B v xs :=
  ⟨h.1.kept hg (row_apart h.1 hr (by decide)), h.2⟩

/-- One more behind a list of the call's own. -/
theorem OwnL.push {wr w2 w3 : World} {B C : Nat} {v v' vk : Value} {xss : List (List Int)} {vs : List Value} {x : List Int} {o : Obj} (h1 : wr.ownsRow B 22 1 v xss.length vs)
    (h2 : ∀ j, j < xss.length → Own wr B (vs.getD j (.slice none 0 0)) (xss.getD j [])) (hb : Below wr.heap.size wr w2) (hk : Own w2 C vk x) (hC : B ≤ C)
    (hown : w3.ownsRow B 22 1 v' (xss.length + 1) (vs ++ [vk])) (hg : (w2.alloc o).grownBy w3 v.ownBlock) : OwnL w3 B v' (xss ++ [x]) := by
  have hvl : vs.length = xss.length := by simpa using h1.1
  have r1 := (row_below h1 hb (Nat.le_refl _)).alloc o
  refine ⟨vs ++ [vk], by simpa using hown, fun j hj => ?_⟩
  rcases Nat.lt_or_ge j xss.length with hl | hl
  · rw [show (vs ++ [vk]).getD j (.slice none 0 0) = vs.getD j (.slice none 0 0) from by simp [List.getD, List.getElem?_append_left (show j < vs.length by omega)],
      show (xss ++ [x]).getD j [] = xss.getD j [] from by simp [List.getD, List.getElem?_append_left hl]]
    have := ((h2 j hl).below hb (Nat.le_refl _))
    exact Own.kept ⟨this.1.alloc o, this.2⟩ r1 hg
  · have hj' : j = xss.length := by simp at hj; omega
    subst hj'
    rw [show (vs ++ [vk]).getD xss.length (.slice none 0 0) = vk from by rw [← hvl]; simp [List.getD],
      show (xss ++ [x]).getD xss.length [] = x from by simp [List.getD]]
    have := hk.mono hC
    exact Own.kept ⟨this.1.alloc o, this.2⟩ r1 hg

set_option maxHeartbeats 1000000 in
theorem rlevels_any (xs : List Int) (v : Value) (w : World) (h : Ints w v xs) (hsm : xs.length * 24 ≤ 140737488350000) :
    Calls Try.prog 30 #[v] w fun e w' => ∃ v', e = .returned v' ∧ OwnL w' w.heap.size v' (levelsL xs) ∧ Below w.heap.size w w' := by
  obtain ⟨a1, c1, rfl, l1, _, b1, _⟩ := id h
  obtain ⟨i0, hi, hz0, hz1, hz2⟩ := info_parts info_ints
  have HI := Lib.hid hi; have HZ0 := Lib.hid hz0; have HZ1 := Lib.hid hz1; have HZ2 := Lib.hid hz2
  clear hi hz0 hz1 hz2
  go_enter Try.func30, Try.ntmps30
  go_wp2
  go_loopw [8, 3] (fun i v wr => ∃ k : Nat, k ≤ xs.length + 1 ∧ i = .int .i64 k ∧ OwnL wr w.heap.size v (levK xs k) ∧ Below w.heap.size w wr) (fun i _ _ => xs.length + 1 - (intOf i).toNat)
  case atStart => exact ⟨0, Nat.zero_le _, rfl, ⟨[], World.ownsRow_nil _ _ _ _, fun j hj => by simp [levK] at hj⟩, Below.refl _ _⟩
  case round =>
    obtain ⟨k, hk, rfl, ho, hb⟩ := hrel
    by_cases hlt : k < xs.length + 1
    · have hi := (h.below hb (Nat.le_refl _)).take (k := k) (by omega)
      go_wp2_with fail
      refine (rcopy_any (xs.take k) _ _ hi).mono ?_
      rintro e w2 ⟨vk, rfl, hok, hbk⟩
      clear hi
      obtain ⟨vs, r1, r2⟩ := ho
      have R1 := Lib.hid r1
      have R2 := Lib.hid r2
      have HOK := Lib.hid hok
      have r3 := row_below r1 hbk (Nat.le_refl _)
      have R3 := Lib.hid r3
      have hsz := hb.size
      have hszk := hbk.size
      obtain ⟨ak, nk, ck, rfl⟩ := hok.ints.slice3
      have H5 : Hid ((levK xs k).length + 1 ≤ maxLen) := by show _ ≤ _; rw [levK_len]; unfold maxLen; omega
      have H6 : Hid (((levK xs k).length + 1) * 24 ≤ 140737488355328) := by show _ ≤ _; rw [levK_len]; omega
      have H7 : Hid (w.heap.size ≤ (w2.alloc (.cells #[.slice ak nk ck] 22)).heap.size) := by show _ ≤ _; simp; omega
      clear r1 r2 hok r3
      go_wp2_with (at_builtin; refine wpList_append_any _ rfl _ _ 25 rfl w.heap.size 22 i0 (.slice none 0 0) 1 24 Try.underlying25 HI.out HZ0.out HZ1.out HZ2.out rfl (by decide) _ (levK xs k).length vs rfl (R3.out.alloc _) (some ⟨w2.heap.size, 0, none⟩) 1 1 [.slice ak nk ck] rfl rfl (fun h => nomatch h) (one_news _ _ _ _ rfl) (one_sl ak nk ck) H5.out H6.out H7.out ?_)
      intro v' w3 hown hgrow
      have hb3 : Below w.heap.size w w3 := (gr_al (gr_tr hb hbk) _).grown hgrow (by simp; omega) (by intro g hg; exact (R3.out.lt g hg).1)
      have ho3 := OwnL.push R1.out R2.out hbk HOK.out hsz hown hgrow
      rw [← levK_succ] at ho3
      clear hown hgrow
      go_wp2
      go_roundw
      case rel => exact ⟨k + 1, by omega, by go_num, ho3, hb3⟩
      case measure => simp [intOf]; omega
    · have hkn : k = xs.length + 1 := by omega
      subst hkn
      clear hlt hk
      go_wp2
      go_ret
      exact ⟨_, rfl, ho, hb⟩

theorem agreeL_succ {xss yss : List (List Int)} {k : Nat} (h : ∀ j, j < k → xss.getD j [] = yss.getD j []) (he : xss.getD k [] = yss.getD k []) : ∀ j, j < k + 1 → xss.getD j [] = yss.getD j [] := by
  intro j hj
  by_cases hjk : j = k
  · subst hjk; exact he
  · exact h j (by omega)
theorem agreeL_eq {xss yss : List (List Int)} (hl : xss.length = yss.length) (h : ∀ j, j < xss.length → xss.getD j [] = yss.getD j []) : xss = yss := by
  apply List.ext_getElem hl
  intro i h1 h2
  have := h i h1
  simpa [h1, h2] using this

set_option maxHeartbeats 1000000 in
theorem rsameall_any (xss yss : List (List Int)) (v1 v2 : Value) (w : World) (h1 : IntsL w v1 xss) (h2 : IntsL w v2 yss) :
    Calls Try.prog 29 #[v1, v2] w fun e w' => e = .returned (.bool (decide (xss = yss))) ∧ Same w w' := by
  obtain ⟨a1, c1, e1⟩ : ∃ a c, v1 = .slice a xss.length c := by obtain ⟨a, c, _, h, _⟩ := h1; exact ⟨a, c, h⟩
  obtain ⟨a2, c2, e2⟩ : ∃ a c, v2 = .slice a yss.length c := by obtain ⟨a, c, _, h, _⟩ := h2; exact ⟨a, c, h⟩
  subst e1 e2
  have b1 : xss.length * 24 ≤ 140737488351232 := by obtain ⟨_, _, _, _, _, _, _, h, _⟩ := h1; exact h
  have b2 : yss.length * 24 ≤ 140737488351232 := by obtain ⟨_, _, _, _, _, _, _, h, _⟩ := h2; exact h
  by_cases hl : xss.length = yss.length
  · have hne : (((xss.length : Nat) : Int) != ((yss.length : Nat) : Int)) = false := by simp [hl]
    have HL := Lib.hid hl
    clear hl
    go_enter Try.func29, Try.ntmps29
    go_wp2
    go_loopw [13] (fun i wr => ∃ k : Nat, k ≤ xss.length ∧ i = .int .i64 k ∧ Hid (∀ j, j < k → xss.getD j [] = yss.getD j []) ∧ Same w wr) (fun i _ => xss.length - (intOf i).toNat)
    case atStart => exact ⟨0, Nat.zero_le _, rfl, (by intro j hj; omega), Same.refl _⟩
    case round =>
      obtain ⟨k, hk, rfl, HAG, hs⟩ := hrel
      by_cases hlt : k < xss.length
      · have hlt2 : k < yss.length := by have := HL.out; omega
        obtain ⟨p1, f1, c1', u1, hv1, l1, _, d1, g1⟩ := h1.at_ k hlt
        obtain ⟨p2, f2, c2', u2, hv2, l2, _, d2, g2⟩ := h2.at_ k hlt2
        simp only [Value.slice.injEq] at hv1 hv2
        obtain ⟨rfl, x1, rfl⟩ := hv1
        obtain ⟨rfl, x2, rfl⟩ := hv2
        clear x1 x2
        obtain ⟨av1, nv1, cv1, rfl⟩ := g1.slice3
        obtain ⟨av2, nv2, cv2, rfl⟩ := g2.slice3
        have q1 := (hs.cell _).trans d1
        have q2 := (hs.cell _).trans d2
        clear d1 d2
        cases hsb : decide (xss.getD k [] = yss.getD k [])
        · have hc := fun n => rsame_any _ _ _ _ (wr.drewN n) ((g1.same hs).same ⟨n, rfl⟩) ((g2.same hs).same ⟨n, rfl⟩)
          rw [hsb] at hc
          have HC := Lib.hid hc
          have HN : Hid (¬ xss.getD k [] = yss.getD k []) := of_decide_eq_false hsb
          clear hc g1 g2 hsb h1 h2
          go_wp2
          go_quiet ((go_at_call 27; exact Calls.quiet_of (HC.out _)))
          go_wp2
          go_ret
          refine ⟨ret_bool ?_, hs.drewN _⟩
          rw [eq_comm, decide_eq_false_iff_not]
          rintro rfl
          exact HN.out rfl
        · have hc := fun n => rsame_any _ _ _ _ (wr.drewN n) ((g1.same hs).same ⟨n, rfl⟩) ((g2.same hs).same ⟨n, rfl⟩)
          rw [hsb] at hc
          have HC := Lib.hid hc
          have HN := Lib.hid (of_decide_eq_true hsb)
          clear hc g1 g2 hsb h1 h2
          go_wp2
          go_quiet ((go_at_call 27; exact Calls.quiet_of (HC.out _)))
          go_wp2
          go_roundw
          case rel => exact ⟨k + 1, by omega, by go_num, agreeL_succ HAG.out HN.out, hs.drewN _⟩
          case measure => simp [intOf]; omega
      · have hkn : k = xss.length := by omega
        subst hkn
        clear hlt hk h1 h2
        go_wp2
        go_ret
        exact ⟨ret_bool (by rw [eq_comm, decide_eq_true_eq]; exact agreeL_eq HL.out HAG.out), hs⟩
  · have hne : (((xss.length : Nat) : Int) != ((yss.length : Nat) : Int)) = true := by simp; omega
    have HL := Lib.hid hl
    clear hl h1 h2
    go_enter Try.func29, Try.ntmps29
    go_wp2
    go_ret
    exact ⟨ret_bool (by rw [eq_comm, decide_eq_false_iff_not]; rintro rfl; exact HL.out rfl), Same.refl _⟩
end Go.Proofs.Ytkalomdbbgeemaa
