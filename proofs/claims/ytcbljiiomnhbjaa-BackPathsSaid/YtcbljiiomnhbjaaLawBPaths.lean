/- The walk of the law BackPaths. (genbpaths.py wrote it.) -/
import Derived.Test.YtcbljiiomnhbjaaLive11
import Derived.Test.YtcbljiiomnhbjaaRS11
import Derived.Test.YtcbljiiomnhbjaaFew11
import Derived.Test.YtcbljiiomnhbjaaBPathsP
namespace Go.Proofs.Ytcbljiiomnhbjaa
set_option maxRecDepth 100000
open Go.RowKit

set_option maxHeartbeats 4000000 in
set_option maxRecDepth 100000 in
theorem law_bpaths (xs : List Int) (o : OpF) (v1 v2 : Value) (w : World) (h1 : Ints w v1 xs ∧ I64 xs) (h2 : OpV w v2 o ∧ (-9223372036854775808 ≤ o.kind ∧ o.kind ≤ 9223372036854775807) ∧ I64 o.path) : Calls Try.prog 8 #[v1, v2] w (Yes w) := by
  obtain ⟨hx, -⟩ := h1
  obtain ⟨hv, hk, h64⟩ := h2
  obtain ⟨av, cv, rfl⟩ := hx.slice
  obtain ⟨cs, a1, c1, rfl, e0, e1, e3, hp, hsz⟩ := hv.agg3
  have hbW := gr_al (gr_refl w) (.cells cs 35)
  have HX := Lib.hid (heap_alloc_new w (.cells cs 35))
  have HO := Lib.hid (hv.later hbW)
  have HP := Lib.hid (hp.below hbW (Nat.le_refl _))
  have HV := Lib.hid (hx.below hbW (Nat.le_refl _))
  have LB := Lib.hid (hbW)
  have HIHX := Lib.hid (info_op hsz)
  have HK := Lib.hid (hk)
  have H64 := Lib.hid (h64)
  have E0 := Lib.hid (e0)
  have E1 := Lib.hid (e1)
  have E3 := Lib.hid (e3)
  clear hv hbW hsz hk h64 hx hp e0 e1 e3
  go_enter Try.func8, Try.ntmps8
  go_upto_region 1 with fail
  generalize World.alloc w _ = W at *
  go_wp2_with fail
  refine (live11_any W).mono ?_
  rintro e w1 ⟨rfl, hb⟩
  replace HX := Lib.hid (blk_below HX.out hb); replace HO := Lib.hid (HO.out.later hb); replace HP := Lib.hid (HP.out.below hb (Nat.le_refl _)); replace HV := Lib.hid (HV.out.below hb (Nat.le_refl _)); replace LB := Lib.hid (gr_tr LB.out hb)
  clear hb
  go_wp2_with (refine wpList_load_row rfl 35 _ rfl _ rfl 35 _ (0, 0) _ HX.out Try.underlying35 rfl HIHX.out ?_)
  refine (few11_any o _ _ HO.out).mono ?_
  rintro e w2 ⟨b, rfl, hf, hb⟩
  replace HX := Lib.hid (blk_below HX.out hb); replace HO := Lib.hid (HO.out.later hb); replace HP := Lib.hid (HP.out.below hb (Nat.le_refl _)); replace HV := Lib.hid (HV.out.below hb (Nat.le_refl _)); replace LB := Lib.hid (gr_tr LB.out hb)
  clear hb
  cases b
  case false =>
    go_wp2_with fail
    go_ret
    exact ⟨rfl, LB.out⟩
  obtain ⟨l1, l2⟩ := hf rfl
  have L1 := Lib.hid (l1)
  have L2 := Lib.hid (l2)
  clear hf l1 l2
  by_cases h60 : (60 : Int) < (xs.length : Int)
  case pos =>
    have q60 := decide_eq_true h60
    clear h60
    go_wp2_with fail
    go_ret
    exact ⟨rfl, LB.out⟩
  have q60 := decide_eq_false h60
  have L0 := Lib.hid (h60)
  clear h60
  have k0 : w2.cell? ⟨w.heap.size, 0, none⟩ = some (.int .i64 o.kind) := (cell_of_row _ _ 0 _ _ (0, 0) HX.out).trans E0.out
  by_cases h3 : o.kind = 3
  case pos =>
    have q3 : (o.kind == 3) = true := by simp [h3]
    clear h3
    go_wp2_with fail
    go_ret
    exact ⟨rfl, LB.out⟩
  have q3 : (o.kind == 3) = false := by simp [h3]
  have N3 := Lib.hid (h3)
  clear h3
  by_cases h2 : o.kind = 2
  case pos =>
    have q2 : (o.kind == 2) = true := by simp [h2]
    clear h2
    go_wp2_with fail
    go_ret
    exact ⟨rfl, LB.out⟩
  have q2 : (o.kind == 2) = false := by simp [h2]
  have N2 := Lib.hid (h2)
  clear h2
  by_cases h5 : o.kind = 5
  case pos =>
    have q5 : (o.kind == 5) = true := by simp [h5]
    clear h5
    go_wp2_with fail
    go_ret
    exact ⟨rfl, LB.out⟩
  have q5 : (o.kind == 5) = false := by simp [h5]
  have N5 := Lib.hid (h5)
  clear h5
  have k1 : w2.cell? ⟨w.heap.size, 1, none⟩ = some (.slice a1 o.path.length c1) := (cell_of_row _ _ 1 _ _ (0, 0) HX.out).trans E1.out
  have k3 : w2.cell? ⟨w.heap.size, 3, none⟩ = some (.int .i64 o.pos) := (cell_of_row _ _ 3 _ _ (0, 0) HX.out).trans E3.out
  have BB : Hid (∀ w', Below w2.heap.size w2 w' → w'.cell? ⟨w.heap.size, 1, none⟩ = some (.slice a1 o.path.length c1) ∧ w'.cell? ⟨w.heap.size, 3, none⟩ = some (.int .i64 o.pos)) := Lib.hid (fun w' l => ⟨(cell_of_row _ _ 1 _ _ (0, 0) (blk_below HX.out l)).trans E1.out, (cell_of_row _ _ 3 _ _ (0, 0) (blk_below HX.out l)).trans E3.out⟩)
  obtain ⟨L, hL⟩ : ∃ L : List Int, L = (xs ++ o.path) ++ [o.pos] := ⟨_, rfl⟩
  have HL := Lib.hid (hL)
  have HLN : Hid (L.length = xs.length + o.path.length + 1) := Lib.hid (by rw [hL]; simp; omega)
  have HN1 : Hid ((([] : List Int).length + xs.length) * 8 ≤ 140737488351232) := Lib.hid (by have := L0.out; simp; omega)
  have HN2 : Hid ((xs.length + o.path.length) * 8 ≤ 140737488351232) := Lib.hid (by have := L0.out; have := L1.out; omega)
  have HN3 : Hid (((xs ++ o.path).length + [o.pos].length) * 8 ≤ 140737488351232) := Lib.hid (by have := L0.out; have := L1.out; simp; omega)
  clear hL q60 k1 k3
  go_upto_region 5 with fail
  clear k0 q3 q2 q5
  go_cut [46, 47, 48] (fun s n i wx => i = .int .i64 0 ∧ n = .int .i64 L.length ∧ Ints wx s L ∧ Below w2.heap.size w2 wx)
  case first =>
    have st := St.nil w2
    go_region_held3 (fun w' => w'.cell? ⟨w.heap.size, 1, none⟩ = some (.slice a1 o.path.length c1) ∧ w'.cell? ⟨w.heap.size, 3, none⟩ = some (.int .i64 o.pos))
      (first | exact BB.out _ st.2 | exact BB.out _ (st.al _).2)
      (first | (refine arm_app rfl _ (.tmp 38) rfl (v := .slice none 0 0) rfl st (ao := av) (m := xs.length) (c := cv) rfl (HV.out.below st.2 (Nat.le_refl _)) HN1.out ?_; clear st; intro v3 w3 st; rw [List.nil_append] at st) | (refine arm_first rfl _ (.tmp 38) rfl rfl st (ao := av) (m := xs.length) (c := cv) rfl (HV.out.below (st.al _).2 (Nat.le_refl _)) HN1.out ?_; clear st; intro v3 w3 st lit) | (refine arm_lit rfl (.tmp 39) (.tmp 41) rfl rfl st lit (ao := a1) (m := o.path.length) (c := c1) rfl (HP.out.below st.2 (Nat.le_refl _)) HN2.out ?_; clear st lit; intro v4 w4 st hg) | (refine arm_app rfl (.tmp 39) (.tmp 41) rfl rfl st (ao := a1) (m := o.path.length) (c := c1) rfl (HP.out.below st.2 (Nat.le_refl _)) HN2.out ?_; clear st; intro v4 w4 st) | (refine arm_lit rfl (.tmp 39) (.tmp 41) rfl rfl (st.al _) (st.lit _) (ao := a1) (m := o.path.length) (c := c1) rfl (HP.out.below (st.al _).2 (Nat.le_refl _)) HN2.out ?_; clear st; intro v4 w4 st hg) | (refine arm_app rfl (.tmp 42) (.tmp 45) rfl rfl st rfl (lit_int1 hg) HN3.out ?_; clear hg; clear st; intro v5 w5 st; rw [← HL.out] at st; obtain ⟨a5, c5, rfl⟩ := st.1.ints.slice) | (refine arm_app rfl (.tmp 42) (.tmp 45) rfl rfl (st.al _) rfl (lit_int1 (heap_alloc_new _ _)) HN3.out ?_; clear st; intro v5 w5 st; rw [← HL.out] at st; obtain ⟨a5, c5, rfl⟩ := st.1.ints.slice))
    all_goals
      go_wp2_with fail
      go_meet
      exact ⟨rfl, rfl, st.1.ints, st.2⟩
  case rest =>
    obtain ⟨rfl, rfl, hI, hb⟩ := hcut
    replace HX := Lib.hid (blk_below HX.out hb); replace HO := Lib.hid (HO.out.later hb); replace HP := Lib.hid (HP.out.below hb (Nat.le_refl _)); replace HV := Lib.hid (HV.out.below hb (Nat.le_refl _)); replace LB := Lib.hid (gr_tr LB.out hb)
    obtain ⟨a', c', rfl, lc1, _, o1⟩ := hI.open_
    have O1 := Lib.hid (o1)
    clear hb hI BB o1 HN1 HN2 HN3
    have lb : L.length ≤ 200 := by have := HLN.out; have := L0.out; have := L1.out; omega
    go_wp2_with fail
    go_loop [48] (fun i => ∃ k : Nat, k ≤ L.length ∧ i = .int .i64 k ∧ Hid (∀ j, j < k → 0 ≤ L.getD j 0 ∧ L.getD j 0 < 1048576)) (fun i => L.length - (intOf i).toNat)
    case atStart => exact ⟨0, Nat.zero_le _, rfl, by intro j hj; omega⟩
    case round =>
      obtain ⟨k, hk, rfl, HR⟩ := hrel
      by_cases hlt : k < L.length
      case pos =>
        obtain ⟨b, off, rfl, hc⟩ := O1.out (by omega)
        have hck := hc k hlt
        clear hc
        generalize hx : L.getD k 0 = x at *
        have HXX := Lib.hid (hx)
        clear hx
        by_cases hlo : x < 0
        case pos =>
          have qlo := decide_eq_true hlo
          clear hlo
          go_wp2_with fail
          go_ret
          exact ⟨rfl, LB.out⟩
        have qlo := decide_eq_false hlo
        by_cases hhi : 1048576 ≤ x
        case pos =>
          have qhi := decide_eq_true hhi
          clear hhi hlo
          go_wp2_with fail
          go_ret
          exact ⟨rfl, LB.out⟩
        have qhi := decide_eq_false hhi
        have X0 := Lib.hid (hlo)
        have X1 := Lib.hid (hhi)
        clear hhi hlo
        go_wp2
        go_round
        case rel =>
          refine ⟨k + 1, by omega, by go_num, ?_⟩
          intro j hj
          by_cases hjk : j = k
          · subst hjk; rw [HXX.out]; exact ⟨by have := X0.out; omega, by have := X1.out; omega⟩
          · exact HR.out j (by omega)
        case measure => simp [intOf]; omega
      have hkn : k = L.length := by omega
      subst hkn
      have HRA : Hid (∀ x ∈ (xs ++ o.path) ++ [o.pos], 0 ≤ x ∧ x < 1048576) := Lib.hid (by rw [← HL.out]; intro x hx; obtain ⟨j, hj, rfl⟩ := List.getElem_of_mem hx; have := HR.out j hj; simpa [List.getD, hj] using this)
      clear hlt hk HR O1 lc1 lb HL HLN
      have qk : decide (L.length < L.length) = false := by simp
      obtain ⟨m, hm⟩ : ∃ m, moveP xs o.kind o.path o.dest o.pos = m := ⟨_, rfl⟩
      have HM := Lib.hid (hm)
      clear hm
      obtain ⟨EE, hE⟩ : ∃ EE, invE o = EE := ⟨_, rfl⟩
      have HE := Lib.hid (hE)
      clear hE
      obtain ⟨OI, hI⟩ : ∃ OI, invO o = OI := ⟨_, rfl⟩
      have HOI := Lib.hid (hI)
      clear hI
      have hcall := binv_any o _ _ HO.out HK.out H64.out (fun o v w h => bown_any o v w h)
      rw [HE.out, HOI.out] at hcall
      have HC := Lib.hid (hcall)
      clear hcall
      go_wp2_with (refine wpList_load_row rfl 35 _ rfl _ rfl 35 _ (0, 0) _ HX.out Try.underlying35 rfl HIHX.out ?_)
      refine (HC.out).mono ?_
      rintro e w3 ⟨cA, rfl, hvA, hb⟩
      replace HX := Lib.hid (blk_below HX.out hb); replace HO := Lib.hid (HO.out.later hb); replace HP := Lib.hid (HP.out.below hb (Nat.le_refl _)); replace HV := Lib.hid (HV.out.below hb (Nat.le_refl _)); replace LB := Lib.hid (gr_tr LB.out hb)
      clear hb
      have HVA := Lib.hid (hvA)
      have HCA := Lib.hid (hvA.one)
      clear hvA HC
      obtain ⟨fr1, fr2⟩ := fresh_row w3 #[.int .i64 0, .slice none 0 0, .slice none 0 0, .int .i64 0, .bool false, .slice none 0 0, .slice none 0 0, .slice none 0 0, .slice none 0 0, .slice none 0 0, .slice none 0 0, .bool false, .slice none 0 0, .int .i64 0, .slice none 0 0, .int .i64 0, .bool false, .slice none 0 0, .int .i64 0, .slice none 0 0, .int .i64 0] cA 35
      replace HX := Lib.hid (blk_below HX.out fr1); replace HO := Lib.hid (HO.out.later fr1); replace HP := Lib.hid (HP.out.below fr1 (Nat.le_refl _)); replace HV := Lib.hid (HV.out.below fr1 (Nat.le_refl _)); replace LB := Lib.hid (gr_tr LB.out fr1); replace HVA := Lib.hid (HVA.out.later fr1)
      have HY := Lib.hid (fr2)
      have HIHY := Lib.hid (info_op HCA.out.2)
      clear fr1 fr2
      go_upto_region 12 with (refine wpList_store_row rfl 35 _ _ rfl _ _ rfl rfl 35 _ (heap_alloc_new w3 (.cells #[.int .i64 0, .slice none 0 0, .slice none 0 0, .int .i64 0, .bool false, .slice none 0 0, .slice none 0 0, .slice none 0 0, .slice none 0 0, .slice none 0 0, .slice none 0 0, .bool false, .slice none 0 0, .int .i64 0, .slice none 0 0, .int .i64 0, .bool false, .slice none 0 0, .int .i64 0, .slice none 0 0, .int .i64 0] 35)) (info_op HCA.out.2) HCA.out.2.symm HCA.out.1 ?_)
      generalize World.setRow (w3.alloc _) _ _ = U1 at *
      have NM : Hid ((o.dest.length + xs.length) * 8 ≤ 140737488351232) := Lib.hid (by have := L0.out; have := L2.out; omega)
      have hcall := xmove_any xs o.path o.dest o.kind o.pos _ _ _ HV.out HO.out.at_ NM.out
      rw [HM.out] at hcall
      have HC := Lib.hid (hcall)
      clear hcall
      go_wp2_with (refine wpList_load_row rfl 35 _ rfl _ rfl 35 _ (0, 0) _ HX.out Try.underlying35 rfl HIHX.out ?_)
      refine (HC.out).mono ?_
      rintro e w4 ⟨vq, rfl, hoq, hb⟩
      replace HX := Lib.hid (blk_below HX.out hb); replace HO := Lib.hid (HO.out.later hb); replace HP := Lib.hid (HP.out.below hb (Nat.le_refl _)); replace HV := Lib.hid (HV.out.below hb (Nat.le_refl _)); replace LB := Lib.hid (gr_tr LB.out hb); replace HVA := Lib.hid (HVA.out.later hb); replace HY := Lib.hid (blk_below HY.out hb)
      clear hb
      have iq := hoq.ints
      obtain ⟨aq, nq, cq, rfl⟩ := iq.slice3
      have HQ := Lib.hid (iq)
      clear hoq iq HC NM
      have k1 : w4.cell? ⟨w.heap.size, 1, none⟩ = some (.slice a1 o.path.length c1) := (cell_of_row _ _ 1 _ _ (0, 0) HX.out).trans E1.out
      by_cases he : EE = 0
      case neg =>
        have qe : (EE == 0) = false := by simp [he]
        have HZ : Hid (OI = zeroO) := Lib.hid (by rw [← HOI.out]; exact inv_no (by rw [HE.out]; exact he))
        clear he
        rw [HZ.out] at HVA
        go_wp2_with (refine wpList_load_row rfl 35 _ rfl _ rfl 35 _ (0, 0) _ HY.out Try.underlying35 rfl HIHY.out ?_)
        refine (rs11_yes zeroO _ _ _ HVA.out (zero_op _)).mono ?_
        rintro e w5 ⟨rfl, hb⟩
        replace HX := Lib.hid (blk_below HX.out hb); replace HO := Lib.hid (HO.out.later hb); replace HP := Lib.hid (HP.out.below hb (Nat.le_refl _)); replace HV := Lib.hid (HV.out.below hb (Nat.le_refl _)); replace LB := Lib.hid (gr_tr LB.out hb); replace HVA := Lib.hid (HVA.out.later hb); replace HY := Lib.hid (blk_below HY.out hb); replace HQ := Lib.hid (HQ.out.below hb (Nat.le_refl _))
        clear hb
        go_wp2_with fail
        go_ret
        exact ⟨rfl, LB.out⟩
      subst he
      by_cases hq : o.path.length = 0
      case pos =>
        have qq : ((o.path.length : Int) == 0) = true := by simp [hq]
        clear hq
        go_wp2_with (refine wpList_load_row rfl 35 _ rfl _ rfl 35 _ (0, 0) _ HY.out Try.underlying35 rfl HIHY.out ?_)
        refine (rs11_any OI zeroO _ _ _ HVA.out (zero_op _)).mono ?_
        rintro e w5 ⟨rfl, hb⟩
        replace HX := Lib.hid (blk_below HX.out hb); replace HO := Lib.hid (HO.out.later hb); replace HP := Lib.hid (HP.out.below hb (Nat.le_refl _)); replace HV := Lib.hid (HV.out.below hb (Nat.le_refl _)); replace LB := Lib.hid (gr_tr LB.out hb); replace HVA := Lib.hid (HVA.out.later hb); replace HY := Lib.hid (blk_below HY.out hb); replace HQ := Lib.hid (HQ.out.below hb (Nat.le_refl _))
        clear hb
        have k1 : w5.cell? ⟨w.heap.size, 1, none⟩ = some (.slice a1 o.path.length c1) := (cell_of_row _ _ 1 _ _ (0, 0) HX.out).trans E1.out
        generalize eqO OI zeroO = bz
        cases bz
        all_goals
          go_wp2_with fail
          go_ret
          exact ⟨rfl, LB.out⟩
      have qq : ((o.path.length : Int) == 0) = false := by rw [beq_eq_false_iff_ne]; omega
      obtain ⟨a, m1, m2, m3, m4⟩ := paths_back (p := xs) HE.out N2.out N3.out N5.out HRA.out (by omega)
      have hmm := HM.out
      rw [m1] at hmm
      subst hmm
      rw [HOI.out] at m2 m4
      have M2 := Lib.hid (m2)
      have NM : Hid ((OI.dest.length + a.length) * 8 ≤ 140737488351232) := Lib.hid (by rw [m4, m3]; have := L0.out; simp; omega)
      clear hq m1 m2 m3 m4
      have hcall := xmove_any a OI.path OI.dest OI.kind OI.pos _ _ _ HQ.out HVA.out.at_ NM.out
      rw [M2.out] at hcall
      have HC := Lib.hid (hcall)
      clear hcall
      go_wp2_with (refine wpList_load_row rfl 35 _ rfl _ rfl 35 _ (0, 0) _ HY.out Try.underlying35 rfl HIHY.out ?_)
      refine (HC.out).mono ?_
      rintro e w5 ⟨vb, rfl, hob, hb⟩
      replace HX := Lib.hid (blk_below HX.out hb); replace HO := Lib.hid (HO.out.later hb); replace HP := Lib.hid (HP.out.below hb (Nat.le_refl _)); replace HV := Lib.hid (HV.out.below hb (Nat.le_refl _)); replace LB := Lib.hid (gr_tr LB.out hb); replace HVA := Lib.hid (HVA.out.later hb); replace HY := Lib.hid (blk_below HY.out hb); replace HQ := Lib.hid (HQ.out.below hb (Nat.le_refl _))
      clear hb
      have ib := hob.ints
      obtain ⟨ab, nb, cb, rfl⟩ := ib.slice3
      have HB2 := Lib.hid (ib)
      clear hob ib HC NM k1
      go_wp2_with fail
      refine (same_any xs xs _ _ _ HB2.out HV.out).mono ?_
      rintro e w6 ⟨rfl, hs⟩
      have hb := hs.below w5.heap.size
      replace HX := Lib.hid (blk_below HX.out hb); replace HO := Lib.hid (HO.out.later hb); replace HP := Lib.hid (HP.out.below hb (Nat.le_refl _)); replace HV := Lib.hid (HV.out.below hb (Nat.le_refl _)); replace LB := Lib.hid (gr_tr LB.out hb); replace HVA := Lib.hid (HVA.out.later hb); replace HY := Lib.hid (blk_below HY.out hb); replace HQ := Lib.hid (HQ.out.below hb (Nat.le_refl _)); replace HB2 := Lib.hid (HB2.out.below hb (Nat.le_refl _))
      clear hb hs
      rw [show decide (xs = xs) = true from by simp]
      go_wp2_with fail
      go_ret
      exact ⟨rfl, LB.out⟩
end Go.Proofs.Ytcbljiiomnhbjaa
