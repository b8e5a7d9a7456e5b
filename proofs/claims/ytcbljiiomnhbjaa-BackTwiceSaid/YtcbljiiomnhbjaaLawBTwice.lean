/- Walk of the law BackTwice. (genbtwice.py wrote it.) -/
import Derived.Test.YtcbljiiomnhbjaaBMany
namespace Go.Proofs.Ytcbljiiomnhbjaa
set_option maxRecDepth 100000
open Go.RowKit

set_option maxHeartbeats 8000000 in
set_option maxRecDepth 100000 in
theorem btwice_walk (l : List OpF) (v : Value) (w : World) (h : OpsV w v l ∧ ∀ o ∈ l, OpK o) : Calls Try.prog 7 #[v] w fun e w' => e = .returned (.bool true) ∧ Below w.heap.size w w' := by
  obtain ⟨hv, hk⟩ := h
  obtain ⟨a, c, rfl⟩ := hv.slice
  have hlen := hv.len
  have HV := Lib.hid (hv)
  have HK := Lib.hid (hk)
  have LB := Lib.hid (gr_refl w)
  have HLV := Lib.hid (live11_any w)
  clear hv hk
  go_enter Try.func7, Try.ntmps7
  go_wp2_with fail
  refine (HLV.out).mono ?_
  rintro e wa ⟨rfl, hb⟩
  replace HV := Lib.hid (HV.out.later hb); replace LB := Lib.hid (gr_tr LB.out hb)
  clear hb
  go_wp2_with fail
  refine (fewall_any l 20 _ _ HV.out).mono ?_
  rintro e wb ⟨b, rfl, -, hb⟩
  replace HV := Lib.hid (HV.out.later hb); replace LB := Lib.hid (gr_tr LB.out hb)
  clear hb
  clear HLV
  cases b
  case false =>
    go_wp2_with fail
    go_ret
    exact ⟨rfl, LB.out⟩
  obtain ⟨w1, hw1⟩ : ∃ w1, wb = w1 := ⟨_, rfl⟩
  subst hw1
  go_wp2_with fail
  go_loopw [22] (fun i wr => ∃ k : Nat, k ≤ l.length ∧ i = .int .i64 k ∧ Below wb.heap.size wb wr ∧ Hid (∀ j, j < k → checkE (l.getD j zeroO).path = 0)) (fun i _ => l.length - (intOf i).toNat)
  case atStart => exact ⟨0, Nat.zero_le _, rfl, gr_refl wb, Lib.hid (fun j hj => by omega)⟩
  case round =>
    obtain ⟨k, hk, rfl, hb, HJ⟩ := hrel
    replace HV := Lib.hid (HV.out.later hb); replace LB := Lib.hid (gr_tr LB.out hb)
    have HW := Lib.hid hb
    clear hb
    by_cases hlt : k < l.length
    case pos =>
      obtain ⟨b, off, cs, rfl, hc, hr, hl, ho⟩ := HV.out.at_ k hlt
      have HR := Lib.hid hr; have HI := Lib.hid (op_info_l hl); have HT := Lib.hid (op_info_t hl); have H1 := Lib.hid ho.one
      obtain ⟨fr1, fr2⟩ := fresh_row wr #[.int .i64 0, .slice none 0 0, .slice none 0 0, .int .i64 0, .bool false, .slice none 0 0, .slice none 0 0, .slice none 0 0, .slice none 0 0, .slice none 0 0, .slice none 0 0, .bool false, .slice none 0 0, .int .i64 0, .slice none 0 0, .int .i64 0, .bool false, .slice none 0 0, .int .i64 0, .slice none 0 0, .int .i64 0] cs.toArray 35
      replace HV := Lib.hid (HV.out.later fr1); replace LB := Lib.hid (gr_tr LB.out fr1); replace HW := Lib.hid (gr_tr HW.out fr1)
      have HX := Lib.hid fr2; have HO := Lib.hid (ho.later fr1)
      clear fr1 fr2 hr hl ho
      go_upto_region 8 with (first | (refine wpList_load_mid rfl 35 _ rfl b (off + k * 21) rfl cs _ HR.out Try.underlying35 rfl HI.out ?_) | (refine wpList_store_row rfl 35 _ _ rfl _ _ rfl rfl 35 _ (heap_alloc_new wr (.cells #[.int .i64 0, .slice none 0 0, .slice none 0 0, .int .i64 0, .bool false, .slice none 0 0, .slice none 0 0, .slice none 0 0, .slice none 0 0, .slice none 0 0, .slice none 0 0, .bool false, .slice none 0 0, .int .i64 0, .slice none 0 0, .int .i64 0, .bool false, .slice none 0 0, .int .i64 0, .slice none 0 0, .int .i64 0] 35)) HT.out H1.out.2.symm H1.out.1 ?_))
      generalize World.setRow (wr.alloc _) _ _ = U at *
      obtain ⟨cs', a1, c1, he, -, e1, hi1, -⟩ := HO.out.agg2
      simp only [Value.agg.injEq] at he
      have hcell : U.cell? ⟨wr.heap.size, 1, none⟩ = some (.slice a1 (l.getD k zeroO).path.length c1) := (cell_of_row _ _ 1 _ _ (0, 0) HX.out).trans (by rw [he]; exact e1)
      have hck := check_any _ _ _ hi1
      obtain ⟨CE, hCE⟩ : ∃ CE, checkE (l.getD k zeroO).path = CE := ⟨_, rfl⟩
      rw [hCE] at hck
      have HCE := Lib.hid hCE; have HCK := Lib.hid hck
      obtain ⟨np, hnp⟩ : ∃ np, (l.getD k zeroO).path.length = np := ⟨_, rfl⟩
      rw [hnp] at hcell HCK
      clear hCE hck he e1 hi1 HO HR HI HT H1 HX hnp
      go_wp2_with fail
      refine HCK.out.mono ?_
      rintro e w2 ⟨rfl, rfl⟩
      by_cases h0 : CE = 0
      case neg =>
        have q : (CE != 0) = true := by simpa using h0
        clear h0
        go_wp2_with fail
        go_ret
        exact ⟨rfl, LB.out⟩
      subst h0
      go_wp2_with fail
      go_roundw
      case rel => exact ⟨k + 1, by omega, by go_num, HW.out, Lib.hid (fun j hj => by
        by_cases hjk : j = k
        · rw [hjk]; exact HCE.out
        · exact HJ.out j (by omega))⟩
      case measure => simp [intOf]; omega
    have hkn : k = l.length := by omega
    subst hkn
    clear hlt hk HW
    have HCH : Hid (∀ o ∈ l, checkE o.path = 0) := Lib.hid (fun o ho => by
      obtain ⟨j, hj, rfl⟩ := List.getElem_of_mem ho
      have := HJ.out j hj
      simpa [hj] using this)
    clear HJ
    have qk : decide (l.length < l.length) = false := by simp
    go_wp2_with fail
    go_loopw [33] (fun i wq => ∃ k : Nat, k ≤ l.length ∧ i = .int .i64 k ∧ Below wr.heap.size wr wq) (fun i _ => l.length - (intOf i).toNat)
    case atStart => exact ⟨0, Nat.zero_le _, rfl, gr_refl wr⟩
    case round =>
      obtain ⟨k, hk, rfl, hb⟩ := hrel
      replace HV := Lib.hid (HV.out.later hb); replace LB := Lib.hid (gr_tr LB.out hb)
      have HW := Lib.hid hb
      clear hb
      by_cases hlt : k < l.length
      case pos =>
        have hok := HK.out (l.getD k zeroO) (by simp [hlt])
        have hch := HCH.out (l.getD k zeroO) (by simp [hlt])
        obtain ⟨b, off, cs, rfl, hc, hr, hl, ho⟩ := HV.out.at_ k hlt
        have HR := Lib.hid hr; have HI := Lib.hid (op_info_l hl); have HT := Lib.hid (op_info_t hl); have H1 := Lib.hid ho.one
        obtain ⟨fr1, fr2⟩ := fresh_row wr #[.int .i64 0, .slice none 0 0, .slice none 0 0, .int .i64 0, .bool false, .slice none 0 0, .slice none 0 0, .slice none 0 0, .slice none 0 0, .slice none 0 0, .slice none 0 0, .bool false, .slice none 0 0, .int .i64 0, .slice none 0 0, .int .i64 0, .bool false, .slice none 0 0, .int .i64 0, .slice none 0 0, .int .i64 0] cs.toArray 35
        replace LB := Lib.hid (gr_tr LB.out fr1); replace HW := Lib.hid (gr_tr HW.out fr1)
        have HX := Lib.hid (fr2)
        have HO := Lib.hid (ho.later fr1)
        have HIX := Lib.hid (op_info_t hl)
        clear fr1 fr2 hr hl ho HV
        go_upto_region 14 with (first | (refine wpList_load_mid rfl 35 _ rfl b (off + k * 21) rfl cs _ HR.out Try.underlying35 rfl HI.out ?_) | (refine wpList_store_row rfl 35 _ _ rfl _ _ rfl rfl 35 _ (heap_alloc_new wr (.cells #[.int .i64 0, .slice none 0 0, .slice none 0 0, .int .i64 0, .bool false, .slice none 0 0, .slice none 0 0, .slice none 0 0, .slice none 0 0, .slice none 0 0, .slice none 0 0, .bool false, .slice none 0 0, .int .i64 0, .slice none 0 0, .int .i64 0, .bool false, .slice none 0 0, .int .i64 0, .slice none 0 0, .int .i64 0] 35)) HT.out H1.out.2.symm H1.out.1 ?_))
        generalize World.setRow (wr.alloc _) _ _ = U at *
        generalize l.getD k zeroO = o at *
        obtain ⟨EE, hEE⟩ : ∃ EE, invE o = EE := ⟨_, rfl⟩
        obtain ⟨OI, hOI⟩ : ∃ OI, invO o = OI := ⟨_, rfl⟩
        have hcall := binv_any o _ _ HO.out hok.1 hok.2.1 (fun o v w h => bown_any o v w h)
        rw [hEE, hOI] at hcall
        have hz : EE ≠ 0 → OI = zeroO := fun h => by rw [← hOI]; exact no_inv (by rw [hEE]; exact h)
        have hy : EE = 0 → invE OI = 0 ∧ invO OI = o ∧ formX OI = 0 := fun h => by rw [← hOI]; exact inv_inv (by rw [hEE, h]) hch hok.2.1
        have hki : OpK OI := by rw [← hOI]; exact opK_inv hok
        have HCL := Lib.hid hcall; have HZ := Lib.hid hz; have HYY := Lib.hid hy; have HKI := Lib.hid hki
        clear hok hch hEE hOI hcall hz hy hki HR HI HT H1
        go_wp2_with (refine wpList_load_row rfl 35 _ rfl _ rfl 35 _ (0, 0) _ HX.out Try.underlying35 rfl HIX.out ?_)
        refine HCL.out.mono ?_
        rintro e w3 ⟨cA, rfl, hvA, hb⟩
        replace LB := Lib.hid (gr_tr LB.out hb); replace HW := Lib.hid (gr_tr HW.out hb); replace HX := Lib.hid (blk_below HX.out hb); replace HO := Lib.hid (HO.out.later hb)
        clear hb HCL
        have HCA := Lib.hid hvA.one
        obtain ⟨fr1, fr2⟩ := fresh_row w3 #[.int .i64 0, .slice none 0 0, .slice none 0 0, .int .i64 0, .bool false, .slice none 0 0, .slice none 0 0, .slice none 0 0, .slice none 0 0, .slice none 0 0, .slice none 0 0, .bool false, .slice none 0 0, .int .i64 0, .slice none 0 0, .int .i64 0, .bool false, .slice none 0 0, .int .i64 0, .slice none 0 0, .int .i64 0] cA 35
        have HVA := Lib.hid (hvA)
        replace LB := Lib.hid (gr_tr LB.out fr1); replace HW := Lib.hid (gr_tr HW.out fr1); replace HX := Lib.hid (blk_below HX.out fr1); replace HO := Lib.hid (HO.out.later fr1); replace HVA := Lib.hid (HVA.out.later fr1)
        have HY := Lib.hid (fr2)
        have HIY := Lib.hid (info_op HCA.out.2)
        clear hvA fr1 fr2
        go_upto_region 15 with (refine wpList_store_row rfl 35 _ _ rfl _ _ rfl rfl 35 _ (heap_alloc_new w3 (.cells #[.int .i64 0, .slice none 0 0, .slice none 0 0, .int .i64 0, .bool false, .slice none 0 0, .slice none 0 0, .slice none 0 0, .slice none 0 0, .slice none 0 0, .slice none 0 0, .bool false, .slice none 0 0, .int .i64 0, .slice none 0 0, .int .i64 0, .bool false, .slice none 0 0, .int .i64 0, .slice none 0 0, .int .i64 0] 35)) (info_op HCA.out.2) HCA.out.2.symm HCA.out.1 ?_)
        generalize World.setRow (w3.alloc _) _ _ = U2 at *
        by_cases h0 : EE = 0
        case neg =>
          have q : (EE != 0) = true := by simpa using h0
          have hzz := HZ.out h0
          subst hzz
          clear h0 HZ HYY
          go_wp2_with (refine wpList_load_row rfl 35 _ rfl _ rfl 35 _ (0, 0) _ HY.out Try.underlying35 rfl HIY.out ?_)
          refine (rs11_yes zeroO _ _ _ HVA.out (zero_op _)).mono ?_
          rintro e w4 ⟨rfl, hb⟩
          replace LB := Lib.hid (gr_tr LB.out hb); replace HW := Lib.hid (gr_tr HW.out hb); replace HX := Lib.hid (blk_below HX.out hb); replace HO := Lib.hid (HO.out.later hb); replace HVA := Lib.hid (HVA.out.later hb); replace HY := Lib.hid (blk_below HY.out hb)
          clear hb
          go_wp2_with fail
          go_roundw
          case rel => exact ⟨k + 1, by omega, by go_num, HW.out⟩
          case measure => simp [intOf]; omega
        subst h0
        obtain ⟨y1, y2, y3⟩ := HYY.out rfl
        have hcall := binv_any OI _ _ HVA.out HKI.out.1 HKI.out.2.1 (fun o v w h => bown_any o v w h)
        rw [y1, y2] at hcall
        have HY3 := Lib.hid y3; have HCL := Lib.hid hcall
        clear y1 y2 y3 hcall HYY HZ
        go_wp2_with (refine wpList_load_row rfl 35 _ rfl _ rfl 35 _ (0, 0) _ HY.out Try.underlying35 rfl HIY.out ?_)
        refine HCL.out.mono ?_
        rintro e w4 ⟨cB, rfl, hvB, hb⟩
        replace LB := Lib.hid (gr_tr LB.out hb); replace HW := Lib.hid (gr_tr HW.out hb); replace HX := Lib.hid (blk_below HX.out hb); replace HO := Lib.hid (HO.out.later hb); replace HVA := Lib.hid (HVA.out.later hb); replace HY := Lib.hid (blk_below HY.out hb)
        clear hb HCL
        have HCB := Lib.hid hvB.one
        obtain ⟨fr1, fr2⟩ := fresh_row w4 #[.int .i64 0, .slice none 0 0, .slice none 0 0, .int .i64 0, .bool false, .slice none 0 0, .slice none 0 0, .slice none 0 0, .slice none 0 0, .slice none 0 0, .slice none 0 0, .bool false, .slice none 0 0, .int .i64 0, .slice none 0 0, .int .i64 0, .bool false, .slice none 0 0, .int .i64 0, .slice none 0 0, .int .i64 0] cB 35
        have HVB := Lib.hid (hvB)
        replace LB := Lib.hid (gr_tr LB.out fr1); replace HW := Lib.hid (gr_tr HW.out fr1); replace HX := Lib.hid (blk_below HX.out fr1); replace HO := Lib.hid (HO.out.later fr1); replace HVA := Lib.hid (HVA.out.later fr1); replace HY := Lib.hid (blk_below HY.out fr1); replace HVB := Lib.hid (HVB.out.later fr1)
        have HB9 := Lib.hid (fr2)
        have HIB := Lib.hid (info_op HCB.out.2)
        clear hvB fr1 fr2
        go_upto_region 19 with (refine wpList_store_row rfl 35 _ _ rfl _ _ rfl rfl 35 _ (heap_alloc_new w4 (.cells #[.int .i64 0, .slice none 0 0, .slice none 0 0, .int .i64 0, .bool false, .slice none 0 0, .slice none 0 0, .slice none 0 0, .slice none 0 0, .slice none 0 0, .slice none 0 0, .bool false, .slice none 0 0, .int .i64 0, .slice none 0 0, .int .i64 0, .bool false, .slice none 0 0, .int .i64 0, .slice none 0 0, .int .i64 0] 35)) (info_op HCB.out.2) HCB.out.2.symm HCB.out.1 ?_)
        generalize World.setRow (w4.alloc _) _ _ = U3 at *
        go_wp2_with (first | (refine wpList_load_row_g (by rfl) 35 _ rfl _ rfl 35 _ (0, 0) _ HB9.out Try.underlying35 rfl HIB.out ?_) | (refine wpList_load_row_g (by rfl) 35 _ rfl _ rfl 35 _ (0, 0) _ HX.out Try.underlying35 rfl HIX.out ?_))
        refine (rs11_yes o _ _ _ HVB.out HO.out).mono ?_
        rintro e w5 ⟨rfl, hb⟩
        replace LB := Lib.hid (gr_tr LB.out hb); replace HW := Lib.hid (gr_tr HW.out hb); replace HX := Lib.hid (blk_below HX.out hb); replace HO := Lib.hid (HO.out.later hb); replace HVA := Lib.hid (HVA.out.later hb); replace HY := Lib.hid (blk_below HY.out hb); replace HVB := Lib.hid (HVB.out.later hb); replace HB9 := Lib.hid (blk_below HB9.out hb)
        clear hb
        have hfm := bform_any OI _ _ HVA.out HKI.out.1
        rw [HY3.out] at hfm
        have HFM := Lib.hid hfm
        clear hfm
        go_wp2_with (refine wpList_load_row_g (by rfl) 35 _ rfl _ rfl 35 _ (0, 0) _ HY.out Try.underlying35 rfl HIY.out ?_)
        refine HFM.out.mono ?_
        rintro e w6 ⟨rfl, hb⟩
        replace LB := Lib.hid (gr_tr LB.out hb); replace HW := Lib.hid (gr_tr HW.out hb); replace HX := Lib.hid (blk_below HX.out hb); replace HO := Lib.hid (HO.out.later hb); replace HVA := Lib.hid (HVA.out.later hb); replace HY := Lib.hid (blk_below HY.out hb); replace HVB := Lib.hid (HVB.out.later hb); replace HB9 := Lib.hid (blk_below HB9.out hb)
        clear hb HFM
        go_wp2_with fail
        go_roundw
        case rel => exact ⟨k + 1, by omega, by go_num, HW.out⟩
        case measure => simp [intOf]; omega
      have hkn : k = l.length := by omega
      subst hkn
      clear hlt hk HW
      have qk2 : decide (l.length < l.length) = false := by simp
      obtain ⟨EL, hEL⟩ : ∃ x, allE l = x := ⟨_, rfl⟩
      obtain ⟨RL, hRL⟩ : ∃ x, allR l = x := ⟨_, rfl⟩
      have hz : EL ≠ 0 → RL = [] := fun h => by rw [← hRL, allR, if_neg (by rw [hEL]; exact h)]
      have hy : EL = 0 → allE RL = 0 ∧ allR RL = l := fun h => by rw [← hRL]; exact all_all (by rw [hEL, h]) (fun o ho => ⟨HCH.out o ho, (HK.out o ho).2.1⟩)
      have hkr : ∀ o ∈ RL, OpK o := by rw [← hRL]; exact opK_all HK.out
      have HEL := Lib.hid hEL; have HRL := Lib.hid hRL; have HZ := Lib.hid hz; have HYY := Lib.hid hy; have HKR := Lib.hid hkr
      clear hEL hRL hz hy hkr
      go_wp2_with fail
      refine (ball_as l RL EL HEL.out HRL.out _ _ HV.out HK.out).mono ?_
      rintro e w7 ⟨a3, n3, c3, rfl, hv3, hn3, hb⟩
      replace HV := Lib.hid (HV.out.later hb); replace LB := Lib.hid (gr_tr LB.out hb)
      have HA := Lib.hid (hv3)
      have HN3 := Lib.hid hn3
      clear hb hv3 hn3
      by_cases h0 : EL = 0
      case neg =>
        have q : (EL != 0) = true := by simpa using h0
        have hn : n3 = 0 := by rw [← HN3.out, HZ.out h0]; rfl
        clear HZ HYY h0 HN3
        subst hn
        go_wp2_with fail
        go_ret
        exact ⟨rfl, LB.out⟩
      subst h0
      obtain ⟨y1, y2⟩ := HYY.out rfl
      have HY1 := Lib.hid y1; have HY2 := Lib.hid y2
      clear y1 y2 HYY HZ
      go_wp2_with fail
      refine (ball_as RL l 0 HY1.out HY2.out _ _ HA.out HKR.out).mono ?_
      rintro e w8 ⟨a4, n4, c4, rfl, hv4, hn4, hb⟩
      replace HV := Lib.hid (HV.out.later hb); replace LB := Lib.hid (gr_tr LB.out hb); replace HA := Lib.hid (HA.out.later hb)
      have HB := Lib.hid (hv4)
      clear hb hv4 hn4
      go_wp2_with fail
      refine (rsall_yes l _ _ _ HB.out HV.out).mono ?_
      rintro e w9 ⟨rfl, hb⟩
      replace HV := Lib.hid (HV.out.later hb); replace LB := Lib.hid (gr_tr LB.out hb); replace HA := Lib.hid (HA.out.later hb); replace HB := Lib.hid (HB.out.later hb)
      clear hb
      go_wp2_with fail
      go_ret
      exact ⟨rfl, LB.out⟩
end Go.Proofs.Ytcbljiiomnhbjaa
