/- Walk of tree.paths: the closure that goes down, and the whole. -/
import Derived.Test.YtdcpoeaddhbjbaaPathsM
import Derived.Deep.RegionLawGrows
import Derived.Deep.AppendLies
import Derived.Deep.RegionHeld3
import Derived.Deep.DeepCutAuto
namespace Go.Proofs.Ytdcpoeaddhbjbaa
set_option maxRecDepth 100000
open Go.RowKit

set_option maxHeartbeats 4000000 in
theorem each_all (hF : Wants 69 allT) : ∀ (t : Tree) (cs : List Value) (B bw bo be : Nat) (xss : List (List Int)) (p : List Int) (pv ov : Value) (w : World),
    NodeAt (fun b => b < B) w cs t → Env w B bw bo be 69 ov → OwnL w B ov xss → Own w B pv p → B ≤ w.heap.size → xss.length + sizeT t ≤ 2000000 → p.length + sizeT t ≤ 2000000 →
    Calls Try.prog 106 #[.agg (List.toArray cs), pv, .pointer (some ⟨bw, 0, none⟩), .pointer (some ⟨bo, 0, none⟩), .pointer (some ⟨be, 0, none⟩)] w (EachPost B bw bo be 69 ov w (xss ++ pathsL allT t p)) := by
  refine Tree.ind fun l ps xs ks ih => ?_
  intro cs B bw bo be xss p pv ov w hn he ho hp hB hs1 hs2
  have IH := Lib.hid ih
  have HF := Lib.hid hF
  clear ih hF
  obtain ⟨ap, cp, rfl⟩ := hp.ints.slice
  obtain ⟨a1, n1, c1, a2, n2, c2, a3, n3, c3, hform⟩ := hn.form
  replace hform : cs = [.bool l, .slice a1 n1 c1, .slice a2 n2 c2, .slice a3 n3 c3] := hform
  subst hform
  have hbW := gr_al (gr_refl w) (.cells #[.bool l, .slice a1 n1 c1, .slice a2 n2 c2, .slice a3 n3 c3] 26)
  have HN := Lib.hid hn; have HE := Lib.hid (he.rel_quiet hbW); have HO := Lib.hid (ho.later hbW); have HP := Lib.hid (hp.below hbW (Nat.le_refl _)); have HE0 := Lib.hid he; have HO0 := Lib.hid ho; have HBW := Lib.hid hbW
  obtain ⟨e1, e2, e3, e4⟩ := HE.out
  have c1' := cell_of_row _ bw 0 _ _ (0, 0) e1
  have c2' := cell_of_row _ bo 0 _ _ (0, 0) e2
  have c3' := cell_of_row _ be 0 _ _ (0, 0) e3
  have c4' := cell_of_row _ w.heap.size 0 _ _ (0, 0) (heap_alloc_new w (.cells #[.bool l, .slice a1 n1 c1, .slice a2 n2 c2, .slice a3 n3 c3] 26))
  simp only [List.getElem?_toArray, List.getElem?_cons_zero] at c1' c2' c3' c4'
  have HX1 := Lib.hid c1'; have HX4 := Lib.hid c4'
  have HB := Lib.hid hB
  have HC := Lib.hid (HF.out _ _ _ _ (hn.alloc (.cells #[.bool l, .slice a1 n1 c1, .slice a2 n2 c2, .slice a3 n3 c3] 26)))
  clear hn ho hp he e1 e2 e3 hB hbW
  go_enter Try.func106, Try.ntmps106
  clear c1' c2' c3' c4'
  have HC1 := Lib.hid HC.out
  clear HC
  have c1' := HX1.out
  have c4' := HX4.out
  go_wp2_with fail
  refine HC1.out.mono ?_
  rintro e w1 ⟨rfl, hb1⟩
  have he1 := HE.out.rel_quiet hb1
  have ho1 := HO.out.later hb1
  have hp1 := HP.out.below hb1 (Nat.le_refl _)
  have hr1 : Rel B bo w ov w1 ov := (Rel.refl B bo w ov).quiet HB.out (gr_tr HBW.out hb1)
  have hx1 : w1.heap[w.heap.size]? = some (.cells #[.bool l, .slice a1 n1 c1, .slice a2 n2 c2, .slice a3 n3 c3] 26 (0, 0)) := blk_below (heap_alloc_new w _) hb1
  have hB1 : B ≤ w1.heap.size := Nat.le_trans HB.out hr1.1.size
  have HE1 := Lib.hid he1; have HO1 := Lib.hid ho1; have HP1 := Lib.hid hp1; have HR1 := Lib.hid hr1; have HXX := Lib.hid hx1; have HB1 := Lib.hid hB1
  clear HC1 hb1 he1 ho1 hp1 hr1 hx1 hB1 HE HO HP HX1 HX4 c1' c4'
  go_upto_if 11 with fail
  go_cut [] (fun wx => Mid B bw bo be 69 ov w (xss ++ headL allT (.mk l ps xs ks) p) (.slice ap p.length cp) p B #[.bool l, .slice a1 n1 c1, .slice a2 n2 c2, .slice a3 n3 c3] w.heap.size wx)
  case first =>
    cases hw : allT (.mk l ps xs ks)
    · go_wp2_with fail
      go_meet
      refine ⟨ov, HE1.out, ?_, HR1.out, HP1.out, HXX.out⟩
      simpa [headL, hw] using HO1.out
    · obtain ⟨vs, r1, r2⟩ := HO1.out
      have R1 := Lib.hid r1; have R2 := Lib.hid r2
      obtain ⟨e1, e2, e3, e4⟩ := HE1.out
      have HCL := Lib.hid (path_cloned HP1.out HB1.out e2)
      have HE2 := Lib.hid e2
      have c2' := cell_of_row _ bo 0 _ _ (0, 0) e2
      simp only [List.getElem?_toArray, List.getElem?_cons_zero] at c2'
      obtain ⟨i0, hi, hz0, hz1, hz2⟩ := info_parts info_ints
      have HI := Lib.hid hi; have HZ0 := Lib.hid hz0; have HZ1 := Lib.hid hz1; have HZ2 := Lib.hid hz2
      have HW := Lib.hid hw
      have hsz := sizeT_pos (.mk l ps xs ks)
      have H5 : Hid (xss.length + 1 ≤ maxLen) := by show _ ≤ _; unfold maxLen; omega
      have H6 : Hid ((xss.length + 1) * 24 ≤ 140737488355328) := by show _ ≤ _; omega
      clear r1 r2 e1 e2 e3 hi hz0 hz1 hz2 hsz
      clear hw
      go_wp2_with fail
      go_region_law (first
        | (go_simp; go_at_call 102; refine HCL.out.mono ?_; clear c2'; rintro e w2 ⟨ak, nk, ck, rfl, hok, hbk, c2', c3'⟩)
        | (refine step_append_lies _ rfl (.tmp 12) (.tmp 15) 38 rfl B 27 i0 (.slice none 0 0) 1 24 Try.underlying38 HI.out HZ0.out HZ1.out HZ2.out rfl (by decide) ov xss.length vs (by simp [Act.eval]) ((row_below R1.out hbk (Nat.le_refl _)).alloc _) ⟨w2.heap.size, 0, none⟩ 1 1 [.slice ak nk ck] (by simp [Act.eval]) rfl (one_news _ _ _ _ rfl _ rfl) (one_sl ak nk ck) (by decide) H5.out H6.out (by have := HB1.out; have := hbk.size; simp; omega) _ rfl ?_; intro g cap w3 hown hgrow hat hlt; obtain ⟨q1, q2⟩ := bo_after HE2.out R1.out hbk hgrow))
      all_goals
        go_wp2_with fail
        go_meet
        obtain ⟨m1, m2, m3⟩ := push_rel (C := B) HE1.out HB1.out R1.out R2.out hbk hok (Nat.le_refl _) rfl hown hgrow (fun g' hg' => by simp only [Value.ownBlock, Option.some.injEq] at hg'; subst hg'; exact hat)
        refine ⟨_, m1, ?_, HR1.out.trans m3, HP1.out.rel m3 HO1.out HE2.out, m3.block HO1.out HXX.out ?_ (by decide)⟩
        · simpa [headL, HW.out] using m2
        · rintro rfl
          have h1 := HXX.out
          have h2 := HE2.out
          rw [h1] at h2
          simp at h2
  case rest =>
    obtain ⟨ov1, hE, hO, hR, hP, hX⟩ := hcut
    obtain ⟨⟨x0, x1, x2, x3⟩, _⟩ := four_facts hX
    have HI0 : Hid (EachInv allT B bw bo be 69 ov w (.slice ap p.length cp) p (xss ++ headL allT (.mk l ps xs ks) p) ks 0 wc) := by
      show EachInv _ _ _ _ _ _ _ _ _ _ _ _ _ _
      refine ⟨ov1, hE, ?_, hR, hP⟩
      rw [pathsU_zero, List.append_nil]
      exact hO
    have hlen : n3 = ks.length ∧ n3 * 80 ≤ 140737488351232 := by
      obtain ⟨pv', tv', kv', es', he', _, _, hk', hl', _⟩ := HN.out.open_
      simp only [List.cons.injEq] at he'
      obtain ⟨_, _, _, rfl, _⟩ := he'
      have h1 := hk'.len
      obtain ⟨a', c', h2⟩ := hk'.slice
      simp only [Value.slice.injEq] at h2
      have : es'.length = ks.length := hl'
      omega
    obtain ⟨hlen, hl80⟩ := hlen
    have hcap : p.length ≤ cp := by
      obtain ⟨_, _, he', hc', _⟩ := hP.ints
      simp only [Value.slice.injEq] at he'
      omega
    have hp8 := hP.2
    have HL := Lib.hid hlen
    clear hE hO hR hP hX HE1 HO1 HP1 HR1 HXX HB1 hlen
    go_wp2_with fail
    go_loopw [20] (fun i wr => ∃ k : Nat, k ≤ n3 ∧ i = .int .i64 k ∧ EachInv allT B bw bo be 69 ov w (.slice ap p.length cp) p (xss ++ headL allT (.mk l ps xs ks) p) ks k wr) (fun i _ => n3 - (intOf i).toNat)
    case atStart => exact ⟨0, Nat.zero_le _, rfl, HI0.out⟩
    case round =>
      obtain ⟨k, hk, rfl, ov', hE, hO, hR, hP⟩ := hrel
      clear x0 x1 x2 x3 HI0
      by_cases hlt : k < n3
      · have hnode := HN.out.keep fun b hb => hR.1.block b hb
        obtain ⟨pv', tv', kv', es', he', _, _, hk', hl', hall'⟩ := hnode.open_
        simp only [List.cons.injEq] at he'
        obtain ⟨_, rfl, rfl, rfl, _⟩ := he'
        obtain ⟨b, off, l', p1, q1, r1, p2, q2, r2, p3, q3, r3, rfl, hc3, hn, hmem, e0, e1, e2, e3⟩ := kid_at hk' hl' hall' k hlt
        have hbV := gr_al (gr_refl wr) (.cells #[.bool l', .slice p1 q1 r1, .slice p2 q2 r2, .slice p3 q3 r3] 26)
        have hEV := hE.rel_quiet hbV
        have kf0 : KF be wr.heap.size (eachV bw bo be) (.bool l') (.slice p1 q1 r1) (.slice p2 q2 r2) (.slice p3 q3 r3) (wr.alloc (.cells #[.bool l', .slice p1 q1 r1, .slice p2 q2 r2, .slice p3 q3 r3] 26)) := KF.of hEV.2.2.1 (heap_alloc_new wr _)
        have hPV := hP.below hbV (Nat.le_refl _)
        have hBr : B ≤ wr.heap.size := Nat.le_trans HB.out hR.1.size
        have hBV : B ≤ (wr.alloc (.cells #[.bool l', .slice p1 q1 r1, .slice p2 q2 r2, .slice p3 q3 r3] 26)).heap.size := Nat.le_trans hBr hbV.size
        have hOV := hO.later hbV
        have hRV : Rel B bo w ov (wr.alloc (.cells #[.bool l', .slice p1 q1 r1, .slice p2 q2 r2, .slice p3 q3 r3] 26)) ov' := hR.quiet hBr hbV
        have hnV := hn.keep fun b hb => hbV.block b (Nat.lt_of_lt_of_le hb hBr)
        have hcc : p.length = 0 ∨ 0 < p.length := by omega
        have hz := own_none hPV
        have hszV : (wr.alloc (.cells #[.bool l', .slice p1 q1 r1, .slice p2 q2 r2, .slice p3 q3 r3] 26)).heap.size = wr.heap.size + 1 := by simp
        have hnx := heap_alloc_new wr (.cells #[.bool l', .slice p1 q1 r1, .slice p2 q2 r2, .slice p3 q3 r3] 26)
        obtain ⟨j0, gi, gz0, gz1, gz2⟩ := info_parts info_int
        have GI := Lib.hid gi; have GZ0 := Lib.hid gz0; have GZ1 := Lib.hid gz1; have GZ2 := Lib.hid gz2
        have GE := Lib.hid hEV; have GP := Lib.hid hPV; have GB := Lib.hid hBV; have GO := Lib.hid hOV; have GR := Lib.hid hRV; have GN := Lib.hid hnV; have GM := Lib.hid hmem; have GZ := Lib.hid hz; have GNX := Lib.hid hnx
        have Gs1 : Hid (p.length + 1 ≤ maxLen) := by show _ ≤ _; unfold maxLen; omega
        have hs3 := sizeT_eq (.mk l ps xs ks)
        have hkk : k < (Tree.mk l ps xs ks).kids.length := by show k < ks.length; have := HL.out; omega
        have hes := each_sizes allT (.mk l ps xs ks) p (k : Int) k hkk
        have GS1 : Hid ((xss ++ headL allT (.mk l ps xs ks) p ++ pathsU allT ks p k).length + sizeT (ks.getD k default) ≤ 2000000) := by
          show _ ≤ _
          have h1 := hes.1
          rw [List.append_assoc, List.length_append]
          simp only [Tree.kids] at h1
          omega
        have GS2 : Hid ((p ++ [(k : Int)]).length + sizeT (ks.getD k default) ≤ 2000000) := by
          show _ ≤ _
          have h1 := hes.2
          simp only [Tree.kids] at h1
          omega
        have GNE : Hid (wr.heap.size ≠ bo) := by
          show _ ≠ _
          have := lt_of_block hE.2.1
          omega
        have Gs2 : Hid ((p.length + 1) * 8 ≤ 140737488351232) := by show _ ≤ _; omega
        have hp0 : p.length = 0 ∨ 0 < p.length := by omega
        have hsl : p.length ≤ 9000000 := by omega
        clear gi gz0 gz1 gz2 hE hEV hP hPV hO hOV hR hRV hn hnV hmem hz hbV hBV hnx hs3 hkk hes hcc hp0 hk' hl' hall' hnode
        go_wp2_with fail
        clear e0 e1 e2 e3
        have HSV := Lib.hid hszV
        clear hszV
        generalize wr.alloc _ = V at *
        have kf := kf0.drew
        clear kf0
        go_region_held3 (fun w' => w'.cell? ⟨be, 0, none⟩ = some (eachV bw bo be) ∧ w'.cell? ⟨wr.heap.size, 0, none⟩ = some (.bool l') ∧ w'.cell? ⟨wr.heap.size, 1, none⟩ = some (.slice p1 q1 r1) ∧ w'.cell? ⟨wr.heap.size, 2, none⟩ = some (.slice p2 q2 r2) ∧ w'.cell? ⟨wr.heap.size, 3, none⟩ = some (.slice p3 q3 r3))
          (first | exact kf | exact kf.alloc _)
          (first
            | (refine step_append_grows rfl (.tmp 32) (.tmp 34) 27 rfl 3 j0 (.int .i64 0) 1 8 Try.underlying27 GI.out GZ0.out GZ1.out GZ2.out rfl (by decide) ap p.length p.length (p.map (.int .i64)) (by simp [Act.eval]) (fun h => ⟨GZ.out h, GZ.out h⟩) (by simp) (own_src (row_same2 GP.out _)) ⟨V.heap.size, 0, none⟩ 1 1 [.int .i64 k] (by simp [Act.eval]) rfl (one_news _ _ _ _ rfl _ rfl) (one_i64 k) (by omega) Gs1.out (by have := Gs2.out; omega) ?_; intro v' w3 hown hgrow; obtain ⟨⟨ga, gc, rfl⟩, hown3, hbl⟩ := each_app (V := World.drew V) GB.out (gr_al (gr_refl _) _).size hown rfl Gs2.out hgrow; have kf := kf.later hbl; have hb3 := gr_tr (gr_dr (gr_refl V)) hbl; clear hown hgrow)
            | (go_at_call 106; refine (IH.out _ GM.out _ B bw bo be _ _ _ _ w3 (GN.out.keep fun b hb => hb3.block b (Nat.lt_of_lt_of_le hb GB.out)) (GE.out.rel_quiet hb3) (GO.out.later hb3) hown3 (Nat.le_trans GB.out hb3.size) GS1.out GS2.out).mono ?_; rintro e w4 ⟨rfl, ov4, he4, ho4, hr4⟩; have kf := KF.of he4.2.2.1 (hr4.block (GO.out.later hb3) (blk_below GNX.out hb3) GNE.out (by decide))))
        have HN4 : Hid (EachInv allT B bw bo be 69 ov w (.slice ap p.length cp) p (xss ++ headL allT (.mk l ps xs ks) p) ks (k + 1) w4) := by
          show EachInv _ _ _ _ _ _ _ _ _ _ _ _ _ _
          refine ⟨ov4, he4, ?_, (GR.out.quiet GB.out hb3).trans hr4, (GP.out.below hb3 (Nat.le_refl _)).rel hr4 (GO.out.later hb3) (GE.out.rel_quiet hb3).2.1⟩
          rw [pathsU_succ _ _ _ _ (by have := HL.out; omega), ← List.append_assoc]
          exact ho4
        clear he4 ho4 hr4 kf hown3 hbl hb3
        go_wp2_with fail
        go_roundw
        case rel => exact ⟨k + 1, by omega, by go_num, HN4.out⟩
        case measure => simp [intOf]; omega
      · have hkn : k = n3 := by omega
        subst hkn
        go_wp2_with fail
        go_end0
        refine ⟨rfl, ov', hE, ?_, hR⟩
        rw [pathsL_eq, ← List.append_assoc]
        show OwnL wr B ov' (xss ++ headL allT (.mk l ps xs ks) p ++ pathsU allT ks p ks.length)
        rw [← HL.out]
        exact hO
end Go.Proofs.Ytdcpoeaddhbjbaa
