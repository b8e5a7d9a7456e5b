/- Walk of redlineref05.Add. -/
import Derived.Test.YtdcpoeaddhbjbaaRAddL
import Derived.Maps.AppendAt
namespace Go.Proofs.Ytdcpoeaddhbjbaa
set_option maxRecDepth 100000
open Go.RowKit

/-- A path's parent, and its error, in one word. -/
theorem rpar {w : World} {v : Value} {p : List Int} (h : Ints w v p) {er : Int} (he : parentE p = er) : Calls Try.prog 97 #[v] w fun e w' => ∃ a n c, e = .returned (.tuple #[.slice a n c, .int .i64 er]) ∧ Ints w' (.slice a n c) (p.take (p.length - 1)) ∧ Below w.heap.size w w' := by
  refine (rparent_any p v w h).mono ?_
  rintro e w1 ⟨v', rfl, ho, hb⟩
  rw [he]
  obtain ⟨a, c, rfl⟩ := ho.ints.slice
  exact ⟨a, _, c, rfl, ho.ints, hb⟩

set_option maxHeartbeats 4000000 in
theorem radd_any (S S' : Nat → Prop) (t m : Tree) (cs ds : List Value) (p : List Int) (v : Value) (w : World) (hn : NodeAt S w cs t) (hp : Ints w v p) (hi : I64 p) (hm : NodeAt S' w ds m)
    (hsz : ∀ s, getT t (p.take (p.length - 1)) = some s → (s.kids.length + 1) * 80 ≤ 140737488351232) :
    Calls Try.prog 57 #[.agg (List.toArray cs), v, .agg (List.toArray ds)] w (Found w (addR t p m) (addE t p m)) := by
  obtain ⟨a1, n1, c1, a2, n2, c2, a3, n3, c3, rfl⟩ := hn.form
  obtain ⟨d1, e1, f1, d2, e2, f2, d3, e3, f3, rfl⟩ := hm.form
  obtain ⟨av, cv, rfl, hlc, hb8, hcells⟩ := hp.open_
  obtain ⟨hbW, hx1, hx2, hx3⟩ := three_boxesN w #[.bool t.leaf, .slice a1 n1 c1, .slice a2 n2 c2, .slice a3 n3 c3] #[.bool m.leaf, .slice d1 e1 f1, .slice d2 e2 f2, .slice d3 e3 f3] #[.bool false, .slice none 0 0, .slice none 0 0, .slice none 0 0] 26 26 26
  have HN := Lib.hid (hn.later hbW (Nat.le_refl _)); have HM := Lib.hid (hm.later hbW (Nat.le_refl _)); have HP := Lib.hid (hp.below hbW (Nat.le_refl _)); have HI := Lib.hid hi; have HB := Lib.hid hbW; have HX1 := Lib.hid hx1; have HX2 := Lib.hid hx2; have HX3 := Lib.hid hx3; have HCE := Lib.hid hcells; have HSZ := Lib.hid hsz
  clear hn hm hp hi hbW hx1 hx2 hx3 hcells hsz
  by_cases h0 : p.length = 0
  · have HE : Hid (addE t p m = 6) := Lib.hid (by rw [addE, if_pos h0])
    have HRN : Hid (addR t p m = none) := Lib.hid (by rw [addR, if_pos h0])
    rw [HE.out, HRN.out]
    have hPE : parentE p = 6 := by rw [parentE, if_pos h0]
    clear h0
    go_enter Try.func57, Try.ntmps57
    go_upto_region 1 with fail
    generalize World.alloc (World.alloc (World.alloc w _) _) _ = W at *
    have HC := Lib.hid (rpar HP.out hPE)
    clear hPE
    go_wp2_with fail
    refine HC.out.mono ?_
    rintro e w1 ⟨au, nu, cu, rfl, hu, hb1⟩
    obtain ⟨_, ⟨m0, m1, m2, m3⟩⟩ := four_facts (blk_below HX3.out hb1)
    obtain ⟨g1, g2⟩ := zero_res HB.out HX3.out (by omega) hb1
    have HG1 := Lib.hid g1; have HG2 := Lib.hid g2
    clear g1 g2 hb1 hu HC
    go_wp2_with fail
    have hfb := HG1.out; have hfw := HG2.out
    clear HG1 HG2
    simp only [set4, Nat.zero_add] at hfb hfw
    obtain ⟨⟨j0, j1, j2, j3⟩, _⟩ := four_facts hfb
    generalize World.setCell (World.setCell (World.setCell (World.setCell w1 _ _) _ _) _ _) _ _ = wf at *
    exact bodyPost_ret (v := .tuple #[zeroN, .int .i64 6]) (by simp [results, Try.results57, go_sem, j0, j1, j2, j3]) rfl ⟨hfw, .inl ⟨rfl, rfl⟩⟩
  · have hpos : 0 < p.length := by omega
    have HRS : Hid (addR t p m = chT t (p.take (p.length - 1)) (addK (lastI p) m)) := Lib.hid (by rw [addR, if_neg h0])
    have HES : Hid (addE t p m = chE t (p.take (p.length - 1)) (addK (lastI p) m)) := Lib.hid (by rw [addE, if_neg h0])
    rw [HES.out, HRS.out]
    have hPE : parentE p = 0 := by rw [parentE, if_neg h0]
    clear HRS HES h0
    go_enter Try.func57, Try.ntmps57
    go_upto_region 1 with fail
    generalize World.alloc (World.alloc (World.alloc w _) _) _ = W at *
    have HC := Lib.hid (rpar HP.out hPE)
    clear hPE
    go_wp2_with fail
    refine HC.out.mono ?_
    rintro e w1 ⟨au, nu, cu, rfl, hu, hb1⟩
    clear HC
    obtain ⟨⟨k0, k1, k2, k3⟩, _⟩ := four_facts (blk_below HX1.out hb1)
    have HC := Lib.hid (rget_any S t _ _ _ w1 (HN.out.later hb1 (Nat.le_refl _)) hu (HI.out.take _))
    have HU := Lib.hid hu; have HB1 := Lib.hid hb1
    clear hu hb1
    go_wp2_with fail
    refine HC.out.mono ?_
    rintro e w2 ⟨hb2, hr⟩
    clear HC k0 k1 k2 k3
    have HB2 := Lib.hid (gr_tr HB1.out hb2)
    have HU2 := Lib.hid (HU.out.below hb2 (Nat.le_refl _))
    clear hb2 HU
    rcases hr with ⟨hr, rfl⟩ | ⟨gs, s, hr, rfl, ht⟩
    · have HE : Hid (chE t (p.take (p.length - 1)) (addK (lastI p) m) = 5) := Lib.hid (by simp only [chE, hr])
      have HRN : Hid (chT t (p.take (p.length - 1)) (addK (lastI p) m) = none) := Lib.hid (by simp only [chT, hr])
      clear hr
      go_upto_region 5 with fail
      have hz : Below W.heap.size W (w2.alloc (.cells #[.bool false, .slice none 0 0, .slice none 0 0, .slice none 0 0] 26)) := gr_al HB2.out _
      generalize World.alloc w2 _ = V at *
      obtain ⟨_, ⟨m0, m1, m2, m3⟩⟩ := four_facts (blk_below HX3.out hz)
      obtain ⟨g1, g2⟩ := zero_res HB.out HX3.out (by omega) hz
      have HG1 := Lib.hid g1; have HG2 := Lib.hid g2
      clear g1 g2 hz
      go_wp2_with fail
      have hfb := HG1.out; have hfw := HG2.out
      clear HG1 HG2
      simp only [set4, Nat.zero_add] at hfb hfw
      obtain ⟨⟨j0, j1, j2, j3⟩, _⟩ := four_facts hfb
      generalize World.setCell (World.setCell (World.setCell (World.setCell V _ _) _ _) _ _) _ _ = wf at *
      exact bodyPost_ret (v := .tuple #[zeroN, .int .i64 5]) (by simp [results, Try.results57, go_sem, j0, j1, j2, j3]) rfl ⟨hfw, .inl ⟨HRN.out, by rw [HE.out]⟩⟩
    · obtain ⟨q1, r1, s1, q2, r2, s2, q3, s3, hgs⟩ := node_form3 ht.nodeAt
      subst hgs
      have HR := Lib.hid hr
      have HS := Lib.hid (HSZ.out s hr)
      have HNS := Lib.hid ht.nodeAt.there
      clear hr ht HSZ
      go_upto_region 5 with fail
      have hVB : Below w2.heap.size w2 (w2.alloc (.cells #[.bool s.leaf, .slice q1 r1 s1, .slice q2 r2 s2, .slice q3 s.kids.length s3] 26)) := gr_al (gr_refl w2) _
      have hVN := heap_alloc_new w2 (.cells #[.bool s.leaf, .slice q1 r1 s1, .slice q2 r2 s2, .slice q3 s.kids.length s3] 26)
      generalize w2.alloc _ = V at *
      obtain ⟨g, hg⟩ : ∃ g, w2.heap.size = g := ⟨_, rfl⟩
      have HGB := Lib.hid (show w.heap.size + 3 ≤ g by have := lt_of_block HX3.out; have := HB2.out.size; omega)
      have HGW := Lib.hid (show W.heap.size ≤ g by have := HB2.out.size; omega)
      have HVN := Lib.hid hVN
      obtain ⟨⟨k0, k1, k2, k3⟩, _⟩ := four_facts hVN
      have HW := Lib.hid (gr_tr HB2.out hVB)
      have HVB := Lib.hid hVB; have HGE := Lib.hid hg
      have HNV := Lib.hid ((HNS.out.later hVB (Nat.le_refl _)).weaken (T := fun b => b ≠ g) fun b hb => by omega)
      rw [hg] at k0 k1 k2 k3 HVN ⊢
      clear hVB hVN HB1 HB2 HNS hg
      obtain ⟨b, off, rfl, hcell⟩ := HCE.out hpos
      have hc1 := hcell (p.length - 1) (by omega)
      have hc2 : V.cell? ⟨b, off + (p.length - 1), none⟩ = some (.int .i64 (lastI p)) := ((gr_tr HB.out HW.out).cell (p := ⟨b, off + (p.length - 1), none⟩) (World.block_lt_of_cell? w _ hc1)).trans hc1
      have hw1 : IntKind.i64.wrap ((p.length : Int) - 1) = (p.length : Int) - 1 := IntWalk.i64_in _ (by omega)
      have hw2 : ((p.length : Int) - 1).toNat = p.length - 1 := by omega
      have hw3 : (0 : Int) ≤ (p.length : Int) - 1 := by omega
      have hw4 : (p.length : Int) - 1 < (p.length : Int) := by omega
      clear hcell hc1 HCE
      by_cases hlf : s.leaf = true
      · have HE : Hid (chE t (p.take (p.length - 1)) (addK (lastI p) m) = 7) := Lib.hid (by simp only [chE, HR.out, addK, hlf, if_true])
        have HRN : Hid (chT t (p.take (p.length - 1)) (addK (lastI p) m) = none) := Lib.hid (by simp only [chT, HR.out, addK, hlf, if_true]; rfl)
        rw [hlf] at k0
        have hz := HW.out
        obtain ⟨_, ⟨m0, m1, m2, m3⟩⟩ := four_facts (blk_below HX3.out hz)
        obtain ⟨g1, g2⟩ := zero_res HB.out HX3.out (by omega) hz
        have HG1 := Lib.hid g1; have HG2 := Lib.hid g2
        clear g1 g2 hz
        go_wp2_with fail
        have hfb := HG1.out; have hfw := HG2.out
        clear HG1 HG2
        simp only [set4, Nat.zero_add] at hfb hfw
        obtain ⟨⟨j0, j1, j2, j3⟩, _⟩ := four_facts hfb
        generalize World.setCell (World.setCell (World.setCell (World.setCell V _ _) _ _) _ _) _ _ = wf at *
        exact bodyPost_ret (v := .tuple #[zeroN, .int .i64 7]) (by simp [results, Try.results57, go_sem, j0, j1, j2, j3]) rfl ⟨hfw, .inl ⟨HRN.out, by rw [HE.out]⟩⟩
      · replace hlf : s.leaf = false := by simpa using hlf
        rw [hlf] at k0
        by_cases hor : lastI p < 0 ∨ (s.kids.length : Int) < lastI p
        · have HE : Hid (chE t (p.take (p.length - 1)) (addK (lastI p) m) = 8) := Lib.hid (by simp [chE, HR.out, addK, hlf, hor])
          have HRN : Hid (chT t (p.take (p.length - 1)) (addK (lastI p) m) = none) := Lib.hid (by simp [chT, HR.out, addK, hlf, hor])
          have hz := HW.out
          obtain ⟨_, ⟨m0, m1, m2, m3⟩⟩ := four_facts (blk_below HX3.out hz)
          obtain ⟨g1, g2⟩ := zero_res HB.out HX3.out (by omega) hz
          have HG1 := Lib.hid g1; have HG2 := Lib.hid g2
          clear g1 g2 hz
          have hor' : lastI p < 0 ∨ (0 ≤ lastI p ∧ (s.kids.length : Int) < lastI p) := by omega
          clear hor
          rcases hor' with hd | ⟨hd, hd2⟩
          · have hneg : decide (lastI p < 0) = true := by simpa using hd
            go_wp2_with fail
            have hfb := HG1.out; have hfw := HG2.out
            clear HG1 HG2
            simp only [set4, Nat.zero_add] at hfb hfw
            obtain ⟨⟨j0, j1, j2, j3⟩, _⟩ := four_facts hfb
            generalize World.setCell (World.setCell (World.setCell (World.setCell V _ _) _ _) _ _) _ _ = wf at *
            exact bodyPost_ret (v := .tuple #[zeroN, .int .i64 8]) (by simp [results, Try.results57, go_sem, j0, j1, j2, j3]) rfl ⟨hfw, .inl ⟨HRN.out, by rw [HE.out]⟩⟩
          · have hneg : decide (lastI p < 0) = false := by simpa using hd
            have hge : decide ((s.kids.length : Int) < lastI p) = true := by simpa using hd2
            go_wp2_with fail
            have hfb := HG1.out; have hfw := HG2.out
            clear HG1 HG2
            simp only [set4, Nat.zero_add] at hfb hfw
            obtain ⟨⟨j0, j1, j2, j3⟩, _⟩ := four_facts hfb
            generalize World.setCell (World.setCell (World.setCell (World.setCell V _ _) _ _) _ _) _ _ = wf at *
            exact bodyPost_ret (v := .tuple #[zeroN, .int .i64 8]) (by simp [results, Try.results57, go_sem, j0, j1, j2, j3]) rfl ⟨hfw, .inl ⟨HRN.out, by rw [HE.out]⟩⟩
        · have HA : Hid (addK (lastI p) m s = (0, .mk s.leaf s.props s.text (s.kids.insertIdx (lastI p).toNat m))) := Lib.hid (by rw [addK, if_neg (by simp [hlf]), if_neg hor])
          obtain ⟨k, hk⟩ : ∃ k : Nat, lastI p = (k : Int) := ⟨(lastI p).toNat, by omega⟩
          have HE : Hid (chE t (p.take (p.length - 1)) (addK (lastI p) m) = 0) := Lib.hid (by simp only [chE, HR.out, HA.out])
          have HRN : Hid (chT t (p.take (p.length - 1)) (addK (lastI p) m) = chT t (p.take (p.length - 1)) fun _ => (0, .mk s.leaf s.props s.text (s.kids.insertIdx k m))) := Lib.hid (by simp only [chT, HR.out, HA.out]; rw [hk, Int.toNat_natCast])
          rw [hk] at hc2 hor
          have hneg : decide ((k : Int) < 0) = false := by simp
          have hge : decide ((s.kids.length : Int) < (k : Int)) = false := by simp; omega
          have hkl : k ≤ s.kids.length := by omega
          clear hor HA hk
          rw [hlf] at HVN HNV
          obtain ⟨pv', tv', kv', es, hcs, hP, hT, hK, hle, hall⟩ := HNV.out.open_
          simp only [List.cons.injEq, and_true] at hcs
          obtain ⟨-, rfl, rfl, rfl⟩ := hcs
          have hs3 : s.kids.length ≤ s3 := by obtain ⟨a', c', he, hh, _⟩ := id hK; simp only [Value.slice.injEq] at he; obtain ⟨-, -, rfl⟩ := he; omega
          have hks3 : (k : Int) ≤ (s3 : Int) := by omega
          have hk0 : (0 : Int) ≤ (k : Int) := by omega
          have hone := node_cells_one hle hall
          obtain ⟨i0, hi, hz0, hz1, hz2⟩ := info_parts info_nodes
          have GI := Lib.hid hi; have GZ0 := Lib.hid hz0; have GZ1 := Lib.hid hz1; have GZ2 := Lib.hid hz2
          obtain ⟨s0, s1', s2', s3'⟩ := (hK.take hkl).src (by decide)
          have H1 := Lib.hid s1'; have H2 := Lib.hid s2'; have H3 := Lib.hid s3'
          have O1 := Lib.hid (show ∀ u ∈ (es.take k).flatten, u.oneCell' = true from fun u hu => hone u (by obtain ⟨e, he, hu'⟩ := List.mem_flatten.1 hu; exact List.mem_flatten.2 ⟨e, List.mem_of_mem_take he, hu'⟩))
          have O3 := Lib.hid (show ∀ u ∈ (es.drop k).flatten, u.oneCell' = true from fun u hu => hone u (by obtain ⟨e, he, hu'⟩ := List.mem_flatten.1 hu; exact List.mem_flatten.2 ⟨e, List.mem_of_mem_drop he, hu'⟩))
          have hS := HS.out
          have H5 : Hid (0 + k ≤ maxLen) := Lib.hid (by unfold maxLen; omega)
          have H6 : Hid ((0 + k) * 80 ≤ 140737488355328) := Lib.hid (by omega)
          have E4 : Hid (∀ x ∈ es, x.length = 4) := Lib.hid (by obtain ⟨_, _, _, _, _, _, h5, _⟩ := hK; exact h5)
          have HK := Lib.hid hK; have HL := Lib.hid hle; have HALL := Lib.hid hall
          clear hP hT hK hall hone hi hz0 hz1 hz2 s0 s1' s2' s3' hS
          go_wp2_with (at_builtin; refine wpList_append_any _ rfl _ _ 24 rfl V.heap.size 26 i0 (.agg #[.bool false, .slice none 0 0, .slice none 0 0, .slice none 0 0]) 4 80 Try.underlying24 GI.out GZ0.out GZ1.out GZ2.out rfl (by decide) _ 0 [] rfl (World.ownsRow_nil _ _ _ _) q3 k s3 (es.take k).flatten rfl H1.out H2.out H3.out O1.out H5.out H6.out (Nat.le_refl _) ?_)
          intro v1 w3 hown hgrow
          obtain ⟨o1, l1⟩ := own_app (W := V) (w0 := V) (v0 := .slice none 0 0) (n := 0) (m := k) (es := []) (fs := es.take k) (OwnSl.nil _ _ _ _ _) (gr_refl V) hgrow (by simpa using hown) rfl (by have := HL.out; simp; omega) (by have := HS.out; omega) (fun x hx => E4.out x (List.mem_of_mem_take hx))
          rw [List.nil_append] at o1
          clear hown hgrow H1 H2 H3 k0 k1 k2 k3 hw1 hw2 hw3 hw4
          obtain ⟨x1, y1, z1, rfl⟩ := (o1.sl (by decide)).slice3
          have HC := Lib.hid (rcopyN_any m _ S' w3 (HM.out.later (gr_tr HW.out l1) (Nat.le_refl _)))
          obtain ⟨⟨k0, k1, k2, k3⟩, _⟩ := four_facts (blk_below HX2.out (gr_tr HW.out l1))
          have L1 := Lib.hid l1; have P1 := Lib.hid o1
          clear l1 o1
          go_wp2_with fail
          refine HC.out.mono ?_
          intro e w4 hc
          obtain ⟨lm, b1, b2, b3, b4, b5, b6, b7, b8, b9, rfl, htm, hb4⟩ := copied_form hc
          clear hc HC k0 k1 k2 k3
          have HTM := Lib.hid htm.there.nodeAt; have L4 := Lib.hid (gr_tr L1.out hb4); have P4 := Lib.hid (P1.out.later hb4 (Nat.le_refl _))
          have N4 := Lib.hid (fun g hg => (P1.out.lt g hg).2)
          have Z34 := Lib.hid hb4.size
          have H5' : Hid ((es.take k).length + 1 ≤ maxLen) := Lib.hid (by have := HL.out; have := HS.out; unfold maxLen; simp; omega)
          have H6' : Hid (((es.take k).length + 1) * 80 ≤ 140737488355328) := Lib.hid (by have := HL.out; have := HS.out; simp; omega)
          clear htm hb4 P1
          go_wp2_with (at_builtin; refine wpList_append_own_at (P := Try.prog) _ rfl _ _ 24 rfl V.heap.size 26 i0 (.agg #[.bool false, .slice none 0 0, .slice none 0 0, .slice none 0 0]) 4 80 Try.underlying24 GI.out GZ0.out GZ1.out GZ2.out rfl (by decide) _ (es.take k).length (es.take k).flatten rfl (P4.out.1.alloc _) ⟨w4.heap.size, 0, none⟩ 1 1 [.bool lm, .slice b1 b2 b3, .slice b4 b5 b6, .slice b7 b8 b9] rfl rfl (four_news _ _ _ _ _ _ _ _ _ _ _ _) (four_one _ _ _ _ _ _ _ _ _ _) H5'.out H6'.out (by have := L4.out.size; simp; omega) ?_)
          intro v2 w5 hown hgrow hnn hat
          clear hnn
          have hlk : (es.take k).length = k := by have := HL.out; simp; omega
          obtain ⟨o2, l5⟩ := own_app (W := V) (n := k) (m := 1) (es := es.take k) (fs := [[Value.bool lm, .slice b1 b2 b3, .slice b4 b5 b6, .slice b7 b8 b9]]) (P4.out.later (gr_al (gr_refl w4) _) (Nat.le_refl _)) (gr_al L4.out _) hgrow hown hlk rfl (by have := HS.out; omega) (fun x hx => by rw [List.mem_singleton.1 hx]; rfl)
          have hk5 : ∀ b, (w3.heap.size ≤ b ∧ b < w4.heap.size) → w5.heap[b]? = w4.heap[b]? := fun b hb => by
            rw [hgrow.block b (by simp; omega) (fun h => by have := N4.out b h.symm; omega)]
            exact (gr_al (gr_refl w4) _).block b hb.2
          have HM5 := Lib.hid (HTM.out.keep hk5)
          have N5 : Hid (∀ b, v2.ownBlock = some b → ¬ (w3.heap.size ≤ b ∧ b < w4.heap.size)) := Lib.hid (fun b hb h => by
            rcases hat with h1 | h1
            · rw [h1] at hb; have := N4.out b hb; omega
            · rw [h1] at hb; have := Option.some.inj hb; omega)
          have N7 : Hid (V.heap.size ≤ w3.heap.size) := Lib.hid L1.out.size
          have N6 : Hid (w4.heap.size ≤ w5.heap.size) := Lib.hid (by have := hgrow.size; simp at this; omega)
          obtain ⟨x2, y2, z2, rfl⟩ := (o2.sl (by decide)).slice3
          obtain ⟨ln, hln⟩ : ∃ n, (es.take k ++ [[Value.bool lm, .slice b1 b2 b3, .slice b4 b5 b6, .slice b7 b8 b9]]).length = n := ⟨_, rfl⟩
          have HLN : Hid (ln = k + 1) := Lib.hid (by rw [← hln]; simp [hlk])
          have hO2 := o2.1
          rw [hln] at hO2
          have O2 := Lib.hid (show w5.ownsRow V.heap.size 26 4 (.slice x2 y2 z2) ln (es.take k ++ [[Value.bool lm, .slice b1 b2 b3, .slice b4 b5 b6, .slice b7 b8 b9]]).flatten ∧ True from ⟨hO2, trivial⟩)
          have HLEN := Lib.hid hln
          have P5 := Lib.hid o2; have L5 := Lib.hid l5
          clear hown hgrow hat hk5 o2 l5 hO2 hln hlk P4 HTM N4 L4 L1
          by_cases hks : k < s3
          · obtain ⟨bq, oq, rfl, hsl⟩ := ((HK.out.later L5.out (Nat.le_refl _)).tail hkl).1 hks
            have hks1 : ¬ s3 = k := by omega
            have hks2 : (k : Int) ≤ (s.kids.length : Int) := by omega
            have hks4 : k < s3 := hks
            obtain ⟨s0, s1', s2', s3'⟩ := hsl.src (by decide)
            have H1 := Lib.hid s1'; have H2 := Lib.hid s2'; have H3 := Lib.hid s3'; have H0 := Lib.hid s0
            obtain ⟨⟨k0, k1, k2, k3⟩, ⟨m0, m1, m2, m3⟩⟩ := four_facts (blk_below HVN.out L5.out)
            have H5'' : Hid (ln + (s.kids.length - k) ≤ maxLen) := Lib.hid (by have := HS.out; have := HLN.out; unfold maxLen; omega)
            have H6'' : Hid ((ln + (s.kids.length - k)) * 80 ≤ 140737488355328) := Lib.hid (by have := HS.out; have := HLN.out; omega)
            clear s0 s1' s2' s3' hsl k0 k1 k2 m0 m1 m2 m3
            go_wp2_with (at_builtin; refine wpList_append_any _ rfl _ _ 24 rfl V.heap.size 26 i0 (.agg #[.bool false, .slice none 0 0, .slice none 0 0, .slice none 0 0]) 4 80 Try.underlying24 GI.out GZ0.out GZ1.out GZ2.out rfl (by decide) _ ln _ rfl O2.out.1 (some ⟨bq, oq + k * 4, none⟩) (s.kids.length - k) (s3 - k) (es.drop k).flatten rfl H1.out H2.out H3.out O3.out H5''.out H6''.out L5.out.size ?_)
            intro v3 w6 hown hgrow
            obtain ⟨o3, l6⟩ := own_app (W := V) (n := ln) (m := s.kids.length - k) (es := es.take k ++ [[Value.bool lm, .slice b1 b2 b3, .slice b4 b5 b6, .slice b7 b8 b9]]) (fs := es.drop k) P5.out L5.out hgrow (by simpa using hown) HLEN.out H0.out (by have := HS.out; have := HLN.out; omega) (fun x hx => E4.out x (List.mem_of_mem_drop hx))
            rw [ins_eq es k _ (by have := HL.out; omega)] at o3
            have hm6 := HM5.out.keep (w' := w6) fun b hb => hgrow.block b (by have := N6.out; omega) (fun h => N5.out b h.symm hb)
            clear hown hgrow H0 H1 H2 H3 H5'' H6'' k3
            obtain ⟨x3, y3, z3, rfl⟩ := (o3.sl (by decide)).slice3
            have hgl := lt_of_block HVN.out
            have hg6 := blk_below HVN.out l6
            have hN7 := radd_node HNV.out HL.out hkl HALL.out hm6 (fun b hb => by have := N7.out; omega) o3 l6 hgl
            have hW7 : Below W.heap.size W (w6.setCell ⟨g, 3, none⟩ (.slice x3 y3 z3)) := (gr_tr HW.out l6).setCell (p := ⟨g, 3, none⟩) HGW.out _
            have HC := Lib.hid (rput_any (fun b => b ≠ g) (.mk s.leaf s.props s.text (s.kids.insertIdx k m)) (p.take (p.length - 1)) S t _ _ _ _ (HN.out.later hW7 (Nat.le_refl _)) (HU2.out.below ((gr_tr HVB.out l6).setCell (p := ⟨g, 3, none⟩) (Nat.le_of_eq HGE.out) _) (Nat.le_refl _)) (HI.out.take _) hN7)
            obtain ⟨⟨k0, k1, k2, k3⟩, ⟨m0, m1, m2, m3⟩⟩ := four_facts hg6
            have G7 := Lib.hid (set3_block hg6 (.slice x3 y3 z3)); have W7 := Lib.hid hW7
            clear o3 l6 hm6 hgl hg6 hN7 hW7 k0 k1 k2 m0 m1 m2
            go_upto_region 16 with fail
            generalize w6.setCell _ _ = w7 at *
            clear k3 m3
            obtain ⟨⟨k0, k1, k2, k3⟩, _⟩ := four_facts G7.out
            obtain ⟨⟨k0', k1', k2', k3'⟩, _⟩ := four_facts (blk_below HX1.out W7.out)
            go_wp2_with fail
            refine HC.out.mono ?_
            rintro e w8 ⟨hb8, hr⟩
            rcases hr with ⟨hr, -⟩ | ⟨cs', s', hr, rfl, ht'⟩
            · simp [chT, HR.out] at hr
            · obtain ⟨u1, u2, u3, u4, u5, u6, u7, u8, u9, hcs'⟩ := ht'.nodeAt.form
              subst hcs'
              have HR' := Lib.hid (HRN.out.trans hr)
              have hX8 := blk_below HX3.out (gr_tr W7.out hb8)
              obtain ⟨g1, g2, g3⟩ := store_res (gr_tr HB.out W7.out) (blk_below HX3.out W7.out) (by omega) hb8 ht'
              have HG1 := Lib.hid g1; have HG2 := Lib.hid g2; have HG3 := Lib.hid g3
              generalize s'.leaf = l' at *
              clear hr ht' g1 g2 g3 hb8 HC k0 k1 k2 k3 k0' k1' k2' k3'
              obtain ⟨_, ⟨m0, m1, m2, m3⟩⟩ := four_facts hX8
              clear hX8
              go_wp2_with fail
              have hfb := HG1.out; have hfw := HG2.out; have htr := HG3.out
              clear HG1 HG2 HG3
              simp only [set4, Nat.zero_add] at hfb hfw htr
              obtain ⟨⟨j0, j1, j2, j3⟩, _⟩ := four_facts hfb
              generalize World.setCell (World.setCell (World.setCell (World.setCell w8 _ _) _ _) _ _) _ _ = wf at *
              exact bodyPost_ret (v := .tuple #[.agg #[.bool l', .slice u1 u2 u3, .slice u4 u5 u6, .slice u7 u8 u9], .int .i64 0]) (by simp [results, Try.results57, go_sem, j0, j1, j2, j3]) rfl ⟨hfw, .inr ⟨_, _, HR'.out, rfl, htr⟩⟩
          · obtain ⟨hnk, hsl⟩ := ((HK.out.later L5.out (Nat.le_refl _)).tail hkl).2 (by omega)
            obtain rfl : s3 = k := by omega
            have hks2 : (s3 : Int) ≤ (s.kids.length : Int) := by omega
            obtain ⟨s0, s1', s2', s3'⟩ := hsl.src (by decide)
            have H1 := Lib.hid s1'; have H2 := Lib.hid s2'; have H3 := Lib.hid s3'; have H0 := Lib.hid s0
            obtain ⟨⟨k0, k1, k2, k3⟩, ⟨m0, m1, m2, m3⟩⟩ := four_facts (blk_below HVN.out L5.out)
            have H5'' : Hid (ln + (0) ≤ maxLen) := Lib.hid (by have := HS.out; have := HLN.out; unfold maxLen; omega)
            have H6'' : Hid ((ln + (0)) * 80 ≤ 140737488355328) := Lib.hid (by have := HS.out; have := HLN.out; omega)
            clear s0 s1' s2' s3' hsl k0 k1 k2 m0 m1 m2 m3
            go_wp2_with (at_builtin; refine wpList_append_any _ rfl _ _ 24 rfl V.heap.size 26 i0 (.agg #[.bool false, .slice none 0 0, .slice none 0 0, .slice none 0 0]) 4 80 Try.underlying24 GI.out GZ0.out GZ1.out GZ2.out rfl (by decide) _ ln _ rfl O2.out.1 q3 0 0 (es.drop s3).flatten rfl H1.out H2.out H3.out O3.out H5''.out H6''.out L5.out.size ?_)
            intro v3 w6 hown hgrow
            obtain ⟨o3, l6⟩ := own_app (W := V) (n := ln) (m := 0) (es := es.take s3 ++ [[Value.bool lm, .slice b1 b2 b3, .slice b4 b5 b6, .slice b7 b8 b9]]) (fs := es.drop s3) P5.out L5.out hgrow (by simpa using hown) HLEN.out H0.out (by have := HS.out; have := HLN.out; omega) (fun x hx => E4.out x (List.mem_of_mem_drop hx))
            rw [ins_eq es s3 _ (by have := HL.out; omega)] at o3
            have hm6 := HM5.out.keep (w' := w6) fun b hb => hgrow.block b (by have := N6.out; omega) (fun h => N5.out b h.symm hb)
            clear hown hgrow H0 H1 H2 H3 H5'' H6'' k3
            obtain ⟨x3, y3, z3, rfl⟩ := (o3.sl (by decide)).slice3
            have hgl := lt_of_block HVN.out
            have hg6 := blk_below HVN.out l6
            have hN7 := radd_node HNV.out HL.out hkl HALL.out hm6 (fun b hb => by have := N7.out; omega) o3 l6 hgl
            have hW7 : Below W.heap.size W (w6.setCell ⟨g, 3, none⟩ (.slice x3 y3 z3)) := (gr_tr HW.out l6).setCell (p := ⟨g, 3, none⟩) HGW.out _
            have HC := Lib.hid (rput_any (fun b => b ≠ g) (.mk s.leaf s.props s.text (s.kids.insertIdx s3 m)) (p.take (p.length - 1)) S t _ _ _ _ (HN.out.later hW7 (Nat.le_refl _)) (HU2.out.below ((gr_tr HVB.out l6).setCell (p := ⟨g, 3, none⟩) (Nat.le_of_eq HGE.out) _) (Nat.le_refl _)) (HI.out.take _) hN7)
            obtain ⟨⟨k0, k1, k2, k3⟩, ⟨m0, m1, m2, m3⟩⟩ := four_facts hg6
            have G7 := Lib.hid (set3_block hg6 (.slice x3 y3 z3)); have W7 := Lib.hid hW7
            clear o3 l6 hm6 hgl hg6 hN7 hW7 k0 k1 k2 m0 m1 m2
            go_upto_region 16 with fail
            generalize w6.setCell _ _ = w7 at *
            clear k3 m3
            obtain ⟨⟨k0, k1, k2, k3⟩, _⟩ := four_facts G7.out
            obtain ⟨⟨k0', k1', k2', k3'⟩, _⟩ := four_facts (blk_below HX1.out W7.out)
            go_wp2_with fail
            refine HC.out.mono ?_
            rintro e w8 ⟨hb8, hr⟩
            rcases hr with ⟨hr, -⟩ | ⟨cs', s', hr, rfl, ht'⟩
            · simp [chT, HR.out] at hr
            · obtain ⟨u1, u2, u3, u4, u5, u6, u7, u8, u9, hcs'⟩ := ht'.nodeAt.form
              subst hcs'
              have HR' := Lib.hid (HRN.out.trans hr)
              have hX8 := blk_below HX3.out (gr_tr W7.out hb8)
              obtain ⟨g1, g2, g3⟩ := store_res (gr_tr HB.out W7.out) (blk_below HX3.out W7.out) (by omega) hb8 ht'
              have HG1 := Lib.hid g1; have HG2 := Lib.hid g2; have HG3 := Lib.hid g3
              generalize s'.leaf = l' at *
              clear hr ht' g1 g2 g3 hb8 HC k0 k1 k2 k3 k0' k1' k2' k3'
              obtain ⟨_, ⟨m0, m1, m2, m3⟩⟩ := four_facts hX8
              clear hX8
              go_wp2_with fail
              have hfb := HG1.out; have hfw := HG2.out; have htr := HG3.out
              clear HG1 HG2 HG3
              simp only [set4, Nat.zero_add] at hfb hfw htr
              obtain ⟨⟨j0, j1, j2, j3⟩, _⟩ := four_facts hfb
              generalize World.setCell (World.setCell (World.setCell (World.setCell w8 _ _) _ _) _ _) _ _ = wf at *
              exact bodyPost_ret (v := .tuple #[.agg #[.bool l', .slice u1 u2 u3, .slice u4 u5 u6, .slice u7 u8 u9], .int .i64 0]) (by simp [results, Try.results57, go_sem, j0, j1, j2, j3]) rfl ⟨hfw, .inr ⟨_, _, HR'.out, rfl, htr⟩⟩
end Go.Proofs.Ytdcpoeaddhbjbaa
