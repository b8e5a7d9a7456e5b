/- Walk of redlineref05.paths. -/
import Derived.Test.YtdcpoeaddhbjbaaRPathsM
import Derived.Test.YtdcpoeaddhbjbaaRCopy
import Derived.Deep.RegionLawGrows
import Derived.Deep.AppendLies
import Derived.Deep.RegionHeld3
import Derived.Deep.DeepCutAuto
namespace Go.Proofs.Ytdcpoeaddhbjbaa
set_option maxRecDepth 100000
open Go.RowKit

/-- Which paths are listed: the leaves' alone, or all. -/
def lvT (lv : Bool) (t : Tree) : Bool := t.leaf || !lv

set_option maxHeartbeats 4000000 in
theorem rpaths_any (lv : Bool) : ∀ (t : Tree) (cs : List Value) (S : Nat → Prop) (B : Nat) (p : List Int) (pv : Value) (w : World), NodeAt S w cs t → Own w B pv p → B ≤ w.heap.size → p.length + sizeT t ≤ 2000000 →
    Calls Try.prog 70 #[.agg (List.toArray cs), pv, .bool lv] w fun e w' => ∃ v', e = .returned v' ∧ OwnR w' w.heap.size B v' (pathsL (lvT lv) t p) ∧ Below w.heap.size w w' := by
  refine Tree.ind fun l ps xs ks ih => ?_
  intro cs S B p pv w hn hp hB hs
  have IH := Lib.hid ih
  clear ih
  obtain ⟨ap, cp, rfl⟩ := hp.ints.slice
  obtain ⟨a1, n1, c1, a2, n2, c2, a3, n3, c3, hform⟩ := hn.form
  replace hform : cs = [.bool l, .slice a1 n1 c1, .slice a2 n2 c2, .slice a3 n3 c3] := hform
  subst hform
  have hbW := gr_al (gr_refl w) (.cells #[.bool l, .slice a1 n1 c1, .slice a2 n2 c2, .slice a3 n3 c3] 26)
  have hx := heap_alloc_new w (.cells #[.bool l, .slice a1 n1 c1, .slice a2 n2 c2, .slice a3 n3 c3] 26)
  have HN := Lib.hid (hn.boxed hbW); have HP := Lib.hid (hp.below hbW (Nat.le_refl _)); have HBW := Lib.hid hbW; have HB := Lib.hid hB; have HX := Lib.hid hx; have HS := Lib.hid hs
  clear hn hp hbW hx hB hs
  obtain ⟨T, hT⟩ : ∃ T, Tree.mk l ps xs ks = T := ⟨_, rfl⟩
  rw [hT] at HN HS ⊢
  have HT := Lib.hid hT
  have HLV : Hid (lvT lv T = (l || !lv)) := Lib.hid (by rw [← hT]; rfl)
  clear hT
  go_enter Try.func70, Try.ntmps70
  go_upto_region 1 with fail
  generalize w.alloc _ = W at *
  obtain ⟨⟨k0, k1, k2, k3⟩, _⟩ := four_facts HX.out
  obtain ⟨i0, hi, hz0, hz1, hz2⟩ := info_parts info_ints
  have HI := Lib.hid hi; have HZ0 := Lib.hid hz0; have HZ1 := Lib.hid hz1; have HZ2 := Lib.hid hz2
  clear hi hz0 hz1 hz2
  cases l
  all_goals
    go_upto_if 15 with fail
    go_cut [7] (fun v wx => Hid (OwnR wx W.heap.size B v (headL (lvT lv) T p)) ∧ Hid (Below W.heap.size W wx))
    case first =>
      cases lv
      all_goals first
        | (go_wp2_with (at_builtin; refine wpList_append_any _ rfl _ _ 38 rfl W.heap.size 27 i0 (.slice none 0 0) 1 24 Try.underlying38 HI.out HZ0.out HZ1.out HZ2.out rfl (by decide) _ 0 [] rfl (World.ownsRow_nil _ _ _ _) (some ⟨_, 0, none⟩) 1 1 [.slice ap p.length cp] rfl rfl (fun h => nomatch h) (one_news _ _ _ _ rfl) (one_sl _ _ _) (by decide) (by decide) (gr_al (gr_refl W) _).size ?_)
           intro v' w3 hown hgrow
           go_wp2_with fail
           go_meet
           refine ⟨Lib.hid ⟨[.slice ap p.length cp], ?_, fun j hj => ?_⟩, Lib.hid ((gr_al (gr_refl W) _).grown hgrow (gr_al (gr_refl W) _).size (fun g hg => by cases hg))⟩
           · simpa [headL, HLV.out] using hown
           · have hj0 : j = 0 := by
               simp [headL, HLV.out] at hj
               omega
             subst hj0
             have : Own w3 B (.slice ap p.length cp) p := ⟨row_keep (HP.out.1.alloc _) fun b hb => hgrow.block b ((HP.out.1.alloc _).lt b hb).2 (fun h => by cases h), HP.out.2⟩
             simpa [headL, HLV.out] using this)
        | (go_wp2_with fail
           go_meet
           exact ⟨Lib.hid (by simpa [headL, HLV.out] using OwnR.nil W W.heap.size B), Lib.hid (gr_refl W)⟩)
    case rest =>
      obtain ⟨HO, HL⟩ := hcut
      obtain ⟨pv', tv', kv', es', he', _, _, hk', hl', hall'⟩ := (HN.out.boxed HL.out).open_
      simp only [List.cons.injEq] at he'
      obtain ⟨-, rfl, rfl, rfl, -⟩ := he'
      clear k0 k1 k2 k3
      obtain ⟨⟨k0, k1, k2, k3⟩, _⟩ := four_facts (blk_below HX.out HL.out)
      have hkn : n3 = T.kids.length := by
        obtain ⟨a', c', h2⟩ := hk'.slice
        simp only [Value.slice.injEq] at h2
        omega
      have hn3 : n3 ≤ 2000000 := by have h1 := HS.out; have h2 := sizeT_eq T; have h3 := sizeK_len T.kids; omega
      have HKN := Lib.hid hkn
      clear hk' hl' hall' hkn
      have HI0 : Hid (OwnR wc W.heap.size B u7 (headL (lvT lv) T p ++ pathsU (lvT lv) T.kids p 0)) := Lib.hid (by rw [pathsU_zero, List.append_nil]; exact HO.out)
      clear HO
      go_wp2_with fail
      go_loopw [7, 23] (fun v i wr => ∃ k : Nat, k ≤ n3 ∧ i = .int .i64 k ∧ Hid (OwnR wr W.heap.size B v (headL (lvT lv) T p ++ pathsU (lvT lv) T.kids p k)) ∧ Hid (Below W.heap.size W wr)) (fun _ i _ => n3 - (intOf i).toNat)
      case atStart => exact ⟨0, Nat.zero_le _, rfl, HI0, HL⟩
      case round =>
        obtain ⟨k, hk, rfl, HR, HW⟩ := hrel
        clear k0 k1 k2 k3
        by_cases hlt : k < n3
        · have hnode := HN.out.boxed HW.out
          obtain ⟨pv', tv', kv', es', he', _, _, hk', hl', hall'⟩ := hnode.open_
          simp only [List.cons.injEq] at he'
          obtain ⟨-, rfl, rfl, rfl, -⟩ := he'
          obtain ⟨b, off, l', p1, q1, r1, p2, q2, r2, p3, q3, r3, rfl, hc3, hn, hmem, e0, e1, e2, e3⟩ := kid_at hk' hl' hall' k hlt
          have hbV := gr_al (gr_refl wr) (.cells #[.bool l', .slice p1 q1 r1, .slice p2 q2 r2, .slice p3 q3 r3] 26)
          have HNX := Lib.hid (heap_alloc_new wr (.cells #[.bool l', .slice p1 q1 r1, .slice p2 q2 r2, .slice p3 q3 r3] 26))
          have HBV := Lib.hid hbV; have HNV := Lib.hid (hn.boxed hbV); have HM : Hid (T.kids.getD k default ∈ ks) := Lib.hid (by have h := hmem; rw [← HT.out] at h ⊢; exact h)
          have HSZ : Hid ((p ++ [(k : Int)]).length + sizeT (T.kids.getD k default) ≤ 2000000) := Lib.hid (by have h1 := (each_sizes (lvT lv) T p (k : Int) k (by have := HKN.out; omega)).2; have h2 := HS.out; omega)
          have HBB : Hid (B ≤ wr.heap.size + 1) := Lib.hid (by have := HB.out; have := HBW.out.size; have := HW.out.size; omega)
          have hVs : (wr.alloc (.cells #[.bool l', .slice p1 q1 r1, .slice p2 q2 r2, .slice p3 q3 r3] 26)).heap.size = wr.heap.size + 1 := by simp
          have HVS := Lib.hid hVs
          clear hVs
          have HPV := Lib.hid ((HP.out.below HW.out (Nat.le_refl _)).below hbV (Nat.le_refl _))
          obtain ⟨vs, hr1, hr2⟩ := HR.out.later hbV
          have R1 := Lib.hid hr1; have R2 := Lib.hid hr2
          have HXL : Hid ((headL (lvT lv) T p ++ pathsU (lvT lv) T.kids p k).length + sizeT (T.kids.getD k default) ≤ 2000000) := Lib.hid (by have h1 := (each_sizes (lvT lv) T p (k : Int) k (by have := HKN.out; omega)).1; have h2 := HS.out; omega)
          have HYL := Lib.hid (pathsL_len (lvT lv) (T.kids.getD k default) (p ++ [(k : Int)]))
          obtain ⟨XS, hXS⟩ : ∃ XS, headL (lvT lv) T p ++ pathsU (lvT lv) T.kids p k = XS := ⟨_, rfl⟩
          obtain ⟨YS, hYS⟩ : ∃ YS, pathsL (lvT lv) (T.kids.getD k default) (p ++ [(k : Int)]) = YS := ⟨_, rfl⟩
          have HNEXT : Hid (headL (lvT lv) T p ++ pathsU (lvT lv) T.kids p (k + 1) = XS ++ YS) := Lib.hid (by rw [pathsU_succ _ _ _ _ (by have := HKN.out; omega), ← List.append_assoc, hXS, hYS])
          rw [hXS] at R1 R2 HXL
          rw [hYS] at HYL
          have HXS := Lib.hid hXS; have HYS := Lib.hid hYS
          clear hr1 hr2 hXS hYS
          have HPOS := Lib.hid (sizeT_pos (T.kids.getD k default))
          have HBS : Hid (W.heap.size ≤ wr.heap.size) := Lib.hid HW.out.size
          clear hnode hk' hl' hall' hn hmem hbV
          go_upto_region 7 with fail
          generalize wr.alloc _ = V at *
          have kf : NF wr.heap.size (.bool l') (.slice p1 q1 r1) (.slice p2 q2 r2) (.slice p3 q3 r3) V.drew := (NF.of HNX.out).later (gr_dr (gr_refl V))
          have hp8 := HPV.out.2
          have hps := HS.out
          go_region_held3 (fun w' => w'.cell? ⟨wr.heap.size, 0, none⟩ = some (.bool l') ∧ w'.cell? ⟨wr.heap.size, 1, none⟩ = some (.slice p1 q1 r1) ∧ w'.cell? ⟨wr.heap.size, 2, none⟩ = some (.slice p2 q2 r2) ∧ w'.cell? ⟨wr.heap.size, 3, none⟩ = some (.slice p3 q3 r3))
            (first | exact kf | exact kf.later (gr_al (gr_refl _) _))
            (first
              | (go_at_call 107; refine (rwith_any p [(k : Int)] _ _ _ ((HPV.out.ints).below (gr_al (gr_dr (gr_refl V)) _) (Nat.le_refl _)) (lit_ints (World.drew V) #[.int .i64 k] 1 V.heap.size [(k : Int)] rfl rfl rfl (by simp)) (by simp; omega)).mono ?_; rintro e w3 ⟨v3, rfl, ho3, hb3⟩; replace hb3 := gr_tr (gr_al (gr_dr (gr_refl V)) _) hb3; have kf := (NF.of HNX.out).later hb3; obtain ⟨m3a, m3n, m3c, rfl⟩ := ho3.ints.slice3)
              | (go_at_call 70; refine (IH.out _ HM.out _ S B _ _ w3 (HNV.out.boxed hb3) (ho3.mono (by have := HBB.out; have := HVS.out; simp; omega)) (by have := HBB.out; have := HVS.out; have := hb3.size; omega) HSZ.out).mono ?_; rintro e w4 ⟨v4, rfl, ho4, hb4⟩; rw [HYS.out] at ho4; have kf := kf.later hb4; obtain ⟨us, k1, k2⟩ := ho4; obtain ⟨m4a, m4n, m4c, hv4⟩ := row_slice k1; subst hv4; obtain ⟨z1, z2, z3⟩ := row_src k1; have hrow4 := row_below R1.out (gr_tr hb3 hb4) (Nat.le_refl _))
              | (refine step_append_any (by rfl) _ _ 38 (by rfl) W.heap.size 27 i0 (.slice none 0 0) 1 24 Try.underlying38 HI.out HZ0.out HZ1.out HZ2.out rfl (by decide) _ XS.length vs (by rfl) hrow4 m4a m4n m4c us (by rfl) (by rw [k1.1, z1]) z3 z2 (row_one k1 k2) (by have := HXL.out; have := HYL.out; unfold maxLen; omega) (by have := HXL.out; have := HYL.out; omega) (by have := HBS.out; have := HVS.out; have := hb3.size; have := hb4.size; omega) ?_; intro v5 w5 hown5 hgrow5; have hb4x := blk_below HNX.out (gr_tr hb3 hb4); have hb5x := (hgrow5.block _ (lt_of_block hb4x) (fun h => row_not hrow4 hb4x (by decide) h.symm)).trans hb4x; have kf := NF.of hb5x))
          all_goals
            have HOR := Lib.hid (OwnR.app (w := w4) (R' := w3.heap.size) hrow4 (fun j hj => (R2.out j hj).below (gr_tr hb3 hb4) (Nat.le_refl _)) k1 k2 rfl z1.symm hown5 hgrow5)
            have HWW := Lib.hid ((gr_tr (gr_tr HW.out HBV.out) (gr_tr hb3 hb4)).grown hgrow5 (by have := HBS.out; have := HVS.out; have := hb3.size; have := hb4.size; omega) (fun g hg => (hrow4.lt g hg).1))
            clear hrow4 k1 k2 z1 z2 z3 hown5 hgrow5 hb4x hb5x kf hb3 hb4 ho3
            go_wp2_with fail
            go_roundw
            case rel => exact ⟨k + 1, by omega, by go_num, Lib.hid (by rw [HNEXT.out]; exact HOR.out), HWW⟩
            case measure => simp [intOf]; omega
        · have hke : k = n3 := by omega
          subst hke
          go_wp2_with fail
          go_ret
          obtain ⟨vs, r1, r2⟩ := HR.out
          refine ⟨_, rfl, ?_, gr_tr HBW.out HW.out⟩
          rw [pathsL_eq, ← HKN.out]
          exact ⟨vs, row_mono r1 HBW.out.size, r2⟩
end Go.Proofs.Ytdcpoeaddhbjbaa
