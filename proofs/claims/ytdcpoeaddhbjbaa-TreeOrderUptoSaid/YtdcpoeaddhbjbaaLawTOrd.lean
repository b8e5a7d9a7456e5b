/- The walk of the law TreeOrder. -/
import Derived.Test.YtdcpoeaddhbjbaaSizesB
import Derived.Test.YtdcpoeaddhbjbaaOrdL
import Derived.Test.YtdcpoeaddhbjbaaDelP
import Derived.Test.YtdcpoeaddhbjbaaLive5
import Derived.IntWalk
import Derived.Deep.DeepCutAuto
namespace Go.Proofs.Ytdcpoeaddhbjbaa
set_option maxRecDepth 100000
open Go.RowKit

/-- A list of paths. -/
def PathsV (w : World) (v : Value) (L : List (List Int)) : Prop := OwnL w 0 v L
theorem PathsV.later {w w' : World} {v : Value} {L : List (List Int)} (h : PathsV w v L) (hb : Below w.heap.size w w') : PathsV w' v L := OwnL.later h hb
theorem PathsV.form {w : World} {v : Value} {L : List (List Int)} (h : PathsV w v L) : ∃ a c, v = .slice a L.length c := by
  obtain ⟨vs, h1, _⟩ := h
  rcases h1.2 with ⟨rfl, h0⟩ | ⟨g, cap, cur, rfl, _⟩
  · exact ⟨none, 0, by rw [h0]⟩
  · exact ⟨_, _, rfl⟩
theorem PathsV.elem {w : World} {a : Option Addr} {n c : Nat} {L : List (List Int)} (h : PathsV w (.slice a n c) L) (j : Nat) (hj : j < L.length) :
    ∃ g ua uc, a = some ⟨g, 0, none⟩ ∧ w.cell? ⟨g, j, none⟩ = some (.slice ua (L.getD j []).length uc) ∧ Ints w (.slice ua (L.getD j []).length uc) (L.getD j []) := by
  obtain ⟨g, cap, u, hv, _, _, hc, _, hu, _⟩ := OwnL.elem h j hj
  simp only [Value.slice.injEq] at hv
  obtain ⟨ua, uc, rfl⟩ := hu.ints.slice
  exact ⟨g, ua, uc, hv.1, hc, hu.ints⟩
theorem textL' {W : World} {g : Nat} {x0 x1 x2 x3 : Value} {t : Tree} {n : Nat} (h : BoxN W g x0 x1 x2 x3 t) (hs : szT t ≤ 4000000) (hn : (textT t).length = n) : ∀ w', Below W.heap.size W w' → Calls Try.prog 51 #[.agg #[x0, x1, x2, x3]] w' fun e w2 => ∃ a c, e = .returned (.slice a n c) ∧ Below w'.heap.size w' w2 := fun w' hb => by
  rw [← hn]
  exact text_any Any t _ w' (h.later hb).2 hs
theorem cmp_paths {w : World} {v v' : Value} {p q : List Int} {n : Int} (h : Ints w v p) (h2 : Ints w v' q) (hn : cmpI p q = n) : Calls Try.prog 50 #[v, v'] w fun e w' => e = .returned (.int .i64 n) ∧ w = w' := by
  rw [← hn]
  exact compare_any p q v v' w h h2

set_option maxHeartbeats 8000000 in
set_option maxRecDepth 1000000 in
theorem law_tord (t : Tree) (q : List Int) (v0 v1 : Value) (w : World) (h0 : NodeV w v0 t ∧ szT t ≤ 1048576) (h1 : Ints w v1 q ∧ I64 q) :
    Calls Try.prog 11 #[v0, v1] w (Yes w) := by
  obtain ⟨⟨cs, rfl, hn⟩, hsz⟩ := h0
  obtain ⟨a1, n1, c1, a2, n2, c2, a3, n3, c3, rfl⟩ := hn.form
  obtain ⟨qa, qc, rfl⟩ := h1.1.slice
  have hq8 := h1.1.len
  have hs5 : sizeT t ≤ 1500000 := by have := sz_ge t; omega
  have hst := size_text t
  have hbW := gr_al (gr_refl w) (.cells #[.bool t.leaf, .slice a1 n1 c1, .slice a2 n2 c2, .slice a3 n3 c3] 26)
  have BN : BoxN _ _ _ _ _ _ t := BoxN.new (hn.weaken fun _ _ => trivial)
  have QQ : PathP _ _ q := PathP.later h1 hbW
  have LB := Lib.hid hbW
  have HS5 := Lib.hid hs5; have HST := Lib.hid hst; have HSZ := Lib.hid hsz
  clear hn h1 hbW hs5 hst hsz
  go_enter Try.func11, Try.ntmps11
  go_upto_region 1 with fail
  generalize World.alloc w _ = W1 at *
  go_wp2_with fail
  refine (live5_any W1).mono ?_
  rintro e w1 ⟨rfl, hb⟩
  replace BN := BN.later hb; replace QQ := QQ.later hb; replace LB := Lib.hid (gr_tr LB.out hb); clear hb
  obtain ⟨⟨k0, k1, k2, k3⟩, -⟩ := four_facts BN.1
  go_wp2_with fail
  refine (fewN_any t _ Any 120 _ BN.2).mono ?_
  rintro e w2 ⟨fw, rfl, hb⟩
  replace BN := BN.later hb; replace QQ := QQ.later hb; replace LB := Lib.hid (gr_tr LB.out hb); clear hb k0 k1 k2 k3
  cases fw
  case false =>
    go_wp2_with fail
    go_ret
    exact ⟨rfl, LB.out⟩
  by_cases hql : q.length ≤ 50
  case neg =>
    have hq2 : (50 : Int) < (q.length : Int) := by omega
    clear hql
    go_wp2_with fail
    go_ret
    exact ⟨rfl, LB.out⟩
  have hq2 : ¬ (50 : Int) < (q.length : Int) := by omega
  clear hql
  obtain ⟨⟨k0, k1, k2, k3⟩, -⟩ := four_facts BN.1
  go_wp2_with fail
  refine (allpaths_any Any t _ w2 BN.2 HS5.out).mono ?_
  rintro e w3 ⟨va, rfl, ho, hb⟩
  have LA : PathsV w3 va (allL t) := ho.base (Nat.zero_le _)
  replace BN := BN.later hb; replace QQ := QQ.later hb; replace LB := Lib.hid (gr_tr LB.out hb); clear ho hb k0 k1 k2 k3
  obtain ⟨la0, lac, rfl⟩ := LA.form
  obtain ⟨⟨k0, k1, k2, k3⟩, -⟩ := four_facts BN.1
  go_wp2_with fail
  refine (leaves_any Any t _ w3 BN.2 HS5.out).mono ?_
  rintro e W ⟨vv, rfl, ho, hb⟩
  have LV : PathsV W vv (leavesL t) := ho.base (Nat.zero_le _)
  replace BN := BN.later hb; replace QQ := QQ.later hb; replace LA := LA.later hb; replace LB := Lib.hid (gr_tr LB.out hb); clear ho hb k0 k1 k2 k3
  obtain ⟨lv0, lvc, rfl⟩ := LV.form
  have hlen := allL_len t
  have hpos : 0 < (allL t).length := by have := sizeT_pos t; omega
  obtain ⟨ga, ua, uc, rfl, hc0, -⟩ := LA.elem 0 hpos
  rw [allL_zero] at hc0
  have HLEN := Lib.hid hlen
  obtain ⟨la, hla⟩ : ∃ la, (allL t).length = la := ⟨_, rfl⟩
  obtain ⟨tn, htn⟩ : ∃ tn, (textT t).length = tn := ⟨_, rfl⟩
  have hla2 : la ≤ 2000000 := by have := HST.out; have := HSZ.out; omega
  have htn2 : tn ≤ 2000000 := by have := HST.out; have := HSZ.out; omega
  have CT := Lib.hid (textL' BN (by have := HSZ.out; omega) htn)
  have CS := Lib.hid (sizeL (n := (la : Int) + (tn : Int)) BN (by have := HSZ.out; omega) (by have := HST.out; omega))
  have HLA := Lib.hid hla
  have hpos2 : 0 < la := by omega
  have hz : ((la : Int) == 0) = false := by rw [beq_eq_false_iff_ne]; omega
  have hi0 : (0 : Int) < (la : Int) := by omega
  have hw1 : IntKind.i64.wrap ((la : Int) + (tn : Int)) = (la : Int) + (tn : Int) := IntWalk.i64_in _ (by omega)
  have HC0 := Lib.hid hc0
  rw [hla]
  clear hlen hpos htn hla hc0
  have SK : Hid (∀ w', Below W.heap.size W w' → w'.cell? ⟨w.heap.size, 0, none⟩ = some (.bool t.leaf) ∧ w'.cell? ⟨w.heap.size, 1, none⟩ = some (.slice a1 n1 c1) ∧ w'.cell? ⟨w.heap.size, 2, none⟩ = some (.slice a2 n2 c2) ∧ w'.cell? ⟨w.heap.size, 3, none⟩ = some (.slice a3 n3 c3) ∧ w'.cell? ⟨ga, 0, none⟩ = some (.slice ua 0 uc)) := Lib.hid (fun w' hb => by
    obtain ⟨⟨x0, x1, x2, x3⟩, -⟩ := four_facts (BN.later hb).1
    exact ⟨x0, x1, x2, x3, (hb.cell (World.block_lt_of_cell? W _ HC0.out)).trans HC0.out⟩)
  go_upto_region 7 with fail
  have l := gr_dr (gr_refl W)
  go_cut [49] (fun c wx => c = .bool false ∧ Hid (Below W.heap.size W wx))
  case first =>
    go_region_held3 (fun w' => w'.cell? ⟨w.heap.size, 0, none⟩ = some (.bool t.leaf) ∧ w'.cell? ⟨w.heap.size, 1, none⟩ = some (.slice a1 n1 c1) ∧ w'.cell? ⟨w.heap.size, 2, none⟩ = some (.slice a2 n2 c2) ∧ w'.cell? ⟨w.heap.size, 3, none⟩ = some (.slice a3 n3 c3) ∧ w'.cell? ⟨ga, 0, none⟩ = some (.slice ua 0 uc))
      (with_reducible exact SK.out _ l)
      (first
        | ((try rw [if_pos (by rfl)]); (try go_simp); go_at_call 51; (with_reducible refine (CT.out _ l).mono ?_); rintro e w5 ⟨ta, tc, rfl, hb5⟩; replace l := gr_tr l hb5; clear hb5; (try dsimp only))
        | ((try rw [if_pos (by rfl)]); (try go_simp); go_at_call 52; (with_reducible refine (CS.out _ l).mono ?_); rintro e w6 ⟨rfl, hb5⟩; replace l := gr_tr l hb5; clear hb5; (try dsimp only)))
    all_goals
      go_wp2_with fail
      go_meet
      exact ⟨by simp, Lib.hid l⟩
  case rest =>
    obtain ⟨rfl, HL⟩ := hcut
    clear l SK CT CS HC0 hz hi0 hw1
    replace BN := BN.later HL.out; replace QQ := QQ.later HL.out; replace LA := LA.later HL.out; replace LV := LV.later HL.out; replace LB := Lib.hid (gr_tr LB.out HL.out); clear HL
    rw [HLA.out] at LA
    generalize wc = WL at *
    obtain ⟨lv, hlv⟩ : ∃ lv, (leavesL t).length = lv := ⟨_, rfl⟩
    rw [hlv] at LV ⊢
    have hlv2 : lv ≤ 2000000 := by have := cnt_le t (allL t).length; have := cnt_all t; have h1 := leavesL_len t HS5.out; have := pathsL_len Tree.leaf t []; have := HST.out; have := HSZ.out; rw [← hlv]; show (leavesL t).length ≤ _; unfold leavesL at *; omega
    have HLV := Lib.hid hlv
    clear hlv
    go_upto_region 11 with fail
    go_wp2_with fail
    go_loopw [7, 8, 52] (fun at_ met i wr => ∃ k : Nat, k ≤ la ∧ i = .int .i64 k ∧ at_ = .int .i64 (cntL t k : Int) ∧ met = .bool (metB t q k) ∧ Hid (Below WL.heap.size WL wr)) (fun _ _ i _ => la - (intOf i).toNat)
    case atStart => exact ⟨0, Nat.zero_le _, rfl, rfl, rfl, Lib.hid (gr_refl WL)⟩
    case round =>
      obtain ⟨k, hk, rfl, rfl, rfl, HW⟩ := hrel
      replace BN := BN.later HW.out; replace QQ := QQ.later HW.out; replace LA := LA.later HW.out; replace LV := LV.later HW.out; replace LB := Lib.hid (gr_tr LB.out HW.out)
      by_cases hlt : k < la
      · have hkl : k < (allL t).length := by rw [HLA.out]; exact hlt
        obtain ⟨g1, ua, uc, hg1, hcu, hiu⟩ := LA.elem k hkl
        simp only [Option.some.injEq, Addr.mk.injEq] at hg1
        obtain ⟨rfl, -, -⟩ := hg1
        obtain ⟨s, hs⟩ := all_node hkl
        have PU : PathP wr (.slice ua ((allL t).getD k []).length uc) ((allL t).getD k []) := ⟨hiu, all_i64 HS5.out hkl⟩
        have HS := Lib.hid hs; have HCU := Lib.hid hcu; have HIU := Lib.hid hiu
        have HCNT := Lib.hid (cnt_succ hkl); have HMET := Lib.hid (met_succ (q := q) hkl); have HLF := Lib.hid (lfB_of hs)
        have hi1 : (k : Int) < (la : Int) := by omega
        have hi3 : (0 : Int) ≤ (k : Int) := by omega
        have HPRE : Hid (k = 0 ∨ ∃ (ub : Option Addr) (ubn ubc : Nat), wr.cell? ⟨ga, k - 1, none⟩ = some (.slice ub ubn ubc) ∧ 0 < k ∧ Calls Try.prog 50 #[.slice ub ubn ubc, .slice ua ((allL t).getD k []).length uc] wr fun e w' => e = .returned (.int .i64 (-1)) ∧ wr = w') := Lib.hid (by
          rcases Nat.eq_zero_or_pos k with h | h
          · exact .inl h
          · obtain ⟨g2, ub, ubc, hg2, hcb, hib⟩ := LA.elem (k - 1) (by omega)
            simp only [Option.some.injEq, Addr.mk.injEq] at hg2
            obtain ⟨rfl, -, -⟩ := hg2
            have hc := all_before (t := t) (k := k - 1) (by omega)
            rw [show k - 1 + 1 = k by omega] at hc
            exact .inr ⟨ub, _, ubc, hcb, h, cmp_paths hib hiu hc⟩)
        have HLEAF : Hid (s.leaf = true → ∃ (vb : Option Addr) (vbn vbc : Nat) (gv : Nat), lv0 = some ⟨gv, 0, none⟩ ∧ wr.cell? ⟨gv, cntL t k, none⟩ = some (.slice vb vbn vbc) ∧ PathP wr (.slice vb vbn vbc) ((allL t).getD k []) ∧ cntL t k < lv) := Lib.hid (fun h => by
          obtain ⟨h1, h2⟩ := cnt_leaf hkl (by rw [lfB_of hs, h])
          obtain ⟨gv, vb, vbc, hgv, hcv, hiv⟩ := LV.elem (cntL t k) h1
          rw [h2] at hcv hiv
          exact ⟨vb, _, vbc, gv, hgv, hcv, ⟨hiv, all_i64 HS5.out hkl⟩, by rw [← HLV.out]; exact h1⟩)
        have hcl : cntL t k ≤ 2000000 := by have := cnt_le t k; have := HLV.out; omega
        clear hkl hcu hiu hs
        obtain ⟨⟨k0, k1, k2, k3⟩, -⟩ := four_facts BN.1
        have hcu := HCU.out
        generalize (allL t).getD k [] = p at *
        go_upto_region 14 with fail
        go_cut [68] (fun c wx => c = .bool false ∧ wx = wr)
        case first =>
          rcases HPRE.out with h | ⟨ub, ubn, ubc, hcb, h, hcmp⟩
          · have hz : ¬ (0 : Int) < (k : Int) := by omega
            clear h
            go_wp2_with fail
            go_meet
            exact ⟨rfl, rfl⟩
          · have hz : (0 : Int) < (k : Int) := by omega
            have hw1 : IntKind.i64.wrap ((k : Int) - 1) = (k : Int) - 1 := IntWalk.i64_in _ (by omega)
            have hw2 : ((k : Int) - 1).toNat = k - 1 := by omega
            have hw3 : (0 : Int) ≤ (k : Int) - 1 := by omega
            have hw4 : (k : Int) - 1 < (la : Int) := by omega
            have HCMP := Lib.hid hcmp
            clear h hcmp
            go_wp2_with fail
            refine HCMP.out.mono ?_
            rintro e w7 ⟨rfl, rfl⟩
            go_wp2_with fail
            go_meet
            exact ⟨rfl, rfl⟩
        case rest =>
          obtain ⟨rfl, rfl⟩ := hcut
          have HWW := HW
          clear HW HPRE HCU hcu
          generalize metB t q k = mb at *
          cases hl : s.leaf
          case false =>
            have HL := Lib.hid hl
            have HC1 : Hid (cntL t (k + 1) = cntL t k) := Lib.hid (by have h1 := HCNT.out; rw [HLF.out, hl] at h1; exact h1)
            clear hl HLEAF HCNT HLF
            go_wp2_with fail
            refine (get_yes BN PU HS.out).mono ?_
            rintro e w8 ⟨xl, xa, xan, xac, xb, xbn, xbc, xc, xcn, xcc, rfl, hn8, hb8⟩
            have hal := gr_tr hb8 (gr_al (gr_refl w8) (.cells #[.bool xl, .slice xa xan xac, .slice xb xbn xbc, .slice xc xcn xcc] 26))
            have B8 := BoxN.new hn8
            obtain rfl : xl = false := B8.leaf.trans HL.out
            replace BN := BN.later hal
            replace QQ := QQ.later hal
            replace LA := LA.later hal
            replace LV := LV.later hal
            replace PU := PU.later hal
            replace LB := Lib.hid (gr_tr LB.out hal); replace HWW := Lib.hid (gr_tr HWW.out hal)
            clear hn8 hb8 hal k0 k1 k2 k3
            go_upto_region 17 with fail
            generalize World.alloc w8 _ = V8 at *
            obtain ⟨⟨y0, y1, y2, y3⟩, -⟩ := four_facts B8.1
            cases mb
            case false =>
              by_cases hpq : p = q
              case pos =>
                have HPQ := Lib.hid (decide_eq_true hpq)
                clear hpq
                go_wp2_with fail
                refine (path_same PU QQ HPQ.out).mono ?_
                rintro e w10 ⟨rfl, hb⟩
                replace HWW := Lib.hid (gr_tr HWW.out hb); clear hb
                go_wp2_with fail
                go_roundw
                case rel => exact ⟨k + 1, by omega, by go_num, by rw [HC1.out], by rw [HMET.out, HPQ.out]; rfl, HWW⟩
                case measure => simp [intOf]; omega
              case neg =>
                have HPQ := Lib.hid (decide_eq_false hpq)
                clear hpq
                go_wp2_with fail
                refine (path_same PU QQ HPQ.out).mono ?_
                rintro e w10 ⟨rfl, hb⟩
                replace HWW := Lib.hid (gr_tr HWW.out hb); clear hb
                go_wp2_with fail
                go_roundw
                case rel => exact ⟨k + 1, by omega, by go_num, by rw [HC1.out], by rw [HMET.out, HPQ.out]; rfl, HWW⟩
                case measure => simp [intOf]; omega
            case true =>
              go_wp2_with fail
              go_roundw
              case rel => exact ⟨k + 1, by omega, by go_num, by rw [HC1.out], by rw [HMET.out]; rfl, HWW⟩
              case measure => simp [intOf]; omega
          case true =>
            have HL := Lib.hid hl
            obtain ⟨vb, vbn, vbc, gv, rfl, hcv, PV, hcnt⟩ := HLEAF.out hl
            have HC1 : Hid (cntL t (k + 1) = cntL t k + 1) := Lib.hid (by have h1 := HCNT.out; rw [HLF.out, hl] at h1; exact h1)
            clear hl HLEAF HCNT HLF
            go_wp2_with fail
            refine (get_yes BN PU HS.out).mono ?_
            rintro e w8 ⟨xl, xa, xan, xac, xb, xbn, xbc, xc, xcn, xcc, rfl, hn8, hb8⟩
            have hal := gr_tr hb8 (gr_al (gr_refl w8) (.cells #[.bool xl, .slice xa xan xac, .slice xb xbn xbc, .slice xc xcn xcc] 26))
            have B8 := BoxN.new hn8
            obtain rfl : xl = true := B8.leaf.trans HL.out
            replace hcv := (hal.cell (World.block_lt_of_cell? _ _ hcv)).trans hcv
            replace BN := BN.later hal
            replace QQ := QQ.later hal
            replace LA := LA.later hal
            replace LV := LV.later hal
            replace PU := PU.later hal
            replace PV := PV.later hal
            replace LB := Lib.hid (gr_tr LB.out hal); replace HWW := Lib.hid (gr_tr HWW.out hal)
            clear hn8 hb8 hal k0 k1 k2 k3
            go_upto_region 17 with fail
            generalize World.alloc w8 _ = V8 at *
            obtain ⟨⟨y0, y1, y2, y3⟩, -⟩ := four_facts B8.1
            have hne : ((cntL t k : Int) == (lv : Int)) = false := by rw [beq_eq_false_iff_ne]; omega
            have hj1 : (0 : Int) ≤ (cntL t k : Int) := by omega
            have hj2 : (cntL t k : Int) < (lv : Int) := by omega
            go_wp2_with fail
            refine (path_same PV PU (decide_eq_true rfl)).mono ?_
            rintro e w9 ⟨rfl, hb⟩
            replace BN := BN.later hb
            replace QQ := QQ.later hb
            replace LA := LA.later hb
            replace LV := LV.later hb
            replace PU := PU.later hb
            replace LB := Lib.hid (gr_tr LB.out hb); replace HWW := Lib.hid (gr_tr HWW.out hb)
            clear hb y0 y1 y2 y3 hcv PV B8
            cases mb
            case false =>
              by_cases hpq : p = q
              case pos =>
                have HPQ := Lib.hid (decide_eq_true hpq)
                clear hpq
                go_wp2_with fail
                refine (path_same PU QQ HPQ.out).mono ?_
                rintro e w10 ⟨rfl, hb⟩
                replace HWW := Lib.hid (gr_tr HWW.out hb); clear hb
                go_wp2_with fail
                go_roundw
                case rel => exact ⟨k + 1, by omega, by go_num, by rw [HC1.out]; go_num, by rw [HMET.out, HPQ.out]; rfl, HWW⟩
                case measure => simp [intOf]; omega
              case neg =>
                have HPQ := Lib.hid (decide_eq_false hpq)
                clear hpq
                go_wp2_with fail
                refine (path_same PU QQ HPQ.out).mono ?_
                rintro e w10 ⟨rfl, hb⟩
                replace HWW := Lib.hid (gr_tr HWW.out hb); clear hb
                go_wp2_with fail
                go_roundw
                case rel => exact ⟨k + 1, by omega, by go_num, by rw [HC1.out]; go_num, by rw [HMET.out, HPQ.out]; rfl, HWW⟩
                case measure => simp [intOf]; omega
            case true =>
              go_wp2_with fail
              go_roundw
              case rel => exact ⟨k + 1, by omega, by go_num, by rw [HC1.out]; go_num, by rw [HMET.out]; rfl, HWW⟩
              case measure => simp [intOf]; omega
      · have hke : k = la := by omega
        subst hke
        have hc : cntL t k = lv := by have h1 := cnt_all t; rw [HLA.out, HLV.out] at h1; exact h1
        have hm : metB t q k = decide (getT t q ≠ none) := by have h1 := met_all t q; rw [HLA.out] at h1; exact h1
        rw [hc, hm]
        clear hc hm hlt
        obtain ⟨⟨k0, k1, k2, k3⟩, -⟩ := four_facts BN.1
        cases hx : getT t q
        case none =>
          have HX := Lib.hid hx
          have hd : decide ((none : Option Tree) ≠ none) = false := by simp
          rw [hd]
          clear hx hd
          go_wp2_with fail
          refine (get_no BN QQ HX.out).mono ?_
          rintro e w8 ⟨xl, xa, xan, xac, xb, xbn, xbc, xc, xcn, xcc, rfl, hn8, hb8⟩
          replace LB := Lib.hid (gr_tr LB.out (gr_tr hb8 (gr_al (gr_refl w8) (.cells #[.bool xl, .slice xa xan xac, .slice xb xbn xbc, .slice xc xcn xcc] 26))))
          clear hn8 hb8 k0 k1 k2 k3
          go_wp2_with fail
          go_ret
          exact ⟨ret_bool (by simp), LB.out⟩
        case some x =>
          have HX := Lib.hid hx
          have hd : decide (some x ≠ none) = true := by simp
          rw [hd]
          clear hx hd
          go_wp2_with fail
          refine (get_yes BN QQ HX.out).mono ?_
          rintro e w8 ⟨xl, xa, xan, xac, xb, xbn, xbc, xc, xcn, xcc, rfl, hn8, hb8⟩
          replace LB := Lib.hid (gr_tr LB.out (gr_tr hb8 (gr_al (gr_refl w8) (.cells #[.bool xl, .slice xa xan xac, .slice xb xbn xbc, .slice xc xcn xcc] 26))))
          clear hn8 hb8 k0 k1 k2 k3
          go_wp2_with fail
          go_ret
          exact ⟨ret_bool (by simp), LB.out⟩
end Go.Proofs.Ytdcpoeaddhbjbaa
