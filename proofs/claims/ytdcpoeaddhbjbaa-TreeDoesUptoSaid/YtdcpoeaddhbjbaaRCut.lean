/- Walk of redlineref05.Cut. -/
import Derived.Test.YtdcpoeaddhbjbaaRAdd
import Derived.Test.YtdcpoeaddhbjbaaCut
import Derived.Deep.RegionHeld3
namespace Go.Proofs.Ytdcpoeaddhbjbaa
set_option maxRecDepth 100000
open Go.RowKit

/-- Behind the region that takes the child out: the node's box at g. -/
def RCutB (V : World) (g k : Nat) (l : Bool) (pv tv : Value) (s : Tree) (s10 : Value) (wx : World) : Prop :=
  ∃ (a : Option Addr) (n c : Nat), s10 = .pointer (some ⟨g, 0, none⟩) ∧ wx.heap[g]? = some (.cells #[.bool l, pv, tv, .slice a n c] 26 (0, 0)) ∧
    NodeAt (fun b => b ≠ g) wx [.bool l, pv, tv, .slice a n c] (.mk s.leaf s.props s.text (s.kids.eraseIdx k)) ∧ Below g V wx
theorem rcutB_of {V w6 : World} {g k : Nat} {l : Bool} {pv tv kv : Value} {s : Tree} {es : List (List Value)} {a : Option Addr} {n c : Nat} (hN : NodeAt (fun b => b ≠ g) V [.bool l, pv, tv, kv] s) (hl : es.length = s.kids.length) (hk : k < s.kids.length)
    (hall : ∀ i, i < s.kids.length → NodeAt (fun b => b ≠ g) V (es.getD i []) (s.kids.getD i default)) (hg : V.heap[g]? = some (.cells #[.bool l, pv, tv, kv] 26 (0, 0)))
    (ho : OwnSl w6 V.heap.size 26 4 80 (.slice a n c) (es.take k ++ es.drop (k + 1))) (h6 : Below V.heap.size V w6) : RCutB V g k l pv tv s (.pointer (some ⟨g, 0, none⟩)) (w6.setCell ⟨g, 3, none⟩ (.slice a n c)) := by
  rw [cut_eq] at ho
  have hlt := lt_of_block hg
  exact ⟨a, n, c, rfl, set3_block (blk_below hg h6) _, rcut_node hN hl hk hall ho h6 hlt, (h6.mono (Nat.le_of_lt hlt)).setCell (p := ⟨g, 3, none⟩) (Nat.le_refl _) _⟩
/-- What an append leaves, in a drawn region: the slice's form too. -/
theorem own_app_sl {W w0 w1 : World} {v0 v1 : Value} {n m : Nat} {es fs : List (List Value)} (ho : OwnSl w0 W.heap.size 26 4 80 v0 es) (hl : Below W.heap.size W w0) (hg : w0.grownBy w1 v0.ownBlock)
    (hown : w1.ownsRow W.heap.size 26 4 v1 (n + m) (es.flatten ++ fs.flatten)) (hn : es.length = n) (hm : fs.length = m) (hb : (n + m) * 80 ≤ 140737488351232) (hf : ∀ x ∈ fs, x.length = 4) :
    (∃ a k c, v1 = .slice a k c) ∧ w1.ownsRow W.heap.size 26 4 v1 (n + m) (es ++ fs).flatten ∧ OwnSl w1 W.heap.size 26 4 80 v1 (es ++ fs) ∧ Below W.heap.size W w1 := by
  obtain ⟨h1, h2⟩ := own_app ho hl hg hown hn hm hb hf
  exact ⟨(h1.sl (by decide)).slice3, by rw [List.flatten_append]; exact hown, h1, h2⟩

set_option maxHeartbeats 4000000 in
theorem rcut_any (S : Nat → Prop) (t : Tree) (cs : List Value) (p : List Int) (v : Value) (w : World) (hn : NodeAt S w cs t) (hp : Ints w v p) (hi : I64 p) :
    Calls Try.prog 59 #[.agg (List.toArray cs), v] w (CutPost t p w) := by
  obtain ⟨a1, n1, c1, a2, n2, c2, a3, n3, c3, rfl⟩ := hn.form
  obtain ⟨av, cv, rfl, hlc, hb8, hcells⟩ := hp.open_
  obtain ⟨hbW, hx1, hx2, hx3⟩ := three_boxesN w #[.bool t.leaf, .slice a1 n1 c1, .slice a2 n2 c2, .slice a3 n3 c3] #[.bool false, .slice none 0 0, .slice none 0 0, .slice none 0 0] #[.bool false, .slice none 0 0, .slice none 0 0, .slice none 0 0] 26 26 26
  have HN := Lib.hid (hn.later hbW (Nat.le_refl _)); have HP := Lib.hid (hp.below hbW (Nat.le_refl _)); have HI := Lib.hid hi; have HB := Lib.hid hbW; have HX1 := Lib.hid hx1; have HX2 := Lib.hid hx2; have HX3 := Lib.hid hx3; have HCE := Lib.hid hcells
  clear hn hp hi hbW hx1 hx2 hx3 hcells
  by_cases h0 : p.length = 0
  · have HE : Hid (cutE t p = 6) := Lib.hid (by rw [cutE, if_pos h0])
    have hPE : parentE p = 6 := by rw [parentE, if_pos h0]
    clear h0
    go_enter Try.func59, Try.ntmps59
    go_upto_region 1 with fail
    generalize World.alloc (World.alloc (World.alloc w _) _) _ = W at *
    have HC := Lib.hid (rpar HP.out hPE)
    clear hPE
    go_wp2_with fail
    refine HC.out.mono ?_
    rintro e V ⟨au, nu, cu, rfl, hu, hV⟩
    clear HC hu
    obtain ⟨_, ⟨m0, m1, m2, m3⟩⟩ := four_facts (blk_below HX2.out hV)
    obtain ⟨_, ⟨m0', m1', m2', m3'⟩⟩ := four_facts (blk_below HX3.out hV)
    obtain ⟨⟨k0, k1, k2, k3⟩, _⟩ := four_facts (blk_below HX2.out hV)
    obtain ⟨⟨k0', k1', k2', k3'⟩, _⟩ := four_facts (blk_below HX3.out hV)
    obtain ⟨g1, g2⟩ := two_stores (u0 := .bool false) (u1 := .slice none 0 0) (u2 := .slice none 0 0) (u3 := .slice none 0 0) (v0 := .bool false) (v1 := .slice none 0 0) (v2 := .slice none 0 0) (v3 := .slice none 0 0) (blk_below HX2.out hV) (blk_below HX3.out hV) (by omega)
    have gw : Below w.heap.size w (set4 (set4 V (w.heap.size + 1) 0 (.bool false) (.slice none 0 0) (.slice none 0 0) (.slice none 0 0)) (w.heap.size + 1 + 1) 0 (.bool false) (.slice none 0 0) (.slice none 0 0) (.slice none 0 0)) := set4_below (set4_below (gr_tr HB.out hV) (by omega)) (by omega)
    have G1 := Lib.hid g1; have G2 := Lib.hid g2; have GW := Lib.hid gw
    clear g1 g2 gw hV
    go_wp2_with fail
    have g1 := G1.out; have g2 := G2.out; have gw := GW.out
    simp only [set4, Nat.zero_add] at g1 g2 gw
    obtain ⟨⟨j0, j1, j2, j3⟩, _⟩ := four_facts g1
    obtain ⟨⟨i0, i1, i2, i3⟩, _⟩ := four_facts g2
    clear G1 G2 GW g1 g2 k0 k1 k2 k3 k0' k1' k2' k3' m0 m1 m2 m3 m0' m1' m2' m3'
    generalize World.setCell (World.setCell (World.setCell (World.setCell (World.setCell (World.setCell (World.setCell (World.setCell V _ _) _ _) _ _) _ _) _ _) _ _) _ _) _ _ = wf at *
    exact bodyPost_ret (v := .tuple #[zeroNV, zeroNV, .int .i64 6]) (by simp [results, Try.results59, go_sem, i0, i1, i2, i3, j0, j1, j2, j3]) rfl ⟨gw, .inl ⟨by rw [HE.out]; decide, by rw [HE.out]⟩⟩
  · have hpos : 0 < p.length := by omega
    have hPE : parentE p = 0 := by rw [parentE, if_neg h0]
    have hE5 : getT t p = none → cutE t p = 5 := fun h => by rw [cutE, if_neg h0, h]
    have HE5 := Lib.hid hE5
    clear h0 hE5
    go_enter Try.func59, Try.ntmps59
    go_upto_region 1 with fail
    generalize World.alloc (World.alloc (World.alloc w _) _) _ = W at *
    have HC := Lib.hid (rpar HP.out hPE)
    clear hPE
    go_wp2_with fail
    refine HC.out.mono ?_
    rintro e w1 ⟨au, nu, cu, rfl, hu, hb1⟩
    clear HC
    obtain ⟨⟨k0, k1, k2, k3⟩, _⟩ := four_facts (blk_below HX1.out hb1)
    have HC := Lib.hid (rget_any S t _ _ _ w1 (HN.out.later hb1 (Nat.le_refl _)) (HP.out.below hb1 (Nat.le_refl _)) HI.out)
    have HU := Lib.hid hu; have HB1 := Lib.hid hb1
    clear hu hb1
    go_wp2_with fail
    refine HC.out.mono ?_
    rintro e w2 ⟨hb2, hr⟩
    clear HC k0 k1 k2 k3
    have HB2 := Lib.hid (gr_tr HB1.out hb2)
    have HU2 := Lib.hid (HU.out.below hb2 (Nat.le_refl _))
    have HBS := Lib.hid HB1.out.size
    clear hb2 HU
    rcases hr with ⟨hr, rfl⟩ | ⟨ds, m, hr, rfl, ht⟩
    · have HE := Lib.hid (HE5.out hr)
      clear hr HE5
      go_upto_region 5 with fail
      have hV : Below W.heap.size W (w2.alloc (.cells #[.bool false, .slice none 0 0, .slice none 0 0, .slice none 0 0] 26)) := gr_al HB2.out _
      generalize World.alloc w2 _ = V at *
      obtain ⟨_, ⟨m0, m1, m2, m3⟩⟩ := four_facts (blk_below HX2.out hV)
      obtain ⟨_, ⟨m0', m1', m2', m3'⟩⟩ := four_facts (blk_below HX3.out hV)
      obtain ⟨⟨k0, k1, k2, k3⟩, _⟩ := four_facts (blk_below HX2.out hV)
      obtain ⟨⟨k0', k1', k2', k3'⟩, _⟩ := four_facts (blk_below HX3.out hV)
      obtain ⟨g1, g2⟩ := two_stores (u0 := .bool false) (u1 := .slice none 0 0) (u2 := .slice none 0 0) (u3 := .slice none 0 0) (v0 := .bool false) (v1 := .slice none 0 0) (v2 := .slice none 0 0) (v3 := .slice none 0 0) (blk_below HX2.out hV) (blk_below HX3.out hV) (by omega)
      have gw : Below w.heap.size w (set4 (set4 V (w.heap.size + 1) 0 (.bool false) (.slice none 0 0) (.slice none 0 0) (.slice none 0 0)) (w.heap.size + 1 + 1) 0 (.bool false) (.slice none 0 0) (.slice none 0 0) (.slice none 0 0)) := set4_below (set4_below (gr_tr HB.out hV) (by omega)) (by omega)
      have G1 := Lib.hid g1; have G2 := Lib.hid g2; have GW := Lib.hid gw
      clear g1 g2 gw hV
      go_wp2_with fail
      have g1 := G1.out; have g2 := G2.out; have gw := GW.out
      simp only [set4, Nat.zero_add] at g1 g2 gw
      obtain ⟨⟨j0, j1, j2, j3⟩, _⟩ := four_facts g1
      obtain ⟨⟨i0, i1, i2, i3⟩, _⟩ := four_facts g2
      clear G1 G2 GW g1 g2 k0 k1 k2 k3 k0' k1' k2' k3' m0 m1 m2 m3 m0' m1' m2' m3'
      generalize World.setCell (World.setCell (World.setCell (World.setCell (World.setCell (World.setCell (World.setCell (World.setCell V _ _) _ _) _ _) _ _) _ _) _ _) _ _) _ _ = wf at *
      exact bodyPost_ret (v := .tuple #[zeroNV, zeroNV, .int .i64 5]) (by simp [results, Try.results59, go_sem, i0, i1, i2, i3, j0, j1, j2, j3]) rfl ⟨gw, .inl ⟨by rw [HE.out]; decide, by rw [HE.out]⟩⟩
    · obtain ⟨s, hs, hi0, hi1, -⟩ := get_last hpos hr
      obtain ⟨q1, r1, s1, q2, r2, s2, q3, r3, s3, hds⟩ := ht.nodeAt.form
      subst hds
      have HR := Lib.hid hr; have HS := Lib.hid hs; have HTM := Lib.hid ht.there
      clear hr ht HE5
      go_upto_region 5 with fail
      have hVB : Below w2.heap.size w2 (w2.alloc (.cells #[.bool m.leaf, .slice q1 r1 s1, .slice q2 r2 s2, .slice q3 r3 s3] 26)) := gr_al (gr_refl w2) _
      have hVN := heap_alloc_new w2 (.cells #[.bool m.leaf, .slice q1 r1 s1, .slice q2 r2 s2, .slice q3 r3 s3] 26)
      generalize w2.alloc _ = V1 at *
      have hV1 := gr_tr HB2.out hVB
      obtain ⟨⟨k0, k1, k2, k3⟩, _⟩ := four_facts (blk_below HX1.out hV1)
      have HC := Lib.hid (rget_any S t _ _ _ V1 (HN.out.later hV1 (Nat.le_refl _)) (HU2.out.below hVB (Nat.le_refl _)) (HI.out.take _))
      have HU3 := Lib.hid (HU2.out.below hVB (Nat.le_refl _))
      have HTV := Lib.hid (HTM.out.later hVB)
      have HVN := Lib.hid hVN; have HV1 := Lib.hid hV1; have HVB := Lib.hid hVB
      generalize m.leaf = lm at *
      clear hVN hV1 hVB HB1 HU2 HTM
      go_wp2_with fail
      refine HC.out.mono ?_
      rintro e w3 ⟨hb3, hr3⟩
      clear HC k0 k1 k2 k3
      rcases hr3 with ⟨hr3, -⟩ | ⟨gs, s', hr3, rfl, hts⟩
      · rw [HS.out] at hr3; cases hr3
      · obtain rfl : s = s' := Option.some.inj (HS.out.symm.trans hr3)
        obtain ⟨o1, o2, o3, o4, o5, o6, o7, o9, hgs⟩ := node_form3 hts.nodeAt
        subst hgs
        have HB3 := Lib.hid hb3; have HTS := Lib.hid hts.nodeAt.there
        clear hb3 hts hr3
        go_upto_region 8 with fail
        have hVB : Below w3.heap.size w3 (w3.alloc (.cells #[.bool s.leaf, .slice o1 o2 o3, .slice o4 o5 o6, .slice o7 s.kids.length o9] 26)) := gr_al (gr_refl w3) _
        have hVN := heap_alloc_new w3 (.cells #[.bool s.leaf, .slice o1 o2 o3, .slice o4 o5 o6, .slice o7 s.kids.length o9] 26)
        generalize w3.alloc _ = V at *
        obtain ⟨g, hg⟩ : ∃ g, w3.heap.size = g := ⟨_, rfl⟩
        have HGE := Lib.hid hg
        have HB13 := Lib.hid (gr_tr HV1.out HB3.out)
        have HW := Lib.hid (gr_tr HB13.out hVB)
        have HNV := Lib.hid ((HTS.out.later hVB (Nat.le_refl _)).weaken (T := fun b => b ≠ g) fun b hb => by omega)
        have HBV := Lib.hid hVB
        have HBG := Lib.hid hVN
        rw [hg] at HBG ⊢
        clear hVB hVN hg HTS
        obtain ⟨b, off, rfl, hcell⟩ := HCE.out hpos
        have hc1 := hcell (p.length - 1) (by omega)
        have hc2 : V.cell? ⟨b, off + (p.length - 1), none⟩ = some (.int .i64 (lastI p)) := ((gr_tr HB.out HW.out).cell (p := ⟨b, off + (p.length - 1), none⟩) (World.block_lt_of_cell? w _ hc1)).trans hc1
        have hw1 : IntKind.i64.wrap ((p.length : Int) - 1) = (p.length : Int) - 1 := IntWalk.i64_in _ (by omega)
        have hw2 : ((p.length : Int) - 1).toNat = p.length - 1 := by omega
        have hw3 : (0 : Int) ≤ (p.length : Int) - 1 := by omega
        have hw4 : (p.length : Int) - 1 < (p.length : Int) := by omega
        clear hcell hc1 HCE
        obtain ⟨k, hk⟩ : ∃ k : Nat, lastI p = (k : Int) := ⟨(lastI p).toNat, by omega⟩
        have HCT : Hid ((cutK (lastI p) s).2 = .mk s.leaf s.props s.text (s.kids.eraseIdx k)) := Lib.hid (by rw [cutK, hk, Int.toNat_natCast])
        rw [hk] at hc2 hi1
        rw [Int.toNat_natCast] at hi1
        clear hk hi0
        have HK1 := Lib.hid hi1
        go_upto_region 9 with fail
        clear hw1 hw2 hw3 hw4 hc2
        obtain ⟨pv', tv', kv', es, hcs, hP, hT, hK, hle, hall⟩ := HNV.out.open_
        simp only [List.cons.injEq, and_true, true_and] at hcs
        obtain ⟨rfl, rfl, rfl⟩ := hcs
        have hs9 : s.kids.length ≤ o9 := by obtain ⟨a', c', he, hh, _⟩ := id hK; simp only [Value.slice.injEq] at he; obtain ⟨-, -, rfl⟩ := he; omega
        have h80 := kids_80 HNV.out
        have hone := node_cells_one hle hall
        obtain ⟨i0, hi, hz0, hz1, hz2⟩ := info_parts info_nodes
        have GI := Lib.hid hi; have GZ0 := Lib.hid hz0; have GZ1 := Lib.hid hz1; have GZ2 := Lib.hid hz2
        obtain ⟨k1, hk1⟩ : ∃ k1, k + 1 = k1 := ⟨_, rfl⟩
        have HKK := Lib.hid hk1
        have O1 := Lib.hid (show ∀ u ∈ (es.take k).flatten, u.oneCell' = true from fun u hu => hone u (by obtain ⟨e, he, hu'⟩ := List.mem_flatten.1 hu; exact List.mem_flatten.2 ⟨e, List.mem_of_mem_take he, hu'⟩))
        have O3 := Lib.hid (show ∀ u ∈ (es.drop k1).flatten, u.oneCell' = true from fun u hu => hone u (by obtain ⟨e, he, hu'⟩ := List.mem_flatten.1 hu; exact List.mem_flatten.2 ⟨e, List.mem_of_mem_drop he, hu'⟩))
        have E4 : Hid (∀ x ∈ es, x.length = 4) := Lib.hid (by obtain ⟨_, _, _, _, _, _, h5, _⟩ := hK; exact h5)
        have HL := Lib.hid hle; have HALL := Lib.hid hall
        have HS1 := Lib.hid (fun w' (l : Below V.heap.size V w') => ((hK.later l (Nat.le_refl _)).take (show k ≤ s.kids.length by omega)).src (by decide))
        have HS2 := Lib.hid (fun w' (l : Below V.heap.size V w') => (hK.later l (Nat.le_refl _)).tail (show k1 ≤ s.kids.length by omega))
        have H51 : Hid (0 + k ≤ maxLen) := Lib.hid (by unfold maxLen; omega)
        have H61 : Hid ((0 + k) * 80 ≤ 140737488355328) := Lib.hid (by omega)
        have HB80 : Hid ((0 + k) * 80 ≤ 140737488351232) := Lib.hid (by omega)
        have H52 : Hid ((0 + k) + (s.kids.length - k1) ≤ maxLen) := Lib.hid (by unfold maxLen; omega)
        have H62 : Hid (((0 + k) + (s.kids.length - k1)) * 80 ≤ 140737488355328) := Lib.hid (by omega)
        have HB82 : Hid (((0 + k) + (s.kids.length - k1)) * 80 ≤ 140737488351232) := Lib.hid (by omega)
        have HLT : Hid ((es.take k).length = k) := Lib.hid (by simp; omega)
        have HLT0 : Hid ((es.take k).length = 0 + k) := Lib.hid (by simp; omega)
        have HLD : Hid ((es.drop k1).length = s.kids.length - k1) := Lib.hid (by simp; omega)
        have HNI : Hid (∀ x ∈ es.take k, x.length = 4) := Lib.hid fun x hx => E4.out x (List.mem_of_mem_take hx)
        have HND : Hid (∀ x ∈ es.drop k1, x.length = 4) := Lib.hid fun x hx => E4.out x (List.mem_of_mem_drop hx)
        have HFF := Lib.hid (fun w' (l : Below V.heap.size V w') => four_facts (blk_below HBG.out l))
        have hn1 : (k : Int) ≤ (o9 : Int) := by omega
        have hn2 : IntKind.i64.wrap ((k : Int) + 1) = (k1 : Int) := by rw [IntWalk.i64_in _ (by omega)]; omega
        have hn4 : (k1 : Int) ≤ (s.kids.length : Int) := by omega
        have hn5 : (k1 : Int) ≤ (o9 : Int) := by omega
        have hn7 : (0 : Int) ≤ (k : Int) := by omega
        have l0 : Below V.heap.size V V.drew := gr_dr (gr_refl V)
        clear hk1 hP hT hK hall hle hone hi hz0 hz1 hz2 hs9 h80
        go_wp2_with fail
        go_cut [10] (fun s10 wx => RCutB V g k s.leaf (.slice o1 o2 o3) (.slice o4 o5 o6) s s10 wx)
        case first =>
          by_cases hks : k1 < o9
          · obtain ⟨bq, oq, rfl, -⟩ := (HS2.out V (gr_refl V)).1 hks
            have hx1 : ¬ o9 = k1 := by omega
            have hx2 : ¬ k1 = o9 := by omega
            have k3 := (HFF.out _ l0).1.2.2.2
            go_region_law (first
                | (refine step_append_any rfl (.const (.slice none 0 0)) (.tmp 51) 24 rfl V.heap.size 26 i0 (.agg #[.bool false, .slice none 0 0, .slice none 0 0, .slice none 0 0]) 4 80 Try.underlying24 GI.out GZ0.out GZ1.out GZ2.out rfl (by decide) (.slice none 0 0) 0 [] rfl (World.ownsRow_nil _ _ _ _) (some ⟨bq, oq, none⟩) k o9 (es.take k).flatten (by simp [Act.eval, Act.put]) (HS1.out _ l0).2.1 (HS1.out _ l0).2.2.1 (HS1.out _ l0).2.2.2 O1.out H51.out H61.out l0.size ?_; intro v1 w3' hown hgrow; obtain ⟨⟨x1, y1, z1', rfl⟩, r3', P3', l3⟩ := own_app_sl (W := V) (es := []) (fs := es.take k) (OwnSl.nil _ _ _ _ _) l0 hgrow hown rfl HLT.out HB80.out HNI.out; have k3 := (HFF.out _ l3).1.2.2.2)
                | (obtain ⟨bq', oq', eq', hsl⟩ := (HS2.out _ l3).1 hks; simp only [Option.some.injEq, Addr.mk.injEq, and_true] at eq'; obtain ⟨rfl, rfl⟩ := eq'; obtain ⟨_, z1, z2, z3⟩ := hsl.src (by decide); refine step_append_any rfl (.tmp 52) (.tmp 57) 24 rfl V.heap.size 26 i0 (.agg #[.bool false, .slice none 0 0, .slice none 0 0, .slice none 0 0]) 4 80 Try.underlying24 GI.out GZ0.out GZ1.out GZ2.out rfl (by decide) (.slice x1 y1 z1') (0 + k) _ (by simp [Act.eval, Act.put]) r3' (some ⟨bq, oq + k1 * 4, none⟩) (s.kids.length - k1) (o9 - k1) (es.drop k1).flatten (by simp [Act.eval, Act.put]) z1 z2 z3 O3.out H52.out H62.out l3.size ?_; intro v2 w4' hown2 hgrow2; obtain ⟨⟨x2, y2, z2', rfl⟩, r4', P4', l4⟩ := own_app_sl (W := V) (fs := es.drop k1) P3' l3 hgrow2 hown2 HLT0.out HLD.out HB82.out HND.out; have k3 := (HFF.out _ l4).1.2.2.2; have m3 := (HFF.out _ l4).2.2.2.2))
            all_goals go_wp2_with fail
            all_goals go_meet
            all_goals exact rcutB_of HNV.out HL.out HK1.out HALL.out HBG.out (by rw [HKK.out]; exact P4') l4
          · obtain rfl : o9 = k1 := by have := (show (k1 : Int) ≤ (o9 : Int) from hn5); omega
            have HS2' := Lib.hid (fun w' (l : Below V.heap.size V w') => ((HS2.out w' l).2 rfl).2)
            have HLL := Lib.hid ((HS2.out V (gr_refl V)).2 rfl).1
            have HL0 : Hid (s.kids.length - o9 = 0) := Lib.hid (by have := HLL.out; omega)
            have H52' : Hid ((0 + k) + 0 ≤ maxLen) := Lib.hid H51.out
            have H62' : Hid (((0 + k) + 0) * 80 ≤ 140737488355328) := Lib.hid H61.out
            have HB82' : Hid (((0 + k) + 0) * 80 ≤ 140737488351232) := Lib.hid HB80.out
            have HLD' : Hid ((es.drop o9).length = 0) := Lib.hid (by have := HLD.out; have := HLL.out; omega)
            clear H52 H62 HB82 HLD HS2
            have k3 := (HFF.out _ l0).1.2.2.2
            go_region_law (first
                | (refine step_append_any rfl (.const (.slice none 0 0)) (.tmp 51) 24 rfl V.heap.size 26 i0 (.agg #[.bool false, .slice none 0 0, .slice none 0 0, .slice none 0 0]) 4 80 Try.underlying24 GI.out GZ0.out GZ1.out GZ2.out rfl (by decide) (.slice none 0 0) 0 [] rfl (World.ownsRow_nil _ _ _ _) o7 k o9 (es.take k).flatten (by simp [Act.eval, Act.put]) (HS1.out _ l0).2.1 (HS1.out _ l0).2.2.1 (HS1.out _ l0).2.2.2 O1.out H51.out H61.out l0.size ?_; intro v1 w3' hown hgrow; obtain ⟨⟨x1, y1, z1', rfl⟩, r3', P3', l3⟩ := own_app_sl (W := V) (es := []) (fs := es.take k) (OwnSl.nil _ _ _ _ _) l0 hgrow hown rfl HLT.out HB80.out HNI.out; have k3 := (HFF.out _ l3).1.2.2.2)
                | (obtain ⟨_, z1, z2, z3⟩ := (HS2'.out _ l3).src (by decide); refine step_append_any rfl (.tmp 52) (.tmp 57) 24 rfl V.heap.size 26 i0 (.agg #[.bool false, .slice none 0 0, .slice none 0 0, .slice none 0 0]) 4 80 Try.underlying24 GI.out GZ0.out GZ1.out GZ2.out rfl (by decide) (.slice x1 y1 z1') (0 + k) _ (by simp [Act.eval, Act.put]) r3' o7 0 0 (es.drop o9).flatten (by simp [Act.eval, Act.put, HL0.out]) z1 z2 z3 O3.out H52'.out H62'.out l3.size ?_; intro v2 w4' hown2 hgrow2; obtain ⟨⟨x2, y2, z2', rfl⟩, r4', P4', l4⟩ := own_app_sl (W := V) (fs := es.drop o9) P3' l3 hgrow2 hown2 HLT0.out HLD'.out HB82'.out HND.out; have k3 := (HFF.out _ l4).1.2.2.2; have m3 := (HFF.out _ l4).2.2.2.2))
            all_goals go_wp2_with fail
            all_goals go_meet
            all_goals exact rcutB_of HNV.out HL.out HK1.out HALL.out HBG.out (by rw [HKK.out]; exact P4') l4
        case rest =>
          obtain ⟨xa, xn, xc, rfl, hgx, hnx, hbx⟩ := hcut
          have hWc : Below W.heap.size W wc := HW.out.trans (hbx.mono (by have := HB13.out.size; have := HGE.out; omega))
          have hV1c : Below V1.heap.size V1 wc := (gr_tr HB3.out HBV.out).trans (hbx.mono (by have := HB3.out.size; have := HGE.out; omega))
          have HC := Lib.hid (rput_any (fun b => b ≠ g) (.mk s.leaf s.props s.text (s.kids.eraseIdx k)) (p.take (p.length - 1)) S t _ _ _ _ (HN.out.later hWc (Nat.le_refl _)) (HU3.out.below hV1c (Nat.le_refl _)) (HI.out.take _) hnx)
          have HRN : Hid ((chT t (p.take (p.length - 1)) fun _ => (0, .mk s.leaf s.props s.text (s.kids.eraseIdx k))) = some (cutT t p)) := Lib.hid (by rw [cutT_eq HS.out, HCT.out]; simp only [chT, HS.out, if_true])
          rw [HRN.out] at HC
          obtain ⟨⟨k0, k1, k2, k3⟩, _⟩ := four_facts (blk_below HX1.out hWc)
          obtain ⟨⟨k0', k1', k2', k3'⟩, _⟩ := four_facts hgx
          have HWC := Lib.hid hWc; have HV1C := Lib.hid hV1c
          clear hWc hV1c hgx hnx hbx HRN HNV HBG HBV HALL HCT HU3
          go_wp2_with fail
          refine HC.out.mono ?_
          rintro e w5 ⟨hb5, hr⟩
          rcases hr with ⟨hr, -⟩ | ⟨cs', s', hr, rfl, ht'⟩
          · cases hr
          obtain rfl := Option.some.inj hr
          obtain ⟨x1, y1, z1, x2, y2, z2, x3, y3, z3, hcs'⟩ := ht'.nodeAt.form
          subst hcs'
          have HB5 := Lib.hid hb5; have HT5 := Lib.hid ht'
          generalize (cutT t p).leaf = lc at *
          clear hr hb5 ht' HC k0 k1 k2 k3 k0' k1' k2' k3'
          go_upto_region 11 with fail
          have hVA : Below w5.heap.size w5 (w5.alloc (.cells #[.bool lc, .slice x1 y1 z1, .slice x2 y2 z2, .slice x3 y3 z3] 26)) := gr_al (gr_refl w5) _
          have hVM := heap_alloc_new w5 (.cells #[.bool lc, .slice x1 y1 z1, .slice x2 y2 z2, .slice x3 y3 z3] 26)
          generalize w5.alloc _ = W4 at *
          have h1 := gr_tr HV1C.out (gr_tr HB5.out hVA)
          have hW4 := gr_tr HWC.out (gr_tr HB5.out hVA)
          obtain ⟨⟨k0, k1, k2, k3⟩, _⟩ := four_facts (blk_below HVN.out h1)
          obtain ⟨⟨k0', k1', k2', k3'⟩, _⟩ := four_facts hVM
          have r1 := blk_below HX2.out hW4
          have r2 := blk_below HX3.out hW4
          obtain ⟨⟨n0, n1', n2', n3'⟩, ⟨m0, m1, m2, m3⟩⟩ := four_facts r1
          obtain ⟨⟨i0, i1, i2, i3⟩, ⟨m0', m1', m2', m3'⟩⟩ := four_facts r2
          have R1 := Lib.hid r1; have R2 := Lib.hid r2
          have RT := Lib.hid ((HTV.out.later h1).weaken (G := fun b => W.heap.size ≤ b) fun b hb => by have := HBS.out; omega)
          have RC := Lib.hid ((HT5.out.later hVA).weaken (G := fun b => W.heap.size ≤ b) fun b hb => by have := HWC.out.size; omega)
          have RW := Lib.hid (gr_tr HB.out hW4)
          have hq1 : w2.heap.size ≠ w.heap.size + 1 := by have := lt_of_block HX3.out; have := HB2.out.size; omega
          have hq2 : w2.heap.size ≠ w.heap.size + 1 + 1 := by have := lt_of_block HX3.out; have := HB2.out.size; omega
          have hq3 : w5.heap.size ≠ w.heap.size + 1 := by have := lt_of_block HX3.out; have := HWC.out.size; have := HB5.out.size; omega
          have hq4 : w5.heap.size ≠ w.heap.size + 1 + 1 := by have := lt_of_block HX3.out; have := HWC.out.size; have := HB5.out.size; omega
          have hq5 := hq1.symm; have hq6 := hq2.symm; have hq7 := hq3.symm; have hq8 := hq4.symm
          clear r1 r2 h1 hW4 hVA hVM HTV HT5 HV1C HWC HB5
          go_region
          go_wp2_with fail
          obtain ⟨e1, e2⟩ := two_stores (u0 := .bool lc) (u1 := .slice x1 y1 z1) (u2 := .slice x2 y2 z2) (u3 := .slice x3 y3 z3) (v0 := .bool lm) (v1 := .slice q1 r1 s1) (v2 := .slice q2 r2 s2) (v3 := .slice q3 r3 s3) R1.out R2.out (by omega)
          have hlt1 := lt_of_block HX3.out
          have ew : Below w.heap.size w (set4 (set4 W4 (w.heap.size + 1) 0 (.bool lc) (.slice x1 y1 z1) (.slice x2 y2 z2) (.slice x3 y3 z3)) (w.heap.size + 1 + 1) 0 (.bool lm) (.slice q1 r1 s1) (.slice q2 r2 s2) (.slice q3 r3 s3)) := set4_below (set4_below RW.out (by omega)) (by omega)
          have ho : ∀ b, W.heap.size ≤ b → (set4 (set4 W4 (w.heap.size + 1) 0 (.bool lc) (.slice x1 y1 z1) (.slice x2 y2 z2) (.slice x3 y3 z3)) (w.heap.size + 1 + 1) 0 (.bool lm) (.slice q1 r1 s1) (.slice q2 r2 s2) (.slice q3 r3 s3)).heap[b]? = W4.heap[b]? := fun b hb => (set4_heap b (by omega)).trans (set4_heap b (by omega))
          have ec := (RC.out.keep ho).weaken (G := fun b => w.heap.size ≤ b) fun b hb => by have := HB.out.size; omega
          have et := (RT.out.keep ho).weaken (G := fun b => w.heap.size ≤ b) fun b hb => by have := HB.out.size; omega
          clear R1 R2 RT RC RW k0 k1 k2 k3 m0 m1 m2 m3 k0' k1' k2' k3' m0' m1' m2' m3' n0 n1' n2' n3' i0 i1 i2 i3 ho
          simp only [set4, Nat.zero_add] at e1 e2 ew ec et
          generalize World.setCell (World.setCell (World.setCell (World.setCell (World.setCell (World.setCell (World.setCell (World.setCell W4 _ _) _ _) _ _) _ _) _ _) _ _) _ _) _ _ = W5 at *
          have e1 := blk_below e1 (gr_dr (gr_refl W5))
          have e2 := blk_below e2 (gr_dr (gr_refl W5))
          have ec := ec.later (gr_dr (gr_refl W5))
          have et := et.later (gr_dr (gr_refl W5))
          have ew := gr_dr ew
          generalize World.drew W5 = W6 at *
          obtain ⟨⟨j0, j1, j2, j3⟩, _⟩ := four_facts e1
          obtain ⟨⟨i0, i1, i2, i3⟩, _⟩ := four_facts e2
          exact bodyPost_ret (v := .tuple #[.agg #[.bool lc, .slice x1 y1 z1, .slice x2 y2 z2, .slice x3 y3 z3], .agg #[.bool lm, .slice q1 r1 s1, .slice q2 r2 s2, .slice q3 r3 s3], .int .i64 0]) (by simp [results, Try.results59, go_sem, i0, i1, i2, i3, j0, j1, j2, j3]) rfl ⟨ew, .inr ⟨_, _, m, hpos, HR.out, rfl, ec, et⟩⟩
end Go.Proofs.Ytdcpoeaddhbjbaa
