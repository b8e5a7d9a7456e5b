/- Walk of redlineref11.All. Walk of the law BackAll. -/
import Derived.Test.YtcbljiiomnhbjaaBMany
import Derived.Test.YtcbljiiomnhbjaaRInv
namespace Go.Proofs.Ytcbljiiomnhbjaa
set_option maxRecDepth 100000
open Go.RowKit

/- Walk of redlineref11.All. -/
/-- The world without its blocks from B to C. -/
def hideR (w : World) (B C : Nat) : World := { w with heap := w.heap.mapIdx fun i o => if B ≤ i ∧ i < C then .deferred none else o }
theorem hideR_get (w : World) (B C k : Nat) : (hideR w B C).heap[k]? = w.heap[k]?.map fun o => if B ≤ k ∧ k < C then .deferred none else o := Array.getElem?_mapIdx
theorem hideR_other {w : World} {B C k : Nat} (h : ¬ (B ≤ k ∧ k < C)) : (hideR w B C).heap[k]? = w.heap[k]? := by
  rw [hideR_get]
  cases w.heap[k]? <;> simp [h]
theorem hideR_cell {w : World} {B C : Nat} {a : Addr} {u : Value} (h : (hideR w B C).cell? a = some u) : ¬ (B ≤ a.block ∧ a.block < C) ∧ w.cell? a = some u := by
  by_cases hb : B ≤ a.block ∧ a.block < C
  · simp only [World.cell?, hideR_get, if_pos hb] at h
    cases hw : w.heap[a.block]? <;> rw [hw] at h <;> cases h
  · refine ⟨hb, ?_⟩
    rw [← h]
    exact (World.cell?_of_block (hideR_other hb)).symm
/-- What Inverse hands back of an operation that was there at w0 reads on without the blocks laid since. -/
theorem InvS.hides {w0 W W' : World} {o r : OpF} {v : Value} {cs : Array Value} (h0 : OpV w0 v o) (hb : Below w0.heap.size w0 W) (hb' : Below W.heap.size W W')
    (hX : ∀ X : World, OpV X v o → (∀ a u, W.heap.size ≤ a.block → W'.cell? a = some u → X.cell? a = some u) → OpV X (.agg cs) r) : OpH W' (fun b => w0.heap.size ≤ b ∧ b < W.heap.size) (.agg cs) r := by
  refine ⟨hideR W' w0.heap.size W.heap.size, fun a u ha => hideR_cell ha, hX _ (h0.cells fun a u ha => ?_) fun a u hC ha => ?_⟩
  · have hlt := World.block_lt_of_cell? w0 a ha
    rw [← ha]
    exact World.cell?_of_block ((hideR_other (by omega)).trans ((hb'.block _ (Nat.lt_of_lt_of_le hlt hb.size)).trans (hb.block _ hlt)))
  · rw [← ha]
    exact World.cell?_of_block (hideR_other (by omega))
theorem rev_take {os : List OpF} {k : Nat} (hk : k < os.length) : os.reverse.take (k + 1) = os.reverse.take k ++ [os.getD (os.length - 1 - k) zeroO] := by
  have h1 : k < os.reverse.length := by simpa using hk
  have h2 : os.length - 1 - k < os.length := by omega
  have e : os.getD (os.length - 1 - k) zeroO = os.reverse[k] := by simp [h2]
  rw [e, List.take_append_getElem h1]
theorem all_stop2 {os : List OpF} {k : Nat} (hk : k < os.length) (h0 : ∀ o ∈ os.reverse.take k, invE o = 0) (h1 : invE (os.getD (os.length - 1 - k) zeroO) ≠ 0) : allE os = invE (os.getD (os.length - 1 - k) zeroO) ∧ allR os = [] := by
  have he : allE os = invE (os.getD (os.length - 1 - k) zeroO) := by
    have hs : os.reverse = os.reverse.take (k + 1) ++ os.reverse.drop (k + 1) := (List.take_append_drop _ _).symm
    rw [allE, hs, List.map_append, firstE_app, rev_take hk, List.map_append, firstE_app]
    have hz : firstE ((os.reverse.take k).map invE) = 0 := firstE_zero.2 fun e hx => by obtain ⟨y, hy, rfl⟩ := List.mem_map.1 hx; exact h0 y hy
    have hx : firstE ([os.getD (os.length - 1 - k) zeroO].map invE) = invE (os.getD (os.length - 1 - k) zeroO) := by
      have h2 : (invE (os.getD (os.length - 1 - k) zeroO) != 0) = true := by simpa using h1
      rw [List.map_cons, List.map_nil, firstE, List.find?_cons, h2]
      rfl
    rw [if_pos hz, hx, if_neg h1]
  exact ⟨he, by rw [allR, if_neg (by rw [he]; exact h1)]⟩
theorem all_end {os : List OpF} (h0 : ∀ o ∈ os.reverse.take os.length, invE o = 0) : allE os = 0 ∧ allR os = (os.reverse.take os.length).map invO := by
  have ht : os.reverse.take os.length = os.reverse := List.take_of_length_le (by simp)
  rw [ht] at h0 ⊢
  have he : allE os = 0 := allE_zero.2 fun o ho => h0 o (List.mem_reverse.2 ho)
  exact ⟨he, by rw [allR, if_pos he]⟩

set_option maxHeartbeats 8000000 in
set_option maxRecDepth 100000 in
theorem rall_any (os : List OpF) (v : Value) (w : World) (hv : OpsV w v os) (hk : ∀ o ∈ os, OpK o) : Calls Try.prog 20 #[v] w (AllP os w) := by
  obtain ⟨a, c, rfl⟩ := hv.slice
  have hlen := hv.len
  have HV := Lib.hid hv; have HK := Lib.hid hk
  obtain ⟨i0, hi, hz0, hz1, hz2⟩ := info_parts info_ops
  have HI := Lib.hid hi; have HZ0 := Lib.hid hz0; have HZ1 := Lib.hid hz1; have HZ2 := Lib.hid hz2
  clear hv hk hi hz0 hz1 hz2
  go_enter Try.func20, Try.ntmps20
  go_wp2_with fail
  go_loopw [4, 10] (fun out i wr => ∃ k : Nat, k ≤ os.length ∧ i = .int .i64 k ∧ Below w.heap.size w wr ∧ (∃ a2 n2 c2, out = .slice a2 n2 c2) ∧ Hid (OpsO wr w.heap.size 0 out ((os.reverse.take k).map invO)) ∧ Hid (∀ o ∈ os.reverse.take k, invE o = 0)) (fun _ i _ => os.length - (intOf i).toNat)
  case atStart => exact ⟨0, Nat.zero_le _, rfl, gr_refl w, ⟨_, _, _, rfl⟩, Lib.hid ⟨[], OwnSl.nil _ _ _ _ _, rfl, fun i hi => by simp at hi⟩, Lib.hid (fun o ho => by simp at ho)⟩
  case round =>
    obtain ⟨k, hk, rfl, hb, ⟨a2, n2, c2, rfl⟩, HO, HZ⟩ := hrel
    by_cases hlt : k < os.length
    case pos =>
      obtain ⟨j, hj⟩ : ∃ j, os.length - 1 - k = j := ⟨_, rfl⟩
      have hjl : j < os.length := by omega
      have hsub : (os.length : Int) - 1 - (k : Int) = (j : Int) := by omega
      obtain ⟨b, off, cs, rfl, hc, hr, hl, ho⟩ := HV.out.at_ j hjl
      have HR := Lib.hid (range_below hr hb (Nat.le_refl _)); have HOI := Lib.hid (op_info_l hl); have HB := Lib.hid hb
      obtain ⟨o, hoe⟩ : ∃ o, os.getD j zeroO = o := ⟨_, rfl⟩
      rw [hoe] at ho
      have hok := HK.out (os.getD j zeroO) (by simp [hjl])
      rw [hoe] at hok
      obtain ⟨EE, hEE⟩ : ∃ EE, invE o = EE := ⟨_, rfl⟩
      have hcall := rinv_s o _ wr (ho.later hb) hok.2.1
      rw [hEE] at hcall
      have HCL := Lib.hid hcall; have HEE := Lib.hid hEE; have HOE := Lib.hid hoe; have HOV := Lib.hid ho; have HJ := Lib.hid hj
      clear hr hl ho hb hok hEE hcall hoe hj
      go_wp2_with (refine wpList_load_mid rfl 35 _ rfl b (off + j * 21) rfl cs _ HR.out Try.underlying35 rfl HOI.out ?_)
      refine HCL.out.mono ?_
      rintro e w2 ⟨cA, rfl, hb2, hX⟩
      have HH := Lib.hid (InvS.hides HOV.out HB.out hb2 hX)
      have H1 := Lib.hid HH.out.opV.one
      obtain ⟨fr1, fr2⟩ := fresh_row w2 #[.int .i64 0, .slice none 0 0, .slice none 0 0, .int .i64 0, .bool false, .slice none 0 0, .slice none 0 0, .slice none 0 0, .slice none 0 0, .slice none 0 0, .slice none 0 0, .bool false, .slice none 0 0, .int .i64 0, .slice none 0 0, .int .i64 0, .bool false, .slice none 0 0, .int .i64 0, .slice none 0 0, .int .i64 0] cA 35
      have HF1 := Lib.hid fr1; have HF2 := Lib.hid fr2; have HB2 := Lib.hid hb2; have HT := Lib.hid (info_op H1.out.2)
      clear fr1 fr2 hb2 hX HCL HR HOV
      go_upto_region 6 with (refine wpList_store_row rfl 35 _ _ rfl _ _ rfl rfl 35 _ (heap_alloc_new w2 (.cells #[.int .i64 0, .slice none 0 0, .slice none 0 0, .int .i64 0, .bool false, .slice none 0 0, .slice none 0 0, .slice none 0 0, .slice none 0 0, .slice none 0 0, .slice none 0 0, .bool false, .slice none 0 0, .int .i64 0, .slice none 0 0, .int .i64 0, .bool false, .slice none 0 0, .int .i64 0, .slice none 0 0, .int .i64 0] 35)) HT.out H1.out.2.symm H1.out.1 ?_)
      generalize World.setRow (w2.alloc _) _ _ = U at *
      by_cases h0 : EE = 0
      case neg =>
        have q : (EE != 0) = true := by simpa using h0
        obtain ⟨s1, s2⟩ := all_stop2 hlt HZ.out (by rw [HJ.out, HOE.out, HEE.out]; exact h0)
        rw [HJ.out, HOE.out, HEE.out] at s1
        have S1 := Lib.hid s1; have S2 := Lib.hid s2
        clear h0 s1 s2
        go_wp2_with fail
        go_ret2
        exact ⟨_, by rw [S1.out]; rfl, by rw [S2.out]; exact OpsV.nil _, gr_tr HB.out (gr_tr HB2.out HF1.out)⟩
      subst h0
      have hbU : Below wr.heap.size wr U := gr_tr HB2.out HF1.out
      obtain ⟨es, hes, hel, -⟩ := id HO.out
      have hpl : es.length < os.length := by rw [hel, List.length_map, List.length_take, List.length_reverse]; omega
      have HES := Lib.hid hes; have HEL := Lib.hid hel
      have HRW := Lib.hid (row_below (row_below hes.1 hbU (Nat.le_refl _)) (gr_al (gr_refl U) (.cells cA 35)) (Nat.le_refl _))
      have HNW : Hid (∀ j u, cA.toList[j]? = some u → (U.alloc (.cells cA 35)).cell? ((⟨U.heap.size, 0, none⟩ : Addr).add j) = some u) := Lib.hid (fun j u hj => by
        rw [Addr.add_lit, cell_of_row _ U.heap.size (0 + j) _ _ (0, 0) (heap_alloc_new U _), Nat.zero_add]
        simpa using hj)
      have HON : Hid (∀ u ∈ cA.toList, u.oneCell' = true) := Lib.hid (fun u hu => (Array.all_eq_true_iff_forall_mem.1 H1.out.1) u (by simpa using hu))
      have HLL : Hid (cA.toList.length = 1 * 21) := Lib.hid (by rw [Array.length_toList, H1.out.2])
      have HB1 : Hid (es.length + 1 ≤ maxLen) := Lib.hid (by unfold maxLen; omega)
      have HB3 : Hid ((es.length + 1) * 360 ≤ 140737488355328) := Lib.hid (by omega)
      have HWU := Lib.hid hbU
      have HSU := Lib.hid (show w.heap.size ≤ (U.alloc (.cells cA 35)).heap.size from (gr_tr HB.out (gr_tr hbU (gr_al (gr_refl U) _))).size)
      clear hes hel hbU
      go_wp2_with (first
        | (refine wpList_load_row rfl 35 _ rfl w2.heap.size rfl 35 _ (0, 0) _ HF2.out Try.underlying35 rfl HT.out ?_)
        | (refine wpList_build_op rfl _ rfl cA rfl H1.out.2 ?_)
        | (at_builtin; refine wpList_append_own_at _ rfl _ _ 46 rfl w.heap.size 35 i0 _ 21 360 Try.underlying46 HI.out HZ0.out HZ1.out HZ2.out rfl (by decide) (.slice a2 n2 c2) es.length es.flatten rfl HRW.out ⟨U.heap.size, 0, none⟩ 1 1 cA.toList rfl HLL.out HNW.out HON.out HB1.out HB3.out HSU.out ?_; intro v' w3 hown' hgrow' _ hat; obtain ⟨g', cap', rfl⟩ := ownsRow_succ hown'; have HOWN := Lib.hid hown'; have HGROW := Lib.hid hgrow'; have HAT := Lib.hid hat; clear hown' hgrow' hat))
      have hbU := HWU.out
      have hpush := OpsO.push2 (w := wr) (w2 := w2) (u := U.alloc (.cells cA 35)) (w1 := w3) (cs := cA.toList) HO.out HH.out (by rw [Array.length_toList]; exact H1.out.2) (fun b hb => (HES.out.lt b hb)) (fun b hb => absurd hb (Nat.not_lt_zero _)) (by rw [← HEL.out]; omega) (gr_tr hbU (gr_al (gr_refl U) _)) (fun b hb => (gr_tr HF1.out (gr_al (gr_refl U) _)).block b hb) (gr_tr HF1.out (gr_al (gr_refl U) _)).size es HES.out HEL.out HOWN.out HGROW.out HAT.out
      have hbw : Below w.heap.size w w3 := (gr_tr HB.out (gr_tr hbU (gr_al (gr_refl U) (.cells cA 35)))).grown HGROW.out HSU.out fun b hb => (HES.out.lt b hb).1
      go_roundw
      case rel =>
        refine ⟨k + 1, by omega, by go_num, hbw, ⟨_, _, _, rfl⟩, Lib.hid ?_, Lib.hid fun o' ho' => ?_⟩
        · rw [rev_take hlt, List.map_append, HJ.out, HOE.out]
          exact hpush
        · rw [rev_take hlt, HJ.out, HOE.out] at ho'
          rcases List.mem_append.1 ho' with h | h
          · exact HZ.out o' h
          · rw [List.mem_singleton.1 h]
            exact HEE.out
      case measure => simp [intOf]; omega
    have hkn : k = os.length := by omega
    subst hkn
    obtain ⟨s1, s2⟩ := all_end HZ.out
    have S1 := Lib.hid s1; have S2 := Lib.hid s2; have HB := Lib.hid hb
    clear s1 s2 hlt hk hb
    have qk : decide (os.length < os.length) = false := by simp
    go_wp2_with fail
    go_ret2
    exact ⟨_, by rw [S1.out]; rfl, by rw [S2.out]; exact HO.out.ops, HB.out⟩

/- Walk of the law BackAll. -/
theorem rall_as (os R : List OpF) (E : Int) (hE : allE os = E) (hR : allR os = R) (v : Value) (w : World) (hv : OpsV w v os) (hk : ∀ o ∈ os, OpK o) :
    Calls Try.prog 20 #[v] w fun e w' => ∃ a n c, e = .returned (.tuple #[.slice a n c, .int .i64 E]) ∧ OpsV w' (.slice a n c) R ∧ R.length = n ∧ Below w.heap.size w w' := by
  subst hE hR
  refine (rall_any os v w hv hk).mono ?_
  rintro e w' ⟨v', rfl, h, hb⟩
  obtain ⟨a, n, c, rfl, hn⟩ := h.form
  exact ⟨a, n, c, rfl, h, hn, hb⟩

set_option maxHeartbeats 4000000 in
set_option maxRecDepth 100000 in
theorem ballw_walk (l : List OpF) (v1 : Value) (w : World) (h1 : OpsV w v1 l ∧ ∀ o ∈ l, OpK o) : Calls Try.prog 5 #[v1] w fun e w' => e = .returned (.bool true) ∧ Below w.heap.size w w' := by
  obtain ⟨hv1, hk1⟩ := h1
  obtain ⟨a1, n1, c1, rfl, hn1⟩ := hv1.form
  obtain ⟨EL, hEL⟩ : ∃ x, allE l = x := ⟨_, rfl⟩
  obtain ⟨RL, hRL⟩ : ∃ x, allR l = x := ⟨_, rfl⟩
  have HEL := Lib.hid hEL; have HRL := Lib.hid hRL
  have HLEN := Lib.hid hv1.len
  have HV1 := Lib.hid hv1; have HK1 := Lib.hid hk1; have HN1 := Lib.hid hn1
  have HLV := Lib.hid (live11_any w)
  clear hv1 hk1 hEL hRL hn1
  go_enter Try.func5, Try.ntmps5
  go_wp2_with fail
  refine HLV.out.mono ?_
  rintro e wa ⟨rfl, hb⟩
  have HA1 := Lib.hid (HV1.out.later hb); have LA := Lib.hid hb
  clear hb HV1 HLV
  go_wp2_with fail
  refine (fewall_any l 20 _ _ HA1.out).mono ?_
  rintro e wb ⟨b, rfl, -, hb⟩
  have HB1 := Lib.hid (HA1.out.later hb); have LB := Lib.hid (gr_tr LA.out hb)
  clear hb HA1 LA
  cases b
  case false =>
    go_wp2_with fail
    go_ret
    exact ⟨rfl, LB.out⟩
  have HNIL := Lib.hid (OpsB.nil wb)
  have HS1 := Lib.hid (show (([] : List OpF).length + l.length) * 360 ≤ 140737488351232 by have := HLEN.out; simpa using this)
  go_wp2_with (refine wpList_append_ops (by rfl) _ _ rfl wb _ [] l rfl HNIL.out a1 n1 c1 rfl HB1.out HS1.out ?_; intro a2 n2 c2 wc hob; have HOB := Lib.hid hob; clear hob HNIL)
  have HC1 := Lib.hid (HB1.out.later HOB.out.1); have LC := Lib.hid (gr_tr LB.out HOB.out.1); have HC2 := Lib.hid (show OpsV wc (.slice a2 n2 c2) l from HOB.out.ops)
  clear HB1 LB HOB
  refine (ball_as l RL EL HEL.out HRL.out _ _ HC1.out HK1.out).mono ?_
  rintro e wd ⟨a3, n3, c3, rfl, hv3, -, hb⟩
  have HD1 := Lib.hid (HC1.out.later hb); have HD2 := Lib.hid (HC2.out.later hb); have LD := Lib.hid (gr_tr LC.out hb); have HD3 := Lib.hid hv3
  clear hb HC1 HC2 LC hv3
  go_wp2_with fail
  refine (rall_as l RL EL HEL.out HRL.out _ _ HD1.out HK1.out).mono ?_
  rintro e we ⟨a4, n4, c4, rfl, hv4, -, hb⟩
  have HE1 := Lib.hid (HD1.out.later hb); have HE2 := Lib.hid (HD2.out.later hb); have LE := Lib.hid (gr_tr LD.out hb); have HE3 := Lib.hid (HD3.out.later hb); have HE4 := Lib.hid hv4
  clear hb HD1 HD2 HD3 LD hv4
  go_wp2_with fail
  refine (rsall_yes RL _ _ _ HE3.out HE4.out).mono ?_
  rintro e wf ⟨rfl, hb⟩
  have HF1 := Lib.hid (HE1.out.later hb); have HF2 := Lib.hid (HE2.out.later hb); have LF := Lib.hid (gr_tr LE.out hb)
  clear hb HE1 HE2 HE3 HE4 LE
  have q : (EL == EL) = true := by simp
  go_wp2_with fail
  refine (rsall_yes l _ _ _ HF1.out HF2.out).mono ?_
  rintro e wg ⟨rfl, hb⟩
  have LG := Lib.hid (gr_tr LF.out hb)
  clear hb HF1 HF2 LF
  go_wp2_with fail
  go_ret
  exact ⟨rfl, LG.out⟩
end Go.Proofs.Ytcbljiiomnhbjaa
