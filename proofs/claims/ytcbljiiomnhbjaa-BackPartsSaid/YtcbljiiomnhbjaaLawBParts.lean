/- Walk of the law BackParts; an append of operations, whatever they are, onto a row of the call's own. -/
import Derived.Test.YtcbljiiomnhbjaaBMany
namespace Go.Proofs.Ytcbljiiomnhbjaa
set_option maxRecDepth 100000
open Go.RowKit

set_option maxHeartbeats 4000000 in
set_option maxRecDepth 100000 in
theorem bparts_walk (l m : List OpF) (v1 v2 : Value) (w : World) (h1 : OpsV w v1 l ∧ ∀ o ∈ l, OpK o) (h2 : OpsV w v2 m ∧ ∀ o ∈ m, OpK o) : Calls Try.prog 6 #[v1, v2] w fun e w' => e = .returned (.bool true) ∧ Below w.heap.size w w' := by
  obtain ⟨hv1, hk1⟩ := h1
  obtain ⟨hv2, hk2⟩ := h2
  obtain ⟨a1, n1, c1, rfl, hn1⟩ := hv1.form
  obtain ⟨a2, n2, c2, rfl, hn2⟩ := hv2.form
  obtain ⟨EL, hEL⟩ : ∃ x, allE l = x := ⟨_, rfl⟩
  obtain ⟨EM, hEM⟩ : ∃ x, allE m = x := ⟨_, rfl⟩
  obtain ⟨EC, hEC⟩ : ∃ x, allE (l ++ m) = x := ⟨_, rfl⟩
  obtain ⟨RL, hRL⟩ : ∃ x, allR l = x := ⟨_, rfl⟩
  obtain ⟨RM, hRM⟩ : ∃ x, allR m = x := ⟨_, rfl⟩
  obtain ⟨RC, hRC⟩ : ∃ x, allR (l ++ m) = x := ⟨_, rfl⟩
  have hc : EC = if EM = 0 then EL else EM := by rw [← hEC, ← hEM, ← hEL, allE_app]
  have hr0 : EC ≠ 0 → RC = [] := fun h => by rw [← hRC, allR, if_neg (by rw [hEC]; exact h)]
  have hr1 : EL = 0 → EM = 0 → RC = RM ++ RL := fun h h' => by rw [← hRC, ← hRM, ← hRL, allR_app (by rw [hEL, h]) (by rw [hEM, h'])]
  have HEL := Lib.hid hEL; have HEM := Lib.hid hEM; have HEC := Lib.hid hEC; have HRL := Lib.hid hRL; have HRM := Lib.hid hRM; have HRC := Lib.hid hRC
  have HC := Lib.hid hc; have HR0 := Lib.hid hr0; have HR1 := Lib.hid hr1
  have HV1 := Lib.hid hv1; have HV2 := Lib.hid hv2; have HK1 := Lib.hid hk1; have HK2 := Lib.hid hk2; have HN1 := Lib.hid hn1; have HN2 := Lib.hid hn2
  have HLV := Lib.hid (live11_any w)
  clear hv1 hv2 hk1 hk2 hEL hEM hEC hRL hRM hRC hc hr0 hr1 hn1 hn2
  go_enter Try.func6, Try.ntmps6
  go_wp2_with fail
  refine HLV.out.mono ?_
  rintro e wa ⟨rfl, hb⟩
  have HA1 := Lib.hid (HV1.out.later hb); have HA2 := Lib.hid (HV2.out.later hb); have LA := Lib.hid hb
  clear hb HV1 HV2 HLV
  go_wp2_with fail
  refine (fewall_any l 12 _ _ HA1.out).mono ?_
  rintro e wb ⟨b, rfl, hm, hb⟩
  have HB1 := Lib.hid (HA1.out.later hb); have HB2 := Lib.hid (HA2.out.later hb); have LB := Lib.hid (gr_tr LA.out hb)
  have HM1 := Lib.hid hm
  clear hb HA1 HA2 LA hm
  cases b
  case false =>
    go_wp2_with fail
    go_ret
    exact ⟨rfl, LB.out⟩
  have HL1 := Lib.hid (show l.length ≤ 12 by have := HM1.out rfl; omega)
  clear HM1
  go_wp2_with fail
  refine (fewall_any m 12 _ _ HB2.out).mono ?_
  rintro e wc ⟨b, rfl, hm, hb⟩
  have HC1 := Lib.hid (HB1.out.later hb); have HC2 := Lib.hid (HB2.out.later hb); have LC := Lib.hid (gr_tr LB.out hb)
  have HM2 := Lib.hid hm
  clear hb HB1 HB2 LB hm
  cases b
  case false =>
    go_wp2_with fail
    go_ret
    exact ⟨rfl, LC.out⟩
  have HL2 := Lib.hid (show m.length ≤ 12 by have := HM2.out rfl; omega)
  clear HM2
  go_wp2_with fail
  refine (ball_as l RL EL HEL.out HRL.out _ _ HC1.out HK1.out).mono ?_
  rintro e wd ⟨a3, n3, c3, rfl, hv3, hn3, hb⟩
  have HD1 := Lib.hid (HC1.out.later hb); have HD2 := Lib.hid (HC2.out.later hb); have LD := Lib.hid (gr_tr LC.out hb); have HD3 := Lib.hid hv3; have HN3 := Lib.hid hn3
  clear hb HC1 HC2 LC hv3 hn3
  go_wp2_with fail
  refine (ball_as m RM EM HEM.out HRM.out _ _ HD2.out HK2.out).mono ?_
  rintro e we ⟨a4, n4, c4, rfl, hv4, hn4, hb⟩
  have HE1 := Lib.hid (HD1.out.later hb); have HE2 := Lib.hid (HD2.out.later hb); have LE := Lib.hid (gr_tr LD.out hb); have HE3 := Lib.hid (HD3.out.later hb); have HE4 := Lib.hid hv4; have HN4 := Lib.hid hn4
  clear hb HD1 HD2 LD hv4 hn4 HD3
  have HNIL := Lib.hid (OpsB.nil we)
  have HS1 := Lib.hid (show (([] : List OpF).length + l.length) * 360 ≤ 140737488351232 by have := HL1.out; simp; omega)
  have HS2 := Lib.hid (show (([] ++ l : List OpF).length + m.length) * 360 ≤ 140737488351232 by have := HL1.out; have := HL2.out; simp; omega)
  have HKC : Hid (∀ o ∈ l ++ m, OpK o) := Lib.hid (fun o ho => by
    rcases List.mem_append.1 ho with h | h
    · exact HK1.out o h
    · exact HK2.out o h)
  go_wp2_with (first
    | (refine wpList_append_ops (by rfl) _ _ rfl we _ [] l rfl HNIL.out a1 n1 c1 rfl HE1.out HS1.out ?_; intro a5 n5 c5 wf hob5; have HOB5 := Lib.hid hob5; clear hob5 HNIL)
    | (refine wpList_append_ops (by rfl) _ _ rfl we _ _ m rfl HOB5.out a2 n2 c2 rfl HE2.out HS2.out ?_; intro a6 n6 c6 wg hob6; have HOB6 := Lib.hid hob6; clear hob6 HOB5))
  refine (ball_as (l ++ m) RC EC HEC.out HRC.out _ _ HOB6.out.ops HKC.out).mono ?_
  rintro e wh ⟨a7, n7, c7, rfl, hv7, hn7, hb⟩
  have hbh := gr_tr HOB6.out.1 hb
  have HF3 := Lib.hid (HE3.out.later hbh); have HF4 := Lib.hid (HE4.out.later hbh); have LF := Lib.hid (gr_tr LE.out hbh); have HF7 := Lib.hid hv7; have HN7 := Lib.hid hn7
  clear hb hbh HE1 HE2 HE3 HE4 LE hv7 hn7 HOB6
  by_cases h0 : EM = 0
  case neg =>
    have q : (EM != 0) = true := by simpa using h0
    have hec : EC = EM := by rw [HC.out, if_neg h0]
    have hrc : RC = [] := HR0.out (by rw [hec]; exact h0)
    have hn : n7 = 0 := by rw [← HN7.out, hrc]; rfl
    clear HC HR0 HR1
    subst hec hn
    clear h0
    go_wp2_with fail
    go_ret
    exact ⟨rfl, LF.out⟩
  subst h0
  by_cases h0 : EL = 0
  case neg =>
    have q : (EL != 0) = true := by simpa using h0
    have hec : EC = EL := by rw [HC.out, if_pos rfl]
    have hrc : RC = [] := HR0.out (by rw [hec]; exact h0)
    have hn : n7 = 0 := by rw [← HN7.out, hrc]; rfl
    clear HC HR0 HR1
    subst hec hn
    clear h0
    go_wp2_with fail
    go_ret
    exact ⟨rfl, LF.out⟩
  subst h0
  have hec : EC = 0 := by rw [HC.out, if_pos rfl]
  have hrc : RC = RM ++ RL := HR1.out rfl rfl
  clear HC HR0 HR1
  subst hec hrc
  have hRL : RL.length ≤ 12 := by
    have h1 := HL1.out
    rw [← HRL.out, allR, if_pos HEL.out]
    simpa using h1
  have hRM : RM.length ≤ 12 := by
    have h1 := HL2.out
    rw [← HRM.out, allR, if_pos HEM.out]
    simpa using h1
  have HNIL := Lib.hid (OpsB.nil wh)
  have HS3 := Lib.hid (show (([] : List OpF).length + RM.length) * 360 ≤ 140737488351232 by simp; omega)
  have HS4 := Lib.hid (show (([] ++ RM : List OpF).length + RL.length) * 360 ≤ 140737488351232 by simp; omega)
  clear hRL hRM
  go_wp2_with (first
    | (refine wpList_append_ops (by rfl) _ _ rfl wh _ [] RM rfl HNIL.out a4 n4 c4 rfl HF4.out HS3.out ?_; intro a8 n8 c8 wi hob8; have HOB8 := Lib.hid hob8; clear hob8 HNIL)
    | (refine wpList_append_ops (by rfl) _ _ rfl wh _ _ RL rfl HOB8.out a3 n3 c3 rfl HF3.out HS4.out ?_; intro a9 n9 c9 wj hob9; have HOB9 := Lib.hid hob9; clear hob9 HOB8))
  refine (rsall_yes (RM ++ RL) _ _ _ (HF7.out.later HOB9.out.1) HOB9.out.ops).mono ?_
  rintro e wk ⟨rfl, hb⟩
  have LK := Lib.hid (gr_tr LF.out (gr_tr HOB9.out.1 hb))
  clear hb HOB9 LF HF3 HF4 HF7
  go_wp2_with fail
  go_ret
  exact ⟨rfl, LK.out⟩
end Go.Proofs.Ytcbljiiomnhbjaa
