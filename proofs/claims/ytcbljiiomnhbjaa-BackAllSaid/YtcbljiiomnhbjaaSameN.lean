/- Walks of slices.EqualFunc at nodes and of node.Same. -/
import Derived.Test.YtcbljiiomnhbjaaSame04
namespace Go.Proofs.Ytcbljiiomnhbjaa
set_option maxRecDepth 100000
open Go.RowKit

/-- Are two lists of trees one? -/
noncomputable def eqK (s t : List Tree) : Bool := @decide (s = t) (Classical.propDecidable _)
theorem eqK_yes {s t : List Tree} (h : s = t) : eqK s t = true := by
  unfold eqK
  exact @decide_eq_true _ (Classical.propDecidable _) h
theorem eqK_no {s t : List Tree} (h : s ≠ t) : eqK s t = false := by
  unfold eqK
  exact @decide_eq_false _ (Classical.propDecidable _) h
/-- A slice of nodes. -/
def KidsAt (S : Nat → Prop) (w : World) (v : Value) (ks : List Tree) : Prop := ∃ es, Sl S w 4 80 v es ∧ es.length = ks.length ∧ ∀ i, i < ks.length → NodeAt S w (es.getD i []) (ks.getD i default)
theorem KidsAt.later {S : Nat → Prop} {w w' : World} {v : Value} {ks : List Tree} (h : KidsAt S w v ks) (hb : Below w.heap.size w w') : KidsAt S w' v ks := by
  obtain ⟨es, h1, h2, h3⟩ := h
  exact ⟨es, h1.later hb (Nat.le_refl _), h2, fun i hi => (h3 i hi).later hb (Nat.le_refl _)⟩
theorem KidsAt.slice {S : Nat → Prop} {w : World} {v : Value} {ks : List Tree} (h : KidsAt S w v ks) : ∃ a c, v = .slice a ks.length c ∧ ks.length * 80 ≤ 140737488351232 := by
  obtain ⟨es, h1, h2, _⟩ := h
  obtain ⟨a, c, rfl⟩ := h1.slice
  have := h1.len
  rw [h2] at this ⊢
  exact ⟨a, c, rfl, this⟩
/-- What whoever is handed in answers of two nodes. -/
def Eqs (G : FuncId) (k : Tree) : Prop := ∀ (t : Tree) (cs ds : List Value) (S S' : Nat → Prop) (w : World), NodeAt S w cs k → NodeAt S' w ds t →
    Calls Try.prog G #[.agg (List.toArray cs), .agg (List.toArray ds)] w fun e w' => e = .returned (.bool (eqT k t)) ∧ Below w.heap.size w w'

set_option maxHeartbeats 4000000 in
theorem eqf_any (G : FuncId) (eg : ∀ args w, (callFunc G args).run Try.prog w = .ok (.enter G args) w) (ks ks' : List Tree) (hG : ∀ k ∈ ks, Eqs G k) (S S' : Nat → Prop) (v v' : Value) (w : World) (h1 : KidsAt S w v ks) (h2 : KidsAt S' w v' ks') :
    Calls Try.prog 69 #[v, v', .func (.func G) #[] #[]] w fun e w' => e = .returned (.bool (eqK ks ks')) ∧ Below w.heap.size w w' := by
  obtain ⟨a, c, rfl, q1⟩ := h1.slice
  obtain ⟨a', c', rfl, q2⟩ := h2.slice
  have HG := Lib.hid hG; have H1 := Lib.hid h1; have H2 := Lib.hid h2
  clear hG h1 h2
  by_cases hk : ks.length = ks'.length
  case neg =>
    have HE : Hid (eqK ks ks' = false) := Lib.hid (eqK_no (by rintro rfl; exact hk rfl))
    have hd : (((ks.length : Nat) : Int) != ((ks'.length : Nat) : Int)) = true := by simp; omega
    clear hk
    go_enter Try.func69, Try.ntmps69
    go_wp2_with fail
    go_ret
    exact ⟨ret_bool HE.out.symm, gr_refl w⟩
  have hd : (((ks.length : Nat) : Int) != ((ks'.length : Nat) : Int)) = false := by simp [hk]
  have HK := Lib.hid hk
  clear hk
  go_enter Try.func69, Try.ntmps69
  go_wp2_with fail
  go_loopw [17] (fun i wr => ∃ k : Nat, k ≤ ks.length ∧ i = .int .i64 k ∧ Hid (ks.take k = ks'.take k) ∧ Hid (Below w.heap.size w wr)) (fun i _ => ks.length - (intOf i).toNat)
  case atStart => exact ⟨0, Nat.zero_le _, rfl, Lib.hid (by simp), Lib.hid (gr_refl w)⟩
  case round =>
    obtain ⟨k, hk, rfl, HT, HW⟩ := hrel
    by_cases hlt : k < ks.length
    · have hlt' : k < ks'.length := by have := HK.out; omega
      obtain ⟨es1, hk1, hl1, hall1⟩ := H1.out.later HW.out
      obtain ⟨es2, hk2, hl2, hall2⟩ := H2.out.later HW.out
      obtain ⟨b, off, f, p1, q1', r1, p2, q2', r2, p3, q3, r3, rfl, hc, hnk, hmem, e0, e1, e2, e3⟩ := kid_at hk1 hl1 hall1 k hlt
      obtain ⟨b', off', f', p1', q1'', r1', p2', q2'', r2', p3', q3', r3', rfl, hc', hnk', -, e0', e1', e2', e3'⟩ := kid_at hk2 hl2 hall2 k hlt'
      obtain ⟨q, hq⟩ : ∃ q, eqT (ks.getD k default) (ks'.getD k default) = q := ⟨_, rfl⟩
      have hbV := gr_al (gr_al (gr_refl wr) (.cells #[.bool f, .slice p1 q1' r1, .slice p2 q2' r2, .slice p3 q3 r3] 27)) (.cells #[.bool f', .slice p1' q1'' r1', .slice p2' q2'' r2', .slice p3' q3' r3'] 27)
      obtain ⟨-, hv1, hv2⟩ := two_boxesN wr #[.bool f, .slice p1 q1' r1, .slice p2 q2' r2, .slice p3 q3 r3] #[.bool f', .slice p1' q1'' r1', .slice p2' q2'' r2', .slice p3' q3' r3'] 27 27
      have hcall := HG.out _ hmem (ks'.getD k default) _ _ S S' _ (hnk.later hbV (Nat.le_refl _)) (hnk'.later hbV (Nat.le_refl _))
      rw [hq] at hcall
      have HC := Lib.hid hcall; have HQ := Lib.hid hq; have HV := Lib.hid hbV; have HV1 := Lib.hid hv1; have HV2 := Lib.hid hv2
      have hal1 := (gr_al (gr_refl wr) (.cells #[.bool f, .slice p1 q1' r1, .slice p2 q2' r2, .slice p3 q3 r3] 27))
      have j0 := (hal1.cell (World.block_lt_of_cell? wr _ e0')).trans e0'
      have j1 := (hal1.cell (World.block_lt_of_cell? wr _ e1')).trans e1'
      have j2 := (hal1.cell (World.block_lt_of_cell? wr _ e2')).trans e2'
      have j3 := (hal1.cell (World.block_lt_of_cell? wr _ e3')).trans e3'
      have hi1 : (k : Int) < (ks.length : Int) := by omega
      have hi2 : (k : Int) < (ks'.length : Int) := by omega
      have hi3 : (0 : Int) ≤ (k : Int) := by omega
      clear hk1 hl1 hall1 hk2 hl2 hall2 hnk hnk' hmem hq hcall hbV hv1 hv2 hal1 e0' e1' e2' e3'
      go_upto_region 7 with fail
      generalize World.alloc (World.alloc wr _) _ = V at *
      obtain ⟨⟨k0, k1, k2, k3⟩, _⟩ := four_facts HV1.out
      obtain ⟨⟨m0, m1, m2, m3⟩, _⟩ := four_facts HV2.out
      cases q
      · have HE : Hid (eqK ks ks' = false) := Lib.hid (eqK_no (by
          rintro rfl
          rw [eqT_yes rfl] at HQ
          exact absurd HQ.out (by decide)))
        go_wp2_with (go_at_fn G; refine HC.out.mono ?_; clear k0 k1 k2 k3 m0 m1 m2 m3; rintro e w3 ⟨rfl, hb3⟩)
        go_ret
        exact ⟨ret_bool HE.out.symm, gr_tr (gr_tr HW.out HV.out) hb3⟩
      · have HN2 := Lib.hid (take_eq_snoc HT.out hlt hlt' (eqT_iff.1 HQ.out))
        go_wp2_with (go_at_fn G; refine HC.out.mono ?_; clear k0 k1 k2 k3 m0 m1 m2 m3; rintro e w3 ⟨rfl, hb3⟩)
        go_roundw
        case rel => exact ⟨k + 1, by omega, by go_num, HN2, Lib.hid (gr_tr (gr_tr HW.out HV.out) hb3)⟩
        case measure => simp [intOf]; omega
    · have hke : k = ks.length := by omega
      subst hke
      have HE : Hid (eqK ks ks' = true) := Lib.hid (eqK_yes (takes_all HK.out HT.out))
      clear hlt
      go_wp2_with fail
      go_ret
      exact ⟨ret_bool HE.out.symm, HW.out⟩

set_option maxHeartbeats 4000000 in
theorem nsame_any : ∀ (s : Tree), Eqs 57 s := by
  refine Tree.ind fun l ps xs ks ih => ?_
  intro t cs ds S S' w h1 h2
  obtain ⟨l', ps', xs', ks'⟩ := t
  have IH := Lib.hid ih
  clear ih
  obtain ⟨pv, tv, kv, es, rfl, p1, t1, k1, e1, g1⟩ := h1.open_
  obtain ⟨pv', tv', kv', es', rfl, p2, t2, k2, e2, g2⟩ := h2.open_
  simp only [Tree.leaf, Tree.props, Tree.text, Tree.kids] at *
  have kk1 : KidsAt S w kv ks := ⟨es, k1, e1, g1⟩
  have kk2 : KidsAt S' w kv' ks' := ⟨es', k2, e2, g2⟩
  obtain ⟨pa, pn, pc, rfl⟩ := p1.slice3
  obtain ⟨ta, tn, tc, rfl⟩ := t1.slice3
  obtain ⟨ka, kn, kc, rfl⟩ := k1.slice3
  obtain ⟨pa', pn', pc', rfl⟩ := p2.slice3
  obtain ⟨ta', tn', tc', rfl⟩ := t2.slice3
  obtain ⟨ka', kn', kc', rfl⟩ := k2.slice3
  obtain ⟨hbW, hx1, hx2⟩ := two_boxesN w #[.bool l, .slice pa pn pc, .slice ta tn tc, .slice ka kn kc] #[.bool l', .slice pa' pn' pc', .slice ta' tn' tc', .slice ka' kn' kc'] 27 27
  have HB := Lib.hid hbW; have HX1 := Lib.hid hx1; have HX2 := Lib.hid hx2
  have P1 := Lib.hid (p1.later hbW (Nat.le_refl _)); have P2 := Lib.hid (p2.later hbW (Nat.le_refl _)); have T1 := Lib.hid (t1.later hbW (Nat.le_refl _)); have T2 := Lib.hid (t2.later hbW (Nat.le_refl _))
  have K1 := Lib.hid (kk1.later hbW); have K2 := Lib.hid (kk2.later hbW)
  have HEN := Lib.hid (show ∀ args w, (callFunc 57 args).run Try.prog w = .ok (.enter 57 args) w from enters_of Try.func57 (by kernel_rfl) rfl)
  clear hbW hx1 hx2 p1 p2 t1 t2 k1 k2 e1 e2 g1 g2 h1 h2 kk1 kk2
  go_enter Try.func57, Try.ntmps57
  go_upto_region 1 with fail
  generalize World.alloc (World.alloc w _) _ = W at *
  have B1 := Lib.hid (nodeL HX1.out)
  have B2 := Lib.hid (nodeL HX2.out)
  obtain ⟨k0, k1, k2, k3⟩ := B1.out W (gr_refl W)
  obtain ⟨m0, m1, m2, m3⟩ := B2.out W (gr_refl W)
  by_cases hl : l = l'
  case neg =>
    have HE : Hid (eqT (.mk l ps xs ks) (.mk l' ps' xs' ks') = false) := Lib.hid (eqT_no (by simp [hl]))
    cases l <;> cases l'
    · exact absurd rfl hl
    · clear hl
      go_wp2_with fail
      go_ret
      exact ⟨ret_bool HE.out.symm, HB.out⟩
    · clear hl
      go_wp2_with fail
      go_ret
      exact ⟨ret_bool HE.out.symm, HB.out⟩
    · exact absurd rfl hl
  subst hl
  go_wp2_with fail
  refine (propsame_any ps ps' S S' _ _ W P1.out P2.out).mono ?_
  rintro e w1 ⟨rfl, hs1⟩
  have L1 := Lib.hid (sm_below hs1)
  clear k0 k1 k2 k3 m0 m1 m2 m3 hs1
  obtain ⟨k0, k1, k2, k3⟩ := B1.out w1 L1.out
  obtain ⟨m0, m1, m2, m3⟩ := B2.out w1 L1.out
  by_cases hp : ps = ps'
  case neg =>
    have HE : Hid (eqT (.mk l ps xs ks) (.mk l ps' xs' ks') = false) := Lib.hid (eqT_no (by simp [hp]))
    rw [decide_eq_false hp]
    clear hp
    go_wp2_with fail
    go_ret
    exact ⟨ret_bool HE.out.symm, gr_tr HB.out L1.out⟩
  rw [decide_eq_true hp]
  subst hp
  go_wp2_with fail
  refine (glyphsame_any xs xs' S S' _ _ w1 (T1.out.later L1.out (Nat.le_refl _)) (T2.out.later L1.out (Nat.le_refl _))).mono ?_
  rintro e w2 ⟨rfl, hs2⟩
  have L2 := Lib.hid (gr_sm L1.out hs2)
  clear k0 k1 k2 k3 m0 m1 m2 m3 hs2 L1
  obtain ⟨k0, k1, k2, k3⟩ := B1.out w2 L2.out
  obtain ⟨m0, m1, m2, m3⟩ := B2.out w2 L2.out
  by_cases ht : xs = xs'
  case neg =>
    have HE : Hid (eqT (.mk l ps xs ks) (.mk l ps xs' ks') = false) := Lib.hid (eqT_no (by simp [ht]))
    rw [decide_eq_false ht]
    clear ht
    go_wp2_with fail
    go_ret
    exact ⟨ret_bool HE.out.symm, gr_tr HB.out L2.out⟩
  rw [decide_eq_true ht]
  subst ht
  go_wp2_with fail
  refine (eqf_any 57 HEN.out ks ks' IH.out S S' _ _ w2 (K1.out.later L2.out) (K2.out.later L2.out)).mono ?_
  rintro e w3 ⟨rfl, hb3⟩
  have HE : Hid (eqK ks ks' = eqT (.mk l ps xs ks) (.mk l ps xs ks')) := Lib.hid (by
    by_cases hk : ks = ks'
    · subst hk; rw [eqK_yes rfl, eqT_yes rfl]
    · rw [eqK_no hk, eqT_no (by simp [hk])])
  have L3 := Lib.hid (gr_tr L2.out hb3)
  clear k0 k1 k2 k3 m0 m1 m2 m3 hb3
  go_wp2_with fail
  go_ret
  exact ⟨ret_bool HE.out, gr_tr HB.out L3.out⟩
end Go.Proofs.Ytcbljiiomnhbjaa
