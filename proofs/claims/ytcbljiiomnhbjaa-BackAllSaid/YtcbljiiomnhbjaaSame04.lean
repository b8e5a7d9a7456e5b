/- Walks of redlineref04.Same, slices.EqualFunc at nodes, node.Same: whether two trees are one. -/
import Derived.Test.YtcbljiiomnhbjaaSameL
import Derived.Test.YtcbljiiomnhbjaaRCopy
import Derived.Test.YtcbljiiomnhbjaaLater
import Derived.Shelf.Abstract
namespace Go.Proofs.Ytcbljiiomnhbjaa
set_option maxRecDepth 100000
open Go.RowKit

/-- Are two trees one? -/
noncomputable def eqT (s t : Tree) : Bool := @decide (s = t) (Classical.propDecidable _)
theorem eqT_yes {s t : Tree} (h : s = t) : eqT s t = true := by
  unfold eqT
  exact @decide_eq_true _ (Classical.propDecidable _) h
theorem eqT_no {s t : Tree} (h : s ≠ t) : eqT s t = false := by
  unfold eqT
  exact @decide_eq_false _ (Classical.propDecidable _) h
theorem eqT_iff {s t : Tree} : eqT s t = true ↔ s = t := ⟨fun h => Classical.byContradiction fun hn => absurd h (by rw [eqT_no hn]; decide), eqT_yes⟩

/-- Cells that were there, in a later world. -/
theorem keep10 {w w' : World} (hb : Below w.heap.size w w') {a0 a1 a2 a3 a4 a5 a6 a7 a8 a9 : Nat × Nat} {v0 v1 v2 v3 v4 v5 v6 v7 v8 v9 : Value} (h : w.cell? ⟨a0.1, a0.2, none⟩ = some v0 ∧ w.cell? ⟨a1.1, a1.2, none⟩ = some v1 ∧ w.cell? ⟨a2.1, a2.2, none⟩ = some v2 ∧ w.cell? ⟨a3.1, a3.2, none⟩ = some v3 ∧ w.cell? ⟨a4.1, a4.2, none⟩ = some v4 ∧
    w.cell? ⟨a5.1, a5.2, none⟩ = some v5 ∧ w.cell? ⟨a6.1, a6.2, none⟩ = some v6 ∧ w.cell? ⟨a7.1, a7.2, none⟩ = some v7 ∧ w.cell? ⟨a8.1, a8.2, none⟩ = some v8 ∧ w.cell? ⟨a9.1, a9.2, none⟩ = some v9) :
    w'.cell? ⟨a0.1, a0.2, none⟩ = some v0 ∧ w'.cell? ⟨a1.1, a1.2, none⟩ = some v1 ∧ w'.cell? ⟨a2.1, a2.2, none⟩ = some v2 ∧ w'.cell? ⟨a3.1, a3.2, none⟩ = some v3 ∧ w'.cell? ⟨a4.1, a4.2, none⟩ = some v4 ∧
    w'.cell? ⟨a5.1, a5.2, none⟩ = some v5 ∧ w'.cell? ⟨a6.1, a6.2, none⟩ = some v6 ∧ w'.cell? ⟨a7.1, a7.2, none⟩ = some v7 ∧ w'.cell? ⟨a8.1, a8.2, none⟩ = some v8 ∧ w'.cell? ⟨a9.1, a9.2, none⟩ = some v9 := by
  have k : ∀ (a : Addr) (v : Value), w.cell? a = some v → w'.cell? a = some v := fun a v h => (hb.cell (p := a) (World.block_lt_of_cell? w _ h)).trans h
  obtain ⟨h0, h1, h2, h3, h4, h5, h6, h7, h8, h9⟩ := h
  exact ⟨k _ _ h0, k _ _ h1, k _ _ h2, k _ _ h3, k _ _ h4, k _ _ h5, k _ _ h6, k _ _ h7, k _ _ h8, k _ _ h9⟩

set_option maxHeartbeats 8000000 in
theorem r4same_any : ∀ (s t : Tree) (cs ds : List Value) (S S' : Nat → Prop) (w : World), NodeAt S w cs s → NodeAt S' w ds t →
    Calls Try.prog 17 #[.agg (List.toArray cs), .agg (List.toArray ds)] w fun e w' => e = .returned (.bool (eqT s t)) ∧ Below w.heap.size w w' := by
  refine Tree.ind fun l ps xs ks ih => ?_
  intro t cs ds S S' w h1 h2
  obtain ⟨l', ps', xs', ks'⟩ := t
  have IH := Lib.hid ih
  clear ih
  obtain ⟨pv, tv, kv, es, rfl, p1, t1, k1, e1, g1⟩ := h1.open_
  obtain ⟨pv', tv', kv', es', rfl, p2, t2, k2, e2, g2⟩ := h2.open_
  simp only [Tree.leaf, Tree.props, Tree.text, Tree.kids] at *
  obtain ⟨pa, pc, rfl⟩ := p1.slice
  obtain ⟨ta, tc, rfl⟩ := t1.slice
  obtain ⟨ka, kc, rfl⟩ := k1.slice
  obtain ⟨pa', pc', rfl⟩ := p2.slice
  obtain ⟨ta', tc', rfl⟩ := t2.slice
  obtain ⟨ka', kc', rfl⟩ := k2.slice
  simp only [List.length_map] at *
  rw [e1] at k1 h1 ⊢
  rw [e2] at k2 h2 ⊢
  have q1 := k1.len
  have q2 := k2.len
  rw [e1] at q1
  rw [e2] at q2
  obtain ⟨hbW, hx1, hx2⟩ := two_boxesN w #[.bool l, .slice pa ps.length pc, .slice ta xs.length tc, .slice ka ks.length kc] #[.bool l', .slice pa' ps'.length pc', .slice ta' xs'.length tc', .slice ka' ks'.length kc'] 27 27
  have HB := Lib.hid hbW; have HX1 := Lib.hid hx1; have HX2 := Lib.hid hx2
  have P1 := Lib.hid (p1.later hbW (Nat.le_refl _)); have P2 := Lib.hid (p2.later hbW (Nat.le_refl _)); have T1 := Lib.hid (t1.later hbW (Nat.le_refl _)); have T2 := Lib.hid (t2.later hbW (Nat.le_refl _))
  have N1 := Lib.hid (h1.later hbW (Nat.le_refl _)); have N2 := Lib.hid (h2.later hbW (Nat.le_refl _))
  clear hbW hx1 hx2 p1 p2 t1 t2 k1 k2 e1 e2 g1 g2 h1 h2
  go_enter Try.func17, Try.ntmps17
  go_upto_region 1 with fail
  generalize World.alloc (World.alloc w _) _ = W at *
  have B1 := Lib.hid (nodeL HX1.out)
  have B2 := Lib.hid (nodeL HX2.out)
  obtain ⟨k0, k1, k2, k3⟩ := B1.out W (gr_refl W)
  obtain ⟨m0, m1, m2, m3⟩ := B2.out W (gr_refl W)
  by_cases hl : l = l'
  case neg =>
    have HE : Hid (eqT (.mk l ps xs ks) (.mk l' ps' xs' ks') = false) := Lib.hid (eqT_no (by simp [hl]))
    cases l <;> cases l'
    · exact absurd rfl hl
    · clear hl
      go_wp2_with fail
      go_ret
      exact ⟨ret_bool HE.out.symm, HB.out⟩
    · clear hl
      go_wp2_with fail
      go_ret
      exact ⟨ret_bool HE.out.symm, HB.out⟩
    · exact absurd rfl hl
  subst hl
  go_wp2_with fail
  refine (r01same_any ps ps' S S' _ _ W P1.out P2.out).mono ?_
  rintro e w1 ⟨rfl, hs1⟩
  have L1 := Lib.hid (sm_below hs1)
  clear k0 k1 k2 k3 m0 m1 m2 m3 hs1
  obtain ⟨k0, k1, k2, k3⟩ := B1.out w1 L1.out
  obtain ⟨m0, m1, m2, m3⟩ := B2.out w1 L1.out
  by_cases hp : ps = ps'
  case neg =>
    have HE : Hid (eqT (.mk l ps xs ks) (.mk l ps' xs' ks') = false) := Lib.hid (eqT_no (by simp [hp]))
    rw [decide_eq_false hp]
    clear hp
    go_wp2_with fail
    go_ret
    exact ⟨ret_bool HE.out.symm, gr_tr HB.out L1.out⟩
  rw [decide_eq_true hp]
  subst hp
  go_wp2_with fail
  refine (r03same_any xs xs' S S' _ _ w1 (T1.out.later L1.out (Nat.le_refl _)) (T2.out.later L1.out (Nat.le_refl _))).mono ?_
  rintro e w2 ⟨rfl, hs2⟩
  have L2 := Lib.hid (gr_sm L1.out hs2)
  clear k0 k1 k2 k3 m0 m1 m2 m3 hs2 L1
  obtain ⟨k0, k1, k2, k3⟩ := B1.out w2 L2.out
  obtain ⟨m0, m1, m2, m3⟩ := B2.out w2 L2.out
  by_cases ht : xs = xs'
  case neg =>
    have HE : Hid (eqT (.mk l ps xs ks) (.mk l ps xs' ks') = false) := Lib.hid (eqT_no (by simp [ht]))
    rw [decide_eq_false ht]
    clear ht
    go_wp2_with fail
    go_ret
    exact ⟨ret_bool HE.out.symm, gr_tr HB.out L2.out⟩
  rw [decide_eq_true ht]
  subst ht
  by_cases hk : ks.length = ks'.length
  case neg =>
    have HE : Hid (eqT (.mk l ps xs ks) (.mk l ps xs ks') = false) := Lib.hid (eqT_no (by intro h; simp at h; exact hk (by rw [h])))
    have hd : (((ks.length : Nat) : Int) != ((ks'.length : Nat) : Int)) = true := by simp; omega
    clear hk
    go_wp2_with fail
    go_ret
    exact ⟨ret_bool HE.out.symm, gr_tr HB.out L2.out⟩
  have hd : (((ks.length : Nat) : Int) != ((ks'.length : Nat) : Int)) = false := by simp [hk]
  have HK := Lib.hid hk
  clear hk
  go_wp2_with fail
  go_loopw [39] (fun i wr => ∃ k : Nat, k ≤ ks.length ∧ i = .int .i64 k ∧ Hid (ks.take k = ks'.take k) ∧ Hid (Below W.heap.size W wr)) (fun i _ => ks.length - (intOf i).toNat)
  case atStart => exact ⟨0, Nat.zero_le _, rfl, Lib.hid (by simp), L2⟩
  case round =>
    obtain ⟨k, hk, rfl, HT, HW⟩ := hrel
    clear k0 k1 k2 k3 m0 m1 m2 m3
    obtain ⟨k0, k1, k2, k3⟩ := B1.out wr HW.out
    obtain ⟨m0, m1, m2, m3⟩ := B2.out wr HW.out
    by_cases hlt : k < ks.length
    · have hlt' : k < ks'.length := by have := HK.out; omega
      have hn1 := N1.out.later HW.out (Nat.le_refl _)
      have hn2 := N2.out.later HW.out (Nat.le_refl _)
      obtain ⟨_, _, _, es1, he1, _, _, hk1, hl1, hall1⟩ := hn1.open_
      obtain ⟨_, _, _, es2, he2, _, _, hk2, hl2, hall2⟩ := hn2.open_
      simp only [List.cons.injEq] at he1 he2
      obtain ⟨-, -, -, rfl, -⟩ := he1
      obtain ⟨-, -, -, rfl, -⟩ := he2
      obtain ⟨b, off, f, p1, q1', r1, p2, q2', r2, p3, q3, r3, rfl, hc, hnk, hmem, e0, e1, e2, e3⟩ := kid_at hk1 hl1 hall1 k hlt
      obtain ⟨b', off', f', p1', q1'', r1', p2', q2'', r2', p3', q3', r3', rfl, hc', hnk', -, e0', e1', e2', e3'⟩ := kid_at hk2 hl2 hall2 k hlt'
      obtain ⟨q, hq⟩ : ∃ q, eqT (ks.getD k default) (ks'.getD k default) = q := ⟨_, rfl⟩
      have HN := Lib.hid hnk; have HN' := Lib.hid hnk'; have HM : Hid (ks.getD k default ∈ ks) := Lib.hid hmem
      have HC := Lib.hid (fun w' (hb : Below wr.heap.size wr w') => by
        have := IH.out _ HM.out (ks'.getD k default) _ _ S S' w' (HN.out.later hb (Nat.le_refl _)) (HN'.out.later hb (Nat.le_refl _))
        rw [hq] at this
        exact this)
      have HQ := Lib.hid hq
      have hi1 : (k : Int) < (ks.length : Int) := by omega
      have hi2 : (k : Int) < (ks'.length : Int) := by omega
      have hi3 : (0 : Int) ≤ (k : Int) := by omega
      clear hn1 hn2 hk1 hl1 hall1 hk2 hl2 hall2 hnk hnk' hmem hq
      go_wp2_with fail
      go_region_held3 (fun w' => w'.cell? ⟨w.heap.size, 3, none⟩ = some (.slice (some ⟨b, off, none⟩) ks.length kc) ∧ w'.cell? ⟨w.heap.size + 1, 3, none⟩ = some (.slice (some ⟨b', off', none⟩) ks'.length kc') ∧
          w'.cell? ⟨b, off + k * 4, none⟩ = some (.bool f) ∧ w'.cell? ⟨b, off + k * 4 + 1, none⟩ = some (.slice p1 q1' r1) ∧ w'.cell? ⟨b, off + k * 4 + 2, none⟩ = some (.slice p2 q2' r2) ∧ w'.cell? ⟨b, off + k * 4 + 3, none⟩ = some (.slice p3 q3 r3) ∧
          w'.cell? ⟨b', off' + k * 4, none⟩ = some (.bool f') ∧ w'.cell? ⟨b', off' + k * 4 + 1, none⟩ = some (.slice p1' q1'' r1') ∧ w'.cell? ⟨b', off' + k * 4 + 2, none⟩ = some (.slice p2' q2'' r2') ∧ w'.cell? ⟨b', off' + k * 4 + 3, none⟩ = some (.slice p3' q3' r3'))
        (first | exact ⟨k3, m3, e0, e1, e2, e3, e0', e1', e2', e3'⟩ | exact hkeep)
        ((go_at_call 17; refine (HC.out _ (gr_dr (gr_refl wr))).mono ?_; rintro e w3 ⟨rfl, hb3⟩; replace hb3 := gr_tr (gr_dr (gr_refl wr)) hb3; have hkeep := keep10 (a0 := (_, _)) (a1 := (_, _)) (a2 := (_, _)) (a3 := (_, _)) (a4 := (_, _)) (a5 := (_, _)) (a6 := (_, _)) (a7 := (_, _)) (a8 := (_, _)) (a9 := (_, _)) hb3 ⟨k3, m3, e0, e1, e2, e3, e0', e1', e2', e3'⟩; have HB3 := Lib.hid (gr_tr HW.out hb3); clear hb3))
      clear k0 k1 k2 k3 m0 m1 m2 m3 e0 e1 e2 e3 e0' e1' e2' e3' hkeep
      cases q
      · have HE : Hid (eqT (.mk l ps xs ks) (.mk l ps xs ks') = false) := Lib.hid (eqT_no (by
          intro h
          simp only [Tree.mk.injEq, true_and] at h
          rw [h, eqT_yes rfl] at HQ
          exact absurd HQ.out (by decide)))
        go_wp2_with fail
        go_ret
        exact ⟨ret_bool HE.out.symm, gr_tr HB.out HB3.out⟩
      · have HN2 := Lib.hid (take_eq_snoc HT.out hlt hlt' (eqT_iff.1 HQ.out))
        go_wp2_with fail
        go_roundw
        case rel => exact ⟨k + 1, by omega, by go_num, HN2, HB3⟩
        case measure => simp [intOf]; omega
    · have hke : k = ks.length := by omega
      subst hke
      have HE : Hid (eqT (.mk l ps xs ks) (.mk l ps xs ks') = true) := Lib.hid (eqT_yes (by rw [takes_all HK.out HT.out]))
      clear hlt
      go_wp2_with fail
      go_ret
      exact ⟨ret_bool HE.out.symm, gr_tr HB.out HW.out⟩
end Go.Proofs.Ytcbljiiomnhbjaa
