/- Walk of the closure of tree.Add. -/
import Derived.Test.YtdcpoeaddhbjbaaClos5
import Derived.Deep.DrawnRows
namespace Go.Proofs.Ytdcpoeaddhbjbaa
set_option maxRecDepth 100000
open Go.RowKit
attribute [local go_sem ↓] Go.wp_at_zero Go.wp_at_succ

theorem turns_err {C : Nat} {W W' : World} {F : Nat → Prop} {b o : Nat} {er : Int} {s : Tree} (h0 : er ≠ 0) (hh : W'.heap = W.heap) (hb : Below C W W') : Turns C W F b o (er, s) (.returned (.int .i64 er)) W' :=
  ⟨rfl, hb, fun x _ _ _ => by rw [hh], Wrote.same o (by rw [hh]), fun h => absurd h h0⟩
theorem addK_leaf {i : Int} {m s : Tree} (h : s.leaf = true) : addK i m s = (7, s) := by rw [addK, if_pos h]
theorem addK_pos {i : Int} {m s : Tree} (h : s.leaf = false) (hi : i < 0 ∨ (s.kids.length : Int) < i) : addK i m s = (8, s) := by rw [addK, if_neg (by simp [h]), if_pos hi]
theorem addK_ok {i : Int} {m s : Tree} (h : s.leaf = false) (h0 : 0 ≤ i) (h1 : i ≤ (s.kids.length : Int)) : addK i m s = (0, .mk s.leaf s.props s.text (s.kids.insertIdx i.toNat m)) := by rw [addK, if_neg (by simp [h]), if_neg (by omega)]

set_option maxHeartbeats 8000000 in
theorem add_turner (bi bm : Nat) (i : Int) (m : Tree) (mcs : List Value) (S : Nat → Prop) (s : Tree) (w0 : World) (hbi : w0.cell? ⟨bi, 0, none⟩ = some (.int .i64 i)) (hbm : w0.heap[bm]? = some (.cells mcs.toArray 26 (0, 0))) (hm : NodeAt S w0 mcs m)
    (hI : -9223372036854775808 ≤ i ∧ i ≤ 9223372036854775807) (hsz : (s.kids.length + 1) * 80 ≤ 140737488351232) :
    Turner 95 #[.pointer (some ⟨bi, 0, none⟩), .pointer (some ⟨bm, 0, none⟩)] w0 s (addK i m s) := by
  intro W F b o hW hb hF hbox
  have hbl := hbox.lt
  have hci := ends_cells hbi hW
  have hbiw : bi < w0.heap.size := World.block_lt_of_cell? w0 _ hbi
  have hbmw : bm < w0.heap.size := lt_of_block hbm
  obtain ⟨d1, e1, f1, d2, e2, f2, d3, e3, f3, rfl⟩ := hm.form
  obtain ⟨⟨m0, m1, m2, m3⟩, _⟩ := four_facts (blk_below hbm hW)
  obtain ⟨cs, hr, hth, htr, hFb⟩ := hbox
  cases htr with
  | @mk _ l ps xs ks pv tv kv es Fp Fi hp ht hk hl hg hpF hiF hd hall =>
    replace hsz : (ks.length + 1) * 80 ≤ 140737488351232 := hsz
    obtain ⟨r0, r1, r2, r3⟩ := range4 hr
    cases l with
    | true =>
      have HE := Lib.hid (show Turns w0.heap.size W F b o (addK i m (.mk true ps xs ks)) (.returned (.int .i64 7)) W from by rw [addK_leaf rfl]; exact turns_err (by decide) rfl (Below.refl _ _))
      clear hW hb hF hr hth hFb hp ht hk hl hg hpF hiF hd hall hbi hbm hm hsz
      show Calls Try.prog _ #[_, _, _] W _
      go_enter Try.func95, Try.ntmps95
      go_wp2_with fail
      go_ret
      exact HE.out
    | false =>
      obtain ⟨a, c, rfl⟩ := (hk.sl (by decide)).slice
      have hone := es_one hl hall
      by_cases hbad : i < 0 ∨ (ks.length : Int) < i
      · have HE := Lib.hid (fun (W' : World) (h1 : W'.heap = W.heap) (h2 : Below w0.heap.size W W') => show Turns w0.heap.size W F b o (addK i m (.mk false ps xs ks)) (.returned (.int .i64 8)) W' from by rw [addK_pos rfl hbad]; exact turns_err (by decide) h1 h2)
        rw [hl] at *
        clear hW hb hF hr hth hFb hp ht hk hl hg hpF hiF hd hall hbi hbm hm hone
        by_cases hneg : i < 0
        · have hd : decide (i < 0) = true := by simpa using hneg
          show Calls Try.prog _ #[_, _, _] W _
          go_enter Try.func95, Try.ntmps95
          go_wp2_with fail
          go_quiet (fail)
          go_wp2_with fail
          go_ret
          exact HE.out _ (by simp [World.drewN]) (below_drewN (Below.refl _ _) _)
        · have hd : decide (i < 0) = false := by simpa using hneg
          have hd2 : (ks.length : Int) < i := by omega
          show Calls Try.prog _ #[_, _, _] W _
          go_enter Try.func95, Try.ntmps95
          go_wp2_with fail
          go_quiet (fail)
          go_wp2_with fail
          go_ret
          exact HE.out _ (by simp [World.drewN]) (below_drewN (Below.refl _ _) _)
      · obtain ⟨k, rfl⟩ : ∃ k : Nat, i = (k : Int) := ⟨i.toNat, by omega⟩
        have hkk : k ≤ es.length := by omega
        have hneg : decide ((k : Int) < 0) = false := by simp
        have hle : ¬ ((es.length : Int) < (k : Int)) := by omega
        rw [← hl] at hsz
        have hkvb : (Value.slice a es.length c).ownBlock ≠ some b := fun h => hFb (hg b h).1
        have HD := Lib.hid (fun (W1 : World) (hW1 : Below W.heap.size W W1) (vb : Nat) (ncs : List Value) (hv : W1.heap[vb]? = some (.cells ncs.toArray 26 (0, 0))) (hvb : W.heap.size ≤ vb) (hn4 : ncs.length = 4) (h1v : ∀ u ∈ ncs, u.oneCell' = true) =>
          ins_nodes es ncs 0 vb es.length c k a (k : Int) W1 (hk.later hW1 (Nat.le_refl _)) rfl hkk (Nat.zero_le _) hn4 hv (fun g hg' => by have := (hF g (hg g hg').1).2; omega) h1v hone hsz)
        have HC := Lib.hid (fun (W1 : World) (hW1 : Below W.heap.size W W1) => copy_any m _ S W1 (hm.later (gr_tr hW hW1) (Nat.le_refl _)))
        have HEND : Hid (∀ (W1 w2 w3 w4 : World) (x0 x1 x2 x3 v' : Value), Below W.heap.size W W1 → Below W1.heap.size W1 w2 → Tr w2 (fun x => W1.heap.size ≤ x) [x0, x1, x2, x3] m → Inserted 0 es k [x0, x1, x2, x3] (.slice a es.length c) (w2.alloc (.cells #[x0, x1, x2, x3] 26)) (.returned v') w3 → w4 = w3.setCell ⟨b, o + 3, none⟩ v' →
            Turns w0.heap.size W F b o (addK (k : Int) m (.mk false ps xs ks)) (.returned (.int .i64 0)) w4) := Lib.hid (fun W1 w2 w3 w4 x0 x1 x2 x3 v' hb1 hb2 ht2 hins hw4 => by
          obtain ⟨v'', he, ho, hs3, hfr, hbel, hat⟩ := hins
          simp only [Ending.returned.injEq] at he
          subst he
          have hs2 := hb2.size
          have hs1 := hb1.size
          have hsa : (w2.alloc (.cells #[x0, x1, x2, x3] 26)).heap.size = w2.heap.size + 1 := by simp
          have hwc := gr_tr hb1 hb2
          obtain ⟨q1, q2, q3⟩ := add_box (k := k) (wc := w2) (Fn := fun x => W1.heap.size ≤ x ∧ x < w2.heap.size) hr hth hFb (fun x hx => (hF x hx).2) hbl hp ht hl hg hpF hiF hd hall (by omega) ht2.there (fun x hx => by omega) (by omega)
            (fun x hx hne => (hfr x (by omega) hne).trans (Below.heap_alloc _ _ _ hx)) (fun x hx => hwc.block x hx) ho (fun g hg' => by
              rcases hat g hg' with h | h
              · exact .inl h
              · exact .inr (by omega)) hw4
          rw [addK_ok rfl (by omega) (by show (k : Int) ≤ (ks.length : Int); omega)]
          refine ⟨rfl, ?_, q2, q3, fun _ => q1⟩
          rw [hw4]
          have hww := hW.size
          exact (((hwc.mono hww).alloc (by omega) _).trans (hbel w0.heap.size (by omega) (fun g hg' => (hF g (hg g hg').1).1))).setCell (p := ⟨b, o + 3, none⟩) hb _)
        have HST : Hid (∀ (w2 : World), Below W.heap.size W w2 → w2.cell? ⟨b, o + 3, none⟩ = some (.slice a es.length c) ∧ w2.cell? ⟨bi, 0, none⟩ = some (.int .i64 k) ∧ b < w2.heap.size ∧ bi < w2.heap.size ∧ w2.cell? ⟨bm, 0, none⟩ = some (.bool m.leaf) ∧ w2.cell? ⟨bm, 1, none⟩ = some (.slice d1 e1 f1) ∧ w2.cell? ⟨bm, 2, none⟩ = some (.slice d2 e2 f2) ∧ w2.cell? ⟨bm, 3, none⟩ = some (.slice d3 e3 f3)) := Lib.hid (fun w2 h => by
          have k := fun (a : Addr) (v : Value) (hc : W.cell? a = some v) => (h.cell (p := a) (World.block_lt_of_cell? W _ hc)).trans hc
          exact ⟨k _ _ r3, k _ _ hci, by have := h.size; omega, by have := h.size; have := hW.size; omega, k _ _ m0, k _ _ m1, k _ _ m2, k _ _ m3⟩)
        have HSB : Hid (∀ (W2 w3 : World), Below W.heap.size W W2 → (∀ x, x < W2.heap.size → (Value.slice a es.length c).ownBlock ≠ some x → w3.heap[x]? = W2.heap[x]?) → (w3.cell? ⟨b, o + 3, none⟩ = some (.slice a es.length c)) ∧ w3.frozen? ⟨b, o + 3, none⟩ = false) := Lib.hid (fun W2 w3 h hx => by
          have e := (hx b (by have := h.size; omega) hkvb).trans (h.block b hbl)
          obtain ⟨z0, z1, z2, z3⟩ := there4 hth
          exact ⟨(World.cell?_of_block (w := W) (w' := w3) (a := ⟨b, o + 3, none⟩) e).trans r3, (World.frozen?_of_block (w := W) (w' := w3) (a := ⟨b, o + 3, none⟩) e).trans z3⟩)
        clear hW hb hF hr hth hFb hp ht hk hl hg hpF hiF hd hall hbi hbm hm hone hbad hkk hsz hkvb hI r1 r2
        show Calls Try.prog _ #[_, _, _] W _
        go_enter Try.func95, Try.ntmps95
        go_wp2_with fail
        go_quiet (fail)
        go_wp2_with fail
        have hDW : Below W.heap.size W (W.drewN nq) := below_drewN (Below.refl _ _) nq
        generalize World.drewN W nq = WD at *
        clear r0 r3 hci m0 m1 m2 m3 hbl
        obtain ⟨r3, hci, hbl, hbil, m0, m1, m2, m3⟩ := HST.out WD hDW
        have HDW := Lib.hid hDW
        clear hDW
        go_region_with (first
          | (go_at_call 66; refine (HC.out _ (gr_dr HDW.out)).mono ?_; intro e w2 hc; obtain ⟨lc, b1, o1, x1, b2, o2, x2, b3, o3, x3, rfl, ht2, hb2⟩ := copied_form hc; clear hc; clear r3 hci hbl hbil m0 m1 m2 m3; obtain ⟨r3, hci, hbl, hbil, m0, m1, m2, m3⟩ := HST.out w2 (gr_tr (gr_dr HDW.out) hb2); have HT2 := Lib.hid ht2; have HB2 := Lib.hid hb2; clear ht2 hb2)
          | (go_at_call 96; refine (HD.out _ (gr_al (gr_tr (gr_dr HDW.out) HB2.out) _) w2.heap.size [.bool lc, .slice b1 o1 x1, .slice b2 o2 x2, .slice b3 o3 x3] (heap_alloc_new w2 _) (gr_tr (gr_dr HDW.out) HB2.out).size rfl (by simp [Value.oneCell'])).mono ?_; rintro e w3 ⟨v3, rfl, ho3, hs3, hx3, hbel3, hat3⟩; obtain ⟨va, vn, vc, rfl⟩ := (ho3.sl (by decide)).slice3; clear r3 hci hbl hbil m0 m1 m2 m3; obtain ⟨r3, z3⟩ := HSB.out _ w3 (gr_al (gr_tr (gr_dr HDW.out) HB2.out) _) hx3; have HINS := Lib.hid (show Inserted 0 es k [.bool lc, .slice b1 o1 x1, .slice b2 o2 x2, .slice b3 o3 x3] (.slice a es.length c) (w2.alloc (.cells #[.bool lc, .slice b1 o1 x1, .slice b2 o2 x2, .slice b3 o3 x3] 26)) (.returned (.slice va vn vc)) w3 from ⟨_, rfl, ho3, hs3, hx3, hbel3, hat3⟩); clear ho3 hs3 hx3 hbel3 hat3))
        all_goals
          have HE := Lib.hid (HEND.out _ _ _ _ _ _ _ _ _ (gr_dr HDW.out) HB2.out HT2.out HINS.out rfl)
          clear HT2 HB2 HINS HEND HSB HST HC HD r3 z3
          go_wp2
          go_ret
          exact HE.out
end Go.Proofs.Ytdcpoeaddhbjbaa
