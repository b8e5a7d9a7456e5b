/- Walk of redlineref05.Get: a copy of the node at a path. -/
import Derived.Test.YtdcpoeaddhbjbaaRCopy
import Derived.Test.YtdcpoeaddhbjbaaGets
namespace Go.Proofs.Ytdcpoeaddhbjbaa
set_option maxRecDepth 100000
open Go.RowKit

/-- At each round's head: the box holds the cells of the node so far. -/
def RGInv (S : Nat → Prop) (w : World) (t : Tree) (p : List Int) (k : Nat) (wr : World) : Prop :=
  ∃ (s : Tree) (l : Bool) (a1 : Option Addr) (n1 c1 : Nat) (a2 : Option Addr) (n2 c2 : Nat) (a3 : Option Addr) (c3 : Nat), NodeAt S w [.bool l, .slice a1 n1 c1, .slice a2 n2 c2, .slice a3 s.kids.length c3] s ∧ getT t p = getT s (p.drop k) ∧
    wr.heap[w.heap.size]? = some (.cells #[.bool l, .slice a1 n1 c1, .slice a2 n2 c2, .slice a3 s.kids.length c3] 26 (0, 0)) ∧ wr.heap[w.heap.size + 1]? = some (.cells #[.bool false, .slice none 0 0, .slice none 0 0, .slice none 0 0] 26 (0, 0)) ∧ Below w.heap.size w wr

theorem node_form3 {S : Nat → Prop} {w : World} {cs : List Value} {t : Tree} (h : NodeAt S w cs t) : ∃ (a1 : Option Addr) (n1 c1 : Nat) (a2 : Option Addr) (n2 c2 : Nat) (a3 : Option Addr) (c3 : Nat), cs = [.bool t.leaf, .slice a1 n1 c1, .slice a2 n2 c2, .slice a3 t.kids.length c3] := by
  obtain ⟨pv, tv, kv, es, rfl, h1, h2, h3, hl, _⟩ := h.open_
  obtain ⟨a1, c1, rfl⟩ := h1.slice
  obtain ⟨a2, c2, rfl⟩ := h2.slice
  obtain ⟨a3, c3, rfl⟩ := h3.slice
  exact ⟨a1, _, c1, a2, _, c2, a3, c3, by rw [hl]⟩
/-- A node's child, read where it lies. -/
theorem kid_of {S : Nat → Prop} {w : World} {l : Bool} {a1 : Option Addr} {n1 c1 : Nat} {a2 : Option Addr} {n2 c2 : Nat} {a3 : Option Addr} {n3 c3 : Nat} {t : Tree} (h : NodeAt S w [.bool l, .slice a1 n1 c1, .slice a2 n2 c2, .slice a3 n3 c3] t) (k : Nat) (hk : k < t.kids.length) :
    ∃ (b off : Nat) (b1 : Option Addr) (m1 d1 : Nat) (b2 : Option Addr) (m2 d2 : Nat) (b3 : Option Addr) (d3 : Nat), a3 = some ⟨b, off, none⟩ ∧ n3 ≤ c3 ∧ NodeAt S w [.bool (t.kids.getD k default).leaf, .slice b1 m1 d1, .slice b2 m2 d2, .slice b3 (t.kids.getD k default).kids.length d3] (t.kids.getD k default) ∧
      w.cell? ⟨b, off + k * 4, none⟩ = some (.bool (t.kids.getD k default).leaf) ∧ w.cell? ⟨b, off + k * 4 + 1, none⟩ = some (.slice b1 m1 d1) ∧ w.cell? ⟨b, off + k * 4 + 2, none⟩ = some (.slice b2 m2 d2) ∧ w.cell? ⟨b, off + k * 4 + 3, none⟩ = some (.slice b3 (t.kids.getD k default).kids.length d3) := by
  obtain ⟨pv, tv, kv, es, he, _, _, h3, hl, hall⟩ := h.open_
  simp only [List.cons.injEq] at he
  obtain ⟨_, _, _, rfl, _⟩ := he
  obtain ⟨b, off, l', p1, q1, r1, p2, q2, r2, p3, q3, r3, rfl, hc, hn, _, e0, e1, e2, e3⟩ := kid_at h3 hl hall k (by obtain ⟨a, c, hs⟩ := h3.slice; simp only [Value.slice.injEq] at hs; omega)
  obtain ⟨b1, m1, d1, b2, m2, d2, b3, d3, hf⟩ := node_form3 hn
  simp only [List.cons.injEq, Value.bool.injEq, Value.slice.injEq, and_true] at hf
  obtain ⟨rfl, ⟨rfl, rfl, rfl⟩, ⟨rfl, rfl, rfl⟩, rfl, rfl, rfl⟩ := hf
  exact ⟨b, off, _, _, _, _, _, _, _, _, rfl, hc, hn, e0, e1, e2, e3⟩
theorem kids_80 {S : Nat → Prop} {w : World} {cs : List Value} {t : Tree} (h : NodeAt S w cs t) : t.kids.length * 80 ≤ 140737488351232 := by
  obtain ⟨pv, tv, kv, es, rfl, _, _, h3, hl, _⟩ := h.open_
  have := h3.len
  rwa [hl] at this

set_option maxHeartbeats 2000000 in
theorem rget_any (S : Nat → Prop) (t : Tree) (cs : List Value) (p : List Int) (v : Value) (w : World) (h : NodeAt S w cs t) (hp : Ints w v p) (hi : I64 p) :
    Calls Try.prog 54 #[.agg (List.toArray cs), v] w (Found w (getT t p) 5) := by
  obtain ⟨a1, n1, c1, a2, n2, c2, a3, c3, rfl⟩ := node_form3 h
  obtain ⟨ap, cp, rfl, lp, bp, op⟩ := hp.open_
  obtain ⟨hb, hx1, hx2⟩ := two_boxesN w #[.bool t.leaf, .slice a1 n1 c1, .slice a2 n2 c2, .slice a3 t.kids.length c3] #[.bool false, .slice none 0 0, .slice none 0 0, .slice none 0 0] 26 26
  have HI0 : Hid (RGInv S w t p 0 ((w.alloc (.cells #[.bool t.leaf, .slice a1 n1 c1, .slice a2 n2 c2, .slice a3 t.kids.length c3] 26)).alloc (.cells #[.bool false, .slice none 0 0, .slice none 0 0, .slice none 0 0] 26))) := by
    show RGInv _ _ _ _ _ _
    exact ⟨t, _, _, _, _, _, _, _, _, _, h, rfl, hx1, hx2, hb⟩
  have HI := Lib.hid hi
  have OP := Lib.hid op
  clear h hp hi hb hx1 hx2 op
  go_enter Try.func54, Try.ntmps54
  go_wp2_with fail
  generalize World.alloc (World.alloc w _) _ = W at *
  go_loopw [10] (fun i wr => ∃ k : Nat, k ≤ p.length ∧ i = .int .i64 k ∧ RGInv S w t p k wr) (fun i _ => p.length - (intOf i).toNat)
  case atStart => exact ⟨0, Nat.zero_le _, rfl, HI0.out⟩
  case round =>
    obtain ⟨k, hk, rfl, s, l, a1', n1', c1', a2', n2', c2', a3', c3', hn, hg, hx1, hx2, hbw⟩ := hrel
    obtain ⟨⟨k0, k1, k2, k3⟩, ⟨m0, m1, m2, m3⟩⟩ := four_facts hx1
    obtain ⟨⟨k0', k1', k2', k3'⟩, ⟨m0', m1', m2', m3'⟩⟩ := four_facts hx2
    have h80 := kids_80 hn
    have HN := Lib.hid hn; have HG := Lib.hid hg; have HX1 := Lib.hid hx1; have HX2 := Lib.hid hx2; have HBW := Lib.hid hbw
    clear HI0 hn hg hx1 hx2 hbw
    by_cases hlt : k < p.length
    · obtain ⟨pb, pf, rfl, hpc⟩ := OP.out (by omega)
      have d0 := hpc k hlt
      have d1 := (HBW.out.cell (p := ⟨pb, pf + k, none⟩) (World.block_lt_of_cell? w _ d0)).trans d0
      have hget : p.getD k 0 = p[k] := by simp [hlt]
      rw [hget] at d1
      clear d0 hpc hget
      have hbd := HI.out p[k] (by simp)
      have HNN := Lib.hid (fun hx => at_none hlt HG.out hx)
      have HDR : Hid (p.drop k = p[k] :: p.drop (k + 1)) := by show _ = _; exact List.drop_eq_getElem_cons hlt
      by_cases hok : 0 ≤ p[k] ∧ p[k].toNat < s.kids.length
      · obtain ⟨hpos, hlt2⟩ := hok
        obtain ⟨b, off, b1, q1, d1', b2, q2, d2', b3, d3', rfl, hc, hkid, e0, e1, e2, e3⟩ := kid_of (HN.out.later HBW.out (Nat.le_refl _)) p[k].toNat hlt2
        obtain ⟨b', off', b1', q1', d1'', b2', q2', d2'', b3', d3'', hbb, _, hkid0, f0, f1, f2, f3⟩ := kid_of HN.out p[k].toNat hlt2
        simp only [Option.some.injEq, Addr.mk.injEq] at hbb
        obtain ⟨rfl, rfl, _⟩ := hbb
        have x1 := (HBW.out.cell (p := ⟨b, off + p[k].toNat * 4 + 1, none⟩) (World.block_lt_of_cell? w _ f1)).trans f1
        have x2 := (HBW.out.cell (p := ⟨b, off + p[k].toNat * 4 + 2, none⟩) (World.block_lt_of_cell? w _ f2)).trans f2
        have x3 := (HBW.out.cell (p := ⟨b, off + p[k].toNat * 4 + 3, none⟩) (World.block_lt_of_cell? w _ f3)).trans f3
        rw [e1] at x1; rw [e2] at x2; rw [e3] at x3
        simp only [Option.some.injEq, Value.slice.injEq, true_and] at x1 x2 x3
        obtain ⟨rfl, rfl, rfl⟩ := x1
        obtain ⟨rfl, rfl, rfl⟩ := x2
        obtain ⟨rfl, rfl⟩ := x3
        have hneg : decide (p[k] < 0) = false := by simpa using hpos
        have hge : decide ((s.kids.length : Int) ≤ p[k]) = false := by simp; omega
        have hl2 : p[k] < (s.kids.length : Int) := by omega
        have HK := Lib.hid hkid0
        have HGK : Hid (getT t p = getT (s.kids.getD p[k].toNat default) (p.drop (k + 1))) := by
          show _ = _
          rw [HG.out, HDR.out, getT_cons, if_pos ⟨hpos, hlt2⟩]
        clear hkid hkid0 f0 f1 f2 f3 HNN HDR
        generalize s.kids.getD p[k].toNat default = sk at *
        go_wp2_with fail
        go_roundw
        case rel =>
          have hne : w.heap.size + 1 ≠ w.heap.size := by omega
          refine ⟨k + 1, by omega, by go_num, sk, _, _, _, _, _, _, _, _, _, HK.out, HGK.out, four_block HX1.out, ?_, set4z HBW.out (Nat.le_refl _)⟩
          rw [four_stored _ hne]
          exact HX2.out
        case measure => simp [intOf]; omega
      · have HE := Lib.hid (HNN.out hok)
        have hd : (p[k] < 0) ∨ (0 ≤ p[k] ∧ (s.kids.length : Int) ≤ p[k]) := by omega
        have hfb := four_block (u0 := .bool false) (u1 := .slice none 0 0) (u2 := .slice none 0 0) (u3 := .slice none 0 0) HX2.out
        have hfw := set4z (g := w.heap.size + 1) (u0 := .bool false) (u1 := .slice none 0 0) (u2 := .slice none 0 0) (u3 := .slice none 0 0) HBW.out (by omega)
        have HF := Lib.hid hfb; have HW := Lib.hid hfw
        clear hok HNN HDR hfb hfw
        rcases hd with hd | ⟨hd, hd2⟩
        · have hneg : decide (p[k] < 0) = true := by simpa using hd
          go_wp2_with fail
          have hfb := HF.out; have hfw := HW.out
          obtain ⟨⟨j0, j1, j2, j3⟩, _⟩ := four_facts hfb
          generalize World.setCell (World.setCell (World.setCell (World.setCell wr _ _) _ _) _ _) _ _ = wf at *
          exact bodyPost_ret (v := .tuple #[zeroN, .int .i64 5]) (by simp [results, Try.results54, go_sem, j0, j1, j2, j3]) rfl ⟨hfw, .inl ⟨HE.out, rfl⟩⟩
        · have hneg : decide (p[k] < 0) = false := by simpa using hd
          have hge : decide ((s.kids.length : Int) ≤ p[k]) = true := by simpa using hd2
          go_wp2_with fail
          have hfb := HF.out; have hfw := HW.out
          obtain ⟨⟨j0, j1, j2, j3⟩, _⟩ := four_facts hfb
          generalize World.setCell (World.setCell (World.setCell (World.setCell wr _ _) _ _) _ _) _ _ = wf at *
          exact bodyPost_ret (v := .tuple #[zeroN, .int .i64 5]) (by simp [results, Try.results54, go_sem, j0, j1, j2, j3]) rfl ⟨hfw, .inl ⟨HE.out, rfl⟩⟩
    · have hkn : k = p.length := by omega
      have HE : Hid (getT t p = some s) := by show _ = _; rw [HG.out, hkn, List.drop_length]; rfl
      have HC := Lib.hid (rcopyN_any s _ S wr (HN.out.later HBW.out (Nat.le_refl _)))
      subst hkn
      go_wp2_with fail
      refine HC.out.mono ?_
      intro e w2 hc
      obtain ⟨l', b1, o1, d1, b2, o2, d2, b3, o3, d3, rfl, ht, hb⟩ := copied_form hc
      clear hc HC k0 k1 k2 k3 m0 m1 m2 m3 k0' k1' k2' k3' m0' m1' m2' m3'
      have hblk2 := blk_below HX2.out hb
      have hlt2 := lt_of_block HX2.out
      have hsz := hb.size
      have hsz0 := HBW.out.size
      have hfb := four_block (u0 := .bool l') (u1 := .slice b1 o1 d1) (u2 := .slice b2 o2 d2) (u3 := .slice b3 o3 d3) hblk2
      have hfs := four_stored (w' := w2) (g := w.heap.size + 1) (u0 := .bool l') (u1 := .slice b1 o1 d1) (u2 := .slice b2 o2 d2) (u3 := .slice b3 o3 d3)
      have hfw := set4z (g := w.heap.size + 1) (u0 := .bool l') (u1 := .slice b1 o1 d1) (u2 := .slice b2 o2 d2) (u3 := .slice b3 o3 d3) (gr_tr HBW.out hb) (show w.heap.size ≤ w.heap.size + 1 by omega)
      have htr := (ht.keep fun b hb' => hfs b (by omega)).weaken (G := fun b => w.heap.size ≤ b) fun b hb' => by omega
      obtain ⟨⟨k0, k1, k2, k3⟩, ⟨m0, m1, m2, m3⟩⟩ := four_facts hblk2
      have HF := Lib.hid hfb; have HW := Lib.hid hfw; have HT := Lib.hid htr
      clear hfs hfb hfw htr hblk2 hb ht hlt2 hsz hsz0
      go_wp2_with fail
      have hfb := HF.out; have hfw := HW.out; have htr := HT.out
      clear HF HW HT
      obtain ⟨⟨j0, j1, j2, j3⟩, _⟩ := four_facts hfb
      generalize World.setCell (World.setCell (World.setCell (World.setCell w2 _ _) _ _) _ _) _ _ = wf at *
      exact bodyPost_ret (v := .tuple #[.agg #[.bool l', .slice b1 o1 d1, .slice b2 o2 d2, .slice b3 o3 d3], .int .i64 0]) (by simp [results, Try.results54, go_sem, j0, j1, j2, j3]) rfl ⟨hfw, .inr ⟨_, _, HE.out, rfl, htr⟩⟩
end Go.Proofs.Ytdcpoeaddhbjbaa
