/- Walk of tree.Add. -/
import Derived.Test.YtdcpoeaddhbjbaaClosA
import Derived.Test.YtdcpoeaddhbjbaaPut
import Derived.IntWalk
namespace Go.Proofs.Ytdcpoeaddhbjbaa
set_option maxRecDepth 100000
open Go.RowKit

/-- The tree with a node put in at a path, and the error. -/
def addR (t : Tree) (p : List Int) (m : Tree) : Option Tree := if p.length = 0 then none else chT t (p.take (p.length - 1)) (addK (lastI p) m)
def addE (t : Tree) (p : List Int) (m : Tree) : Int := if p.length = 0 then 6 else chE t (p.take (p.length - 1)) (addK (lastI p) m)

set_option maxHeartbeats 2000000 in
theorem add_any (S S' : Nat → Prop) (t m : Tree) (cs ds : List Value) (p : List Int) (v : Value) (w : World) (hn : NodeAt S w cs t) (hp : Ints w v p) (hi : I64 p) (hm : NodeAt S' w ds m)
    (hsz : ∀ s, getT t (p.take (p.length - 1)) = some s → (s.kids.length + 1) * 80 ≤ 140737488351232) :
    Calls Try.prog 56 #[.agg (List.toArray cs), v, .agg (List.toArray ds)] w (Found w (addR t p m) (addE t p m)) := by
  obtain ⟨a1, n1, c1, a2, n2, c2, a3, n3, c3, rfl⟩ := hn.form
  obtain ⟨d1, e1, f1, d2, e2, f2, d3, e3, f3, rfl⟩ := hm.form
  obtain ⟨av, cv, rfl, hlc, hb8, hcells⟩ := hp.open_
  obtain ⟨hbW, hx1, hx2, hx3⟩ := three_boxesN w #[.bool t.leaf, .slice a1 n1 c1, .slice a2 n2 c2, .slice a3 n3 c3] #[.bool m.leaf, .slice d1 e1 f1, .slice d2 e2 f2, .slice d3 e3 f3] #[.bool false, .slice none 0 0, .slice none 0 0, .slice none 0 0] 26 26 26
  have HN := Lib.hid (hn.later hbW (Nat.le_refl _)); have HM := Lib.hid (hm.later hbW (Nat.le_refl _)); have HP := Lib.hid (hp.below hbW (Nat.le_refl _)); have HI := Lib.hid hi; have HB := Lib.hid hbW; have HX1 := Lib.hid hx1; have HX2 := Lib.hid hx2; have HX3 := Lib.hid hx3; have HCE := Lib.hid hcells; have HSZ := Lib.hid hsz
  have HEN := Lib.hid (show ∀ args w, (callFunc 95 args).run Try.prog w = .ok (.enter 95 args) w from enters_of Try.func95 (by kernel_rfl) rfl)
  obtain ⟨er, hE⟩ : ∃ er, addE t p m = er := ⟨_, rfl⟩
  rw [hE]
  have HE := Lib.hid hE
  clear hn hm hp hi hbW hx1 hx2 hx3 hcells hsz hE
  by_cases h0 : p.length = 0
  · have q : (((p.length : Nat) : Int) == 0) = true := by simp [h0]
    have HE6 : Hid (er = 6) := Lib.hid (by rw [← HE.out, addE, if_pos h0])
    have HRN : Hid (addR t p m = none) := Lib.hid (by rw [addR, if_pos h0])
    clear h0
    go_enter Try.func56, Try.ntmps56
    go_upto_region 1 with fail
    generalize World.alloc (World.alloc (World.alloc w _) _) _ = W at *
    obtain ⟨⟨k0, k1, k2, k3⟩, ⟨m0, m1, m2, m3⟩⟩ := four_facts HX3.out
    have hfb := four_block (u0 := .bool false) (u1 := .slice none 0 0) (u2 := .slice none 0 0) (u3 := .slice none 0 0) HX3.out
    have hfw : Below w.heap.size w (set4 W (w.heap.size + 1 + 1) 0 (.bool false) (.slice none 0 0) (.slice none 0 0) (.slice none 0 0)) := set4_below HB.out (by omega)
    have HFB := Lib.hid hfb; have HFW := Lib.hid hfw
    clear hfb hfw
    go_wp2_with fail
    have hfb := HFB.out; have hfw := HFW.out
    clear HFB HFW
    simp only [set4, Nat.zero_add] at hfb hfw
    obtain ⟨⟨j0, j1, j2, j3⟩, _⟩ := four_facts hfb
    generalize ((((W.setCell ⟨w.heap.size + 1 + 1, 0, none⟩ (.bool false)).setCell ⟨w.heap.size + 1 + 1, 1, none⟩ (.slice none 0 0)).setCell ⟨w.heap.size + 1 + 1, 2, none⟩ (.slice none 0 0)).setCell ⟨w.heap.size + 1 + 1, 3, none⟩ (.slice none 0 0)) = wf at *
    exact bodyPost_ret (v := .tuple #[zeroN, .int .i64 6]) (by simp [results, Try.results56, go_sem, j0, j1, j2, j3]) rfl ⟨hfw, .inl ⟨HRN.out, by rw [HE6.out]⟩⟩
  · have q : (((p.length : Nat) : Int) == 0) = false := by rw [beq_eq_false_iff_ne]; omega
    have hpos : 0 < p.length := by omega
    have HRS : Hid (addR t p m = chT t (p.take (p.length - 1)) (addK (lastI p) m)) := Lib.hid (by rw [addR, if_neg h0])
    have HES : Hid (chE t (p.take (p.length - 1)) (addK (lastI p) m) = er) := Lib.hid (by rw [← HE.out, addE, if_neg h0])
    clear h0
    go_enter Try.func56, Try.ntmps56
    go_upto_region 1 with fail
    generalize World.alloc (World.alloc (World.alloc w _) _) _ = W at *
    obtain ⟨b, off, rfl, hcell⟩ := HCE.out hpos
    have hc1 := hcell (p.length - 1) (by omega)
    have hb0 : b < w.heap.size := World.block_lt_of_cell? w _ hc1
    have hc2 : W.cell? ⟨b, off + (p.length - 1), none⟩ = some (.int .i64 (lastI p)) := (HB.out.cell (p := ⟨b, off + (p.length - 1), none⟩) hb0).trans hc1
    have hw1 : IntKind.i64.wrap ((p.length : Int) - 1) = (p.length : Int) - 1 := IntWalk.i64_in _ (by omega)
    have hw2 : ((p.length : Int) - 1).toNat = p.length - 1 := by omega
    have hw3 : (0 : Int) ≤ (p.length : Int) - 1 := by omega
    have hw4 : (p.length : Int) - 1 < (p.length : Int) := by omega
    have hw5 : (p.length : Int) - 1 ≤ (cv : Int) := by omega
    have hl1 : (1 : Int) ≤ (p.length : Int) := by omega
    have hc3 := Lib.cell?_alloc_some (.cells #[.int .i64 0] 3) hc2
    clear hcell hc1
    go_upto_region 3 with fail
    go_region
    have hV : Below W.heap.size W (World.drew (W.alloc (.cells #[.int .i64 (lastI p)] 3))) := gr_dr (gr_al (gr_refl W) _)
    have hVI : (World.drew (W.alloc (.cells #[.int .i64 (lastI p)] 3))).heap[W.heap.size]? = some (.cells #[.int .i64 (lastI p)] 3 (0, 0)) := heap_alloc_new W _
    have HV := Lib.hid hV; have HVI := Lib.hid hVI
    clear hV hVI hc2 hc3 hw1 hw2 hw3 hw4 hw5 hl1
    generalize World.drew (World.alloc W _) = V at *
    obtain ⟨⟨k0, k1, k2, k3⟩, _⟩ := four_facts (blk_below HX1.out HV.out)
    have hci : V.cell? ⟨W.heap.size, 0, none⟩ = some (.int .i64 (lastI p)) := by rw [cell_of_row V W.heap.size 0 _ _ (0, 0) HVI.out]; rfl
    have HC := Lib.hid (changed_any S t [.bool t.leaf, .slice a1 n1 c1, .slice a2 n2 c2, .slice a3 n3 c3] (p.take (p.length - 1)) (.slice (some ⟨b, off, none⟩) (p.length - 1) cv) V 95 #[.pointer (some ⟨W.heap.size, 0, none⟩), .pointer (some ⟨w.heap.size + 1, 0, none⟩)] (addK (lastI p) m) (HN.out.later HV.out (Nat.le_refl _)) ((HP.out.below HV.out (Nat.le_refl _)).take (by omega)) (HI.out.take _) HEN.out
      (fun s hs => add_turner W.heap.size (w.heap.size + 1) (lastI p) m _ S' s V hci (blk_below HX2.out HV.out) (HM.out.later HV.out (Nat.le_refl _)) (last_i64 HI.out hpos) (HSZ.out s hs)))
    clear hci
    go_wp2_with fail
    refine HC.out.mono ?_
    rintro e w1 ⟨hb1, hr⟩
    rw [HES.out, ← HRS.out] at hr
    clear k0 k1 k2 k3
    have hX3 := blk_below HX3.out HV.out
    have hXX := blk_below hX3 hb1
    obtain ⟨_, ⟨m0, m1, m2, m3⟩⟩ := four_facts hXX
    obtain ⟨⟨k0, k1, k2, k3⟩, _⟩ := four_facts hXX
    have HXX := Lib.hid hXX; have HB1 := Lib.hid hb1; have HBV := Lib.hid (gr_tr HB.out HV.out); have HX3V := Lib.hid hX3
    clear hXX hb1 hX3
    rcases hr with ⟨hr, rfl⟩ | ⟨cs', s, hr, rfl, ht⟩
    · have HR := Lib.hid hr
      clear hr
      have hfb := four_block (u0 := .bool false) (u1 := .slice none 0 0) (u2 := .slice none 0 0) (u3 := .slice none 0 0) HXX.out
      have hfw : Below w.heap.size w (set4 w1 (w.heap.size + 1 + 1) 0 (.bool false) (.slice none 0 0) (.slice none 0 0) (.slice none 0 0)) := set4_below (gr_tr HBV.out HB1.out) (by omega)
      have HFB := Lib.hid hfb; have HFW := Lib.hid hfw
      clear hfb hfw
      go_wp2_with fail
      have hfb := HFB.out; have hfw := HFW.out
      clear HFB HFW
      simp only [set4, Nat.zero_add] at hfb hfw
      obtain ⟨⟨j0, j1, j2, j3⟩, _⟩ := four_facts hfb
      generalize ((((w1.setCell ⟨w.heap.size + 1 + 1, 0, none⟩ (.bool false)).setCell ⟨w.heap.size + 1 + 1, 1, none⟩ (.slice none 0 0)).setCell ⟨w.heap.size + 1 + 1, 2, none⟩ (.slice none 0 0)).setCell ⟨w.heap.size + 1 + 1, 3, none⟩ (.slice none 0 0)) = wf at *
      exact bodyPost_ret (v := .tuple #[zeroN, .int .i64 er]) (by simp [results, Try.results56, go_sem, j0, j1, j2, j3]) rfl ⟨hfw, .inl ⟨HR.out, rfl⟩⟩
    · obtain ⟨q1, r1, s1, q2, r2, s2, q3, r3, s3, hcs'⟩ := ht.nodeAt.form
      subst hcs'
      have HR := Lib.hid hr
      obtain ⟨g1, g2, g3⟩ := store_res HBV.out HX3V.out (by omega) HB1.out ht
      have HG1 := Lib.hid g1; have HG2 := Lib.hid g2; have HG3 := Lib.hid g3
      clear hr ht g1 g2 g3
      generalize s.leaf = l at *
      go_wp2_with fail
      have hfb := HG1.out; have hfw := HG2.out; have htr := HG3.out
      clear HG1 HG2 HG3
      simp only [set4, Nat.zero_add] at hfb hfw htr
      obtain ⟨⟨j0, j1, j2, j3⟩, _⟩ := four_facts hfb
      generalize ((((w1.setCell ⟨w.heap.size + 1 + 1, 0, none⟩ (.bool l)).setCell ⟨w.heap.size + 1 + 1, 1, none⟩ (.slice q1 r1 s1)).setCell ⟨w.heap.size + 1 + 1, 2, none⟩ (.slice q2 r2 s2)).setCell ⟨w.heap.size + 1 + 1, 3, none⟩ (.slice q3 r3 s3)) = wf at *
      exact bodyPost_ret (v := .tuple #[.agg #[.bool l, .slice q1 r1 s1, .slice q2 r2 s2, .slice q3 r3 s3], .int .i64 0]) (by simp [results, Try.results56, go_sem, j0, j1, j2, j3]) rfl ⟨hfw, .inr ⟨_, _, HR.out, rfl, htr⟩⟩
end Go.Proofs.Ytdcpoeaddhbjbaa
