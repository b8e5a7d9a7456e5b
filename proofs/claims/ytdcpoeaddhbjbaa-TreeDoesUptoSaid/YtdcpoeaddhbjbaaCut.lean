/- Walk of tree.Cut. -/
import Derived.Test.YtdcpoeaddhbjbaaTurns
import Derived.Test.YtdcpoeaddhbjbaaPut
namespace Go.Proofs.Ytdcpoeaddhbjbaa
set_option maxRecDepth 100000
open Go.RowKit

set_option maxHeartbeats 2000000 in
theorem cut_any (S : Nat → Prop) (t : Tree) (cs : List Value) (p : List Int) (v : Value) (w : World) (hn : NodeAt S w cs t) (hp : Ints w v p) (hi : I64 p) :
    Calls Try.prog 58 #[.agg (List.toArray cs), v] w (CutPost t p w) := by
  obtain ⟨a1, n1, c1, a2, n2, c2, a3, n3, c3, rfl⟩ := hn.form
  obtain ⟨av, cv, rfl, hlc, hb8, hcells⟩ := hp.open_
  obtain ⟨hbW, hx1, hx2, hx3⟩ := three_boxesN w #[.bool t.leaf, .slice a1 n1 c1, .slice a2 n2 c2, .slice a3 n3 c3] #[.bool false, .slice none 0 0, .slice none 0 0, .slice none 0 0] #[.bool false, .slice none 0 0, .slice none 0 0, .slice none 0 0] 26 26 26
  have HN := Lib.hid (hn.later hbW (Nat.le_refl _)); have HP := Lib.hid (hp.below hbW (Nat.le_refl _)); have HI := Lib.hid hi; have HB := Lib.hid hbW; have HX1 := Lib.hid hx1; have HX2 := Lib.hid hx2; have HX3 := Lib.hid hx3; have HCE := Lib.hid hcells
  have HNW := Lib.hid hn; have HPW := Lib.hid hp
  have HEN := Lib.hid (show ∀ args w, (callFunc 98 args).run Try.prog w = .ok (.enter 98 args) w from enters_of Try.func98 (by kernel_rfl) rfl)
  clear hn hp hi hbW hx1 hx2 hx3 hcells
  by_cases h0 : p.length = 0
  · have q : (((p.length : Nat) : Int) == 0) = true := by simp [h0]
    have HE : Hid (cutE t p = 6) := Lib.hid (by rw [cutE, if_pos h0])
    clear h0
    go_enter Try.func58, Try.ntmps58
    go_upto_region 1 with fail
    generalize World.alloc (World.alloc (World.alloc w _) _) _ = W at *
    obtain ⟨⟨k0, k1, k2, k3⟩, ⟨m0, m1, m2, m3⟩⟩ := four_facts HX2.out
    obtain ⟨⟨k0', k1', k2', k3'⟩, ⟨m0', m1', m2', m3'⟩⟩ := four_facts HX3.out
    obtain ⟨g1, g2⟩ := two_stores (u0 := .bool false) (u1 := .slice none 0 0) (u2 := .slice none 0 0) (u3 := .slice none 0 0) (v0 := .bool false) (v1 := .slice none 0 0) (v2 := .slice none 0 0) (v3 := .slice none 0 0) HX2.out HX3.out (by omega)
    have gw : Below w.heap.size w (set4 (set4 W (w.heap.size + 1) 0 (.bool false) (.slice none 0 0) (.slice none 0 0) (.slice none 0 0)) (w.heap.size + 1 + 1) 0 (.bool false) (.slice none 0 0) (.slice none 0 0) (.slice none 0 0)) := set4_below (set4_below HB.out (by omega)) (by omega)
    have G1 := Lib.hid g1; have G2 := Lib.hid g2; have GW := Lib.hid gw
    clear g1 g2 gw
    go_wp2_with fail
    have g1 := G1.out; have g2 := G2.out; have gw := GW.out
    simp only [set4, Nat.zero_add] at g1 g2 gw
    obtain ⟨⟨j0, j1, j2, j3⟩, _⟩ := four_facts g1
    obtain ⟨⟨i0, i1, i2, i3⟩, _⟩ := four_facts g2
    clear G1 G2 GW g1 g2 k0 k1 k2 k3 k0' k1' k2' k3' m0 m1 m2 m3 m0' m1' m2' m3'
    generalize World.setCell (World.setCell (World.setCell (World.setCell (World.setCell (World.setCell (World.setCell (World.setCell W _ _) _ _) _ _) _ _) _ _) _ _) _ _) _ _ = wf at *
    exact bodyPost_ret (v := .tuple #[zeroNV, zeroNV, .int .i64 6]) (by simp [results, Try.results58, go_sem, i0, i1, i2, i3, j0, j1, j2, j3]) rfl ⟨gw, .inl ⟨by rw [HE.out]; decide, by rw [HE.out]⟩⟩
  · have q : (((p.length : Nat) : Int) == 0) = false := by rw [beq_eq_false_iff_ne]; omega
    have hpos : 0 < p.length := by omega
    clear h0
    go_enter Try.func58, Try.ntmps58
    go_upto_region 1 with fail
    generalize World.alloc (World.alloc (World.alloc w _) _) _ = W at *
    obtain ⟨⟨k0, k1, k2, k3⟩, _⟩ := four_facts HX1.out
    go_wp2_with fail
    refine (get_any S t _ p _ W HN.out HP.out HI.out).mono ?_
    rintro e w1 ⟨hb1, hr⟩
    clear k0 k1 k2 k3
    have hX2 := blk_below HX2.out hb1
    have hX3 := blk_below HX3.out hb1
    obtain ⟨⟨k0, k1, k2, k3⟩, ⟨m0, m1, m2, m3⟩⟩ := four_facts hX2
    obtain ⟨⟨k0', k1', k2', k3'⟩, ⟨m0', m1', m2', m3'⟩⟩ := four_facts hX3
    have HX2' := Lib.hid hX2; have HX3' := Lib.hid hX3; have HB1 := Lib.hid hb1
    clear hX2 hX3 hb1
    rcases hr with ⟨hr, rfl⟩ | ⟨ds, m, hr, rfl, ht⟩
    · have HE : Hid (cutE t p = 5) := Lib.hid (by rw [cutE, if_neg (by omega), hr])
      have g3 := four_block (u0 := .bool false) (u1 := .slice none 0 0) (u2 := .slice none 0 0) (u3 := .slice none 0 0) HX3'.out
      have g2 : (set4 w1 (w.heap.size + 1 + 1) 0 (.bool false) (.slice none 0 0) (.slice none 0 0) (.slice none 0 0)).heap[w.heap.size + 1]? = _ := (set4_heap _ (by omega)).trans HX2'.out
      have gw : Below w.heap.size w (set4 w1 (w.heap.size + 1 + 1) 0 (.bool false) (.slice none 0 0) (.slice none 0 0) (.slice none 0 0)) := set4_below (gr_tr HB.out HB1.out) (by omega)
      have G2 := Lib.hid g2; have G3 := Lib.hid g3; have GW := Lib.hid gw
      clear hr g2 g3 gw
      go_upto_region 5 with fail
      have g2 := G2.out; have g3 := G3.out; have gw := GW.out
      simp only [set4, Nat.zero_add] at g2 g3 gw
      clear G2 G3 GW k0 k1 k2 k3 k0' k1' k2' k3' m0 m1 m2 m3 m0' m1' m2' m3'
      generalize World.setCell (World.setCell (World.setCell (World.setCell w1 _ _) _ _) _ _) _ _ = W2 at *
      obtain ⟨⟨k0, k1, k2, k3⟩, ⟨m0, m1, m2, m3⟩⟩ := four_facts g2
      obtain ⟨⟨k0', k1', k2', k3'⟩, ⟨m0', m1', m2', m3'⟩⟩ := four_facts g3
      obtain ⟨r1, r2⟩ := two_stores (u0 := .bool false) (u1 := .slice none 0 0) (u2 := .slice none 0 0) (u3 := .slice none 0 0) (v0 := .bool false) (v1 := .slice none 0 0) (v2 := .slice none 0 0) (v3 := .slice none 0 0) g2 g3 (by omega)
      have rw' : Below w.heap.size w (set4 (set4 W2 (w.heap.size + 1) 0 (.bool false) (.slice none 0 0) (.slice none 0 0) (.slice none 0 0)) (w.heap.size + 1 + 1) 0 (.bool false) (.slice none 0 0) (.slice none 0 0) (.slice none 0 0)) := set4_below (set4_below gw (by omega)) (by omega)
      have R1 := Lib.hid r1; have R2 := Lib.hid r2; have RW := Lib.hid rw'
      clear r1 r2 rw' g2 g3 gw
      go_wp2_with fail
      have g1 := R1.out; have g2 := R2.out; have gw := RW.out
      simp only [set4, Nat.zero_add] at g1 g2 gw
      obtain ⟨⟨j0, j1, j2, j3⟩, _⟩ := four_facts g1
      obtain ⟨⟨i0, i1, i2, i3⟩, _⟩ := four_facts g2
      clear R1 R2 RW g1 g2 k0 k1 k2 k3 k0' k1' k2' k3' m0 m1 m2 m3 m0' m1' m2' m3'
      generalize World.setCell (World.setCell (World.setCell (World.setCell (World.setCell (World.setCell (World.setCell (World.setCell W2 _ _) _ _) _ _) _ _) _ _) _ _) _ _) _ _ = wf at *
      exact bodyPost_ret (v := .tuple #[zeroNV, zeroNV, .int .i64 5]) (by simp [results, Try.results58, go_sem, i0, i1, i2, i3, j0, j1, j2, j3]) rfl ⟨gw, .inl ⟨by rw [HE.out]; decide, by rw [HE.out]⟩⟩
    · obtain ⟨s, hs, hi0, hi1, -⟩ := get_last hpos hr
      obtain ⟨q1, r1', s1, q2, r2', s2, q3, r3', s3, hds⟩ := ht.nodeAt.form
      subst hds
      have HR := Lib.hid hr; have HS := Lib.hid hs
      have hlt3 := lt_of_block HX3.out
      have hsz := HB.out.size
      have g3 := four_block (u0 := .bool m.leaf) (u1 := .slice q1 r1' s1) (u2 := .slice q2 r2' s2) (u3 := .slice q3 r3' s3) HX3'.out
      have g2 : (set4 w1 (w.heap.size + 1 + 1) 0 (.bool m.leaf) (.slice q1 r1' s1) (.slice q2 r2' s2) (.slice q3 r3' s3)).heap[w.heap.size + 1]? = _ := (set4_heap _ (by omega)).trans HX2'.out
      have gt : Tr (set4 w1 (w.heap.size + 1 + 1) 0 (.bool m.leaf) (.slice q1 r1' s1) (.slice q2 r2' s2) (.slice q3 r3' s3)) (fun b => W.heap.size ≤ b) [.bool m.leaf, .slice q1 r1' s1, .slice q2 r2' s2, .slice q3 r3' s3] m := ht.keep fun b hb => set4_heap b (by omega)
      have g1 : (set4 w1 (w.heap.size + 1 + 1) 0 (.bool m.leaf) (.slice q1 r1' s1) (.slice q2 r2' s2) (.slice q3 r3' s3)).heap[w.heap.size]? = _ := (set4_heap _ (by omega)).trans (blk_below HX1.out HB1.out)
      have gw : Below w.heap.size w (set4 w1 (w.heap.size + 1 + 1) 0 (.bool m.leaf) (.slice q1 r1' s1) (.slice q2 r2' s2) (.slice q3 r3' s3)) := set4_below (gr_tr HB.out HB1.out) (by omega)
      have gs : W.heap.size ≤ (set4 w1 (w.heap.size + 1 + 1) 0 (.bool m.leaf) (.slice q1 r1' s1) (.slice q2 r2' s2) (.slice q3 r3' s3)).heap.size := by rw [set4_size]; exact HB1.out.size
      have G1 := Lib.hid g1; have G2 := Lib.hid g2; have G3 := Lib.hid g3; have GW := Lib.hid gw; have GT := Lib.hid gt; have GS := Lib.hid gs
      clear hr hs ht g1 g2 g3 gw gt gs hlt3 hsz
      generalize m.leaf = lm at *
      go_upto_region 6 with fail
      have g1 := G1.out; have g2 := G2.out; have g3 := G3.out; have gw := GW.out; have gt := GT.out; have gs := GS.out
      simp only [set4, Nat.zero_add] at g1 g2 g3 gw gt gs
      clear G1 G2 G3 GW GT GS k0 k1 k2 k3 k0' k1' k2' k3' m0 m1 m2 m3 m0' m1' m2' m3' HX2' HX3'
      generalize World.setCell (World.setCell (World.setCell (World.setCell w1 _ _) _ _) _ _) _ _ = W2 at *
      obtain ⟨b, off, rfl, hcell⟩ := HCE.out hpos
      have hc1 := hcell (p.length - 1) (by omega)
      have hb0 : b < w.heap.size := World.block_lt_of_cell? w _ hc1
      have hc2 : W2.cell? ⟨b, off + (p.length - 1), none⟩ = some (.int .i64 (lastI p)) := (gw.cell (p := ⟨b, off + (p.length - 1), none⟩) hb0).trans hc1
      have hw1 : IntKind.i64.wrap ((p.length : Int) - 1) = (p.length : Int) - 1 := IntWalk.i64_in _ (by omega)
      have hw2 : ((p.length : Int) - 1).toNat = p.length - 1 := by omega
      have hw3 : (0 : Int) ≤ (p.length : Int) - 1 := by omega
      have hw4 : (p.length : Int) - 1 < (p.length : Int) := by omega
      have hw5 : (p.length : Int) - 1 ≤ (cv : Int) := by omega
      have G1 := Lib.hid g1; have G2 := Lib.hid g2; have G3 := Lib.hid g3; have GW := Lib.hid gw; have GT := Lib.hid gt; have GS := Lib.hid gs
      have hl1 : (1 : Int) ≤ (p.length : Int) := by omega
      have hc3 := Lib.cell?_alloc_some (.cells #[.int .i64 0] 3) hc2
      clear g1 g2 g3 gw gt gs hcell hc1
      go_region
      have hV : Below W2.heap.size W2 (World.drew (W2.alloc (.cells #[.int .i64 (lastI p)] 3))) := gr_dr (gr_al (gr_refl W2) _)
      have hVI : (World.drew (W2.alloc (.cells #[.int .i64 (lastI p)] 3))).heap[W2.heap.size]? = some (.cells #[.int .i64 (lastI p)] 3 (0, 0)) := heap_alloc_new W2 _
      have HV := Lib.hid hV; have HVI := Lib.hid hVI
      clear hV hVI hc2 hc3 hw1 hw2 hw3 hw4 hw5 hl1
      generalize World.drew (World.alloc W2 _) = V at *
      have hGW := gr_tr GW.out HV.out
      obtain ⟨⟨k0, k1, k2, k3⟩, _⟩ := four_facts (blk_below G1.out HV.out)
      have hci : V.cell? ⟨W2.heap.size, 0, none⟩ = some (.int .i64 (lastI p)) := by rw [cell_of_row V W2.heap.size 0 _ _ (0, 0) HVI.out]; rfl
      have HC := Lib.hid (changed_any S t [.bool t.leaf, .slice a1 n1 c1, .slice a2 n2 c2, .slice a3 n3 c3] (p.take (p.length - 1)) (.slice (some ⟨b, off, none⟩) (p.length - 1) cv) V 98 #[.pointer (some ⟨W2.heap.size, 0, none⟩)] (cutK (lastI p)) (HNW.out.later hGW (Nat.le_refl _)) ((HPW.out.below hGW (Nat.le_refl _)).take (by omega)) (HI.out.take _) HEN.out
        (fun s' hs' => by
          obtain rfl : s = s' := Option.some.inj (HS.out.symm.trans hs')
          exact cut_turner W2.heap.size (lastI p) s V hci hi0 hi1))
      have HT1 : Hid (chT t (p.take (p.length - 1)) (cutK (lastI p)) = some (cutT t p)) := Lib.hid (by rw [cutT_eq HS.out]; simp only [chT, HS.out, cutK, if_true])
      rw [HT1.out] at HC
      have HGW := Lib.hid hGW
      clear hci hGW
      go_wp2_with fail
      refine HC.out.mono ?_
      rintro e w3 ⟨hb3, hr⟩
      rcases hr with ⟨hr, -⟩ | ⟨cs', s', hr, rfl, ht'⟩
      · cases hr
      obtain rfl := Option.some.inj hr
      obtain ⟨x1, y1, z1, x2, y2, z2, x3, y3, z3, hcs'⟩ := ht'.nodeAt.form
      subst hcs'
      generalize (cutT t p).leaf = lc at *
      clear hr k0 k1 k2 k3
      have hV3 := gr_tr HV.out hb3
      have g2 := blk_below G2.out hV3
      have g3 := blk_below G3.out hV3
      have gt := GT.out.later hV3
      obtain ⟨⟨k0, k1, k2, k3⟩, ⟨m0, m1, m2, m3⟩⟩ := four_facts g2
      have hlt1 := lt_of_block HX2.out
      have hsz := GS.out
      have hsz2 := HV.out.size
      have hszw := HB.out.size
      have r1 := four_block (u0 := .bool lc) (u1 := .slice x1 y1 z1) (u2 := .slice x2 y2 z2) (u3 := .slice x3 y3 z3) g2
      have r2 : (set4 w3 (w.heap.size + 1) 0 (.bool lc) (.slice x1 y1 z1) (.slice x2 y2 z2) (.slice x3 y3 z3)).heap[w.heap.size + 1 + 1]? = _ := (set4_heap _ (by omega)).trans g3
      have rt : Tr (set4 w3 (w.heap.size + 1) 0 (.bool lc) (.slice x1 y1 z1) (.slice x2 y2 z2) (.slice x3 y3 z3)) (fun b => W.heap.size ≤ b) [.bool lm, .slice q1 r1' s1, .slice q2 r2' s2, .slice q3 r3' s3] m := gt.keep fun b hb => set4_heap b (by omega)
      have rc : Tr (set4 w3 (w.heap.size + 1) 0 (.bool lc) (.slice x1 y1 z1) (.slice x2 y2 z2) (.slice x3 y3 z3)) (fun b => W.heap.size ≤ b) [.bool lc, .slice x1 y1 z1, .slice x2 y2 z2, .slice x3 y3 z3] (cutT t p) := (ht'.keep fun b hb => set4_heap b (by omega)).weaken fun b hb => by omega
      have rw' : Below w.heap.size w (set4 w3 (w.heap.size + 1) 0 (.bool lc) (.slice x1 y1 z1) (.slice x2 y2 z2) (.slice x3 y3 z3)) := set4_below (gr_tr GW.out hV3) (by omega)
      have R1 := Lib.hid r1; have R2 := Lib.hid r2; have RT := Lib.hid rt; have RC := Lib.hid rc; have RW := Lib.hid rw'
      clear r1 r2 rt rc rw' g2 g3 gt hV3 hb3 ht' hlt1 hsz hsz2 hszw
      go_upto_region 8 with fail
      have r1 := R1.out; have r2 := R2.out; have rt := RT.out; have rc := RC.out; have rw' := RW.out
      simp only [set4, Nat.zero_add] at r1 r2 rt rc rw'
      clear R1 R2 RT RC RW k0 k1 k2 k3 m0 m1 m2 m3
      generalize World.setCell (World.setCell (World.setCell (World.setCell w3 _ _) _ _) _ _) _ _ = W4 at *
      obtain ⟨⟨k0, k1, k2, k3⟩, ⟨m0, m1, m2, m3⟩⟩ := four_facts r1
      obtain ⟨⟨k0', k1', k2', k3'⟩, ⟨m0', m1', m2', m3'⟩⟩ := four_facts r2
      have R1 := Lib.hid r1; have R2 := Lib.hid r2; have RT := Lib.hid rt; have RC := Lib.hid rc; have RW := Lib.hid rw'
      clear r1 r2 rt rc rw'
      go_region
      go_wp2_with fail
      obtain ⟨e1, e2⟩ := two_stores (u0 := .bool lc) (u1 := .slice x1 y1 z1) (u2 := .slice x2 y2 z2) (u3 := .slice x3 y3 z3) (v0 := .bool lm) (v1 := .slice q1 r1' s1) (v2 := .slice q2 r2' s2) (v3 := .slice q3 r3' s3) R1.out R2.out (by omega)
      have hlt1 := lt_of_block HX3.out
      have ew : Below w.heap.size w (set4 (set4 W4 (w.heap.size + 1) 0 (.bool lc) (.slice x1 y1 z1) (.slice x2 y2 z2) (.slice x3 y3 z3)) (w.heap.size + 1 + 1) 0 (.bool lm) (.slice q1 r1' s1) (.slice q2 r2' s2) (.slice q3 r3' s3)) := set4_below (set4_below RW.out (by omega)) (by omega)
      have ho : ∀ b, W.heap.size ≤ b → (set4 (set4 W4 (w.heap.size + 1) 0 (.bool lc) (.slice x1 y1 z1) (.slice x2 y2 z2) (.slice x3 y3 z3)) (w.heap.size + 1 + 1) 0 (.bool lm) (.slice q1 r1' s1) (.slice q2 r2' s2) (.slice q3 r3' s3)).heap[b]? = W4.heap[b]? := fun b hb => (set4_heap b (by omega)).trans (set4_heap b (by omega))
      have ec := (RC.out.keep ho).weaken (G := fun b => w.heap.size ≤ b) fun b hb => by have := HB.out.size; omega
      have et := (RT.out.keep ho).weaken (G := fun b => w.heap.size ≤ b) fun b hb => by have := HB.out.size; omega
      clear R1 R2 RT RC RW k0 k1 k2 k3 m0 m1 m2 m3 k0' k1' k2' k3' m0' m1' m2' m3' ho
      simp only [set4, Nat.zero_add] at e1 e2 ew ec et
      generalize World.setCell (World.setCell (World.setCell (World.setCell (World.setCell (World.setCell (World.setCell (World.setCell W4 _ _) _ _) _ _) _ _) _ _) _ _) _ _) _ _ = W5 at *
      have e1 := blk_below e1 (gr_dr (gr_refl W5))
      have e2 := blk_below e2 (gr_dr (gr_refl W5))
      have ec := ec.later (gr_dr (gr_refl W5))
      have et := et.later (gr_dr (gr_refl W5))
      have ew := gr_dr ew
      generalize World.drew W5 = W6 at *
      obtain ⟨⟨j0, j1, j2, j3⟩, _⟩ := four_facts e1
      obtain ⟨⟨i0, i1, i2, i3⟩, _⟩ := four_facts e2
      exact bodyPost_ret (v := .tuple #[.agg #[.bool lc, .slice x1 y1 z1, .slice x2 y2 z2, .slice x3 y3 z3], .agg #[.bool lm, .slice q1 r1' s1, .slice q2 r2' s2, .slice q3 r3' s3], .int .i64 0]) (by simp [results, Try.results58, go_sem, i0, i1, i2, i3, j0, j1, j2, j3]) rfl ⟨ew, .inr ⟨_, _, m, hpos, HR.out, rfl, ec, et⟩⟩
end Go.Proofs.Ytdcpoeaddhbjbaa
