/- Walks of point.edge, First, Last. -/
import Derived.Test.YtdcpoeaddhbjbaaListLv
import Derived.Test.YtdcpoeaddhbjbaaGets
namespace Go.Proofs.Ytdcpoeaddhbjbaa
set_option maxRecDepth 100000
open Go.RowKit

theorem two_facts {w' : World} {g : Nat} {x0 x1 : Value} {t : TypeId} (h : w'.heap[g]? = some (.cells #[x0, x1] t (0, 0))) :
    (w'.cell? ⟨g, 0, none⟩ = some x0 ∧ w'.cell? ⟨g, 1, none⟩ = some x1) ∧ (w'.frozen? ⟨g, 0, none⟩ = false ∧ w'.frozen? ⟨g, 1, none⟩ = false) := by
  have hc := fun i => cell_of_row w' g i _ _ (0, 0) h
  refine ⟨⟨by rw [hc]; rfl, by rw [hc]; rfl⟩, ?_⟩
  simp [World.frozen?, h]
abbrev put2 (w : World) (g : Nat) (u0 u1 : Value) : World := (w.setCell ⟨g, 0, none⟩ u0).setCell ⟨g, 1, none⟩ u1
theorem two_block {w' : World} {g : Nat} {x0 x1 : Value} {t : TypeId} {fr : Nat × Nat} (h : w'.heap[g]? = some (.cells #[x0, x1] t fr)) (u0 u1 : Value) : (put2 w' g u0 u1).heap[g]? = some (.cells #[u0, u1] t fr) := by
  simp [World.setCell, Array.getElem?_modify, h]
theorem two_below {B : Nat} {w w' : World} {g : Nat} {u0 u1 : Value} (h : Below B w w') (hg : B ≤ g) : Below B w (put2 w' g u0 u1) := (h.setCell (p := ⟨g, 0, none⟩) hg _).setCell (p := ⟨g, 1, none⟩) hg _

/-- A point, and why there is none. -/
def PtPost (w : World) (Q : Value → List Int → Prop) (p : List Int) (off er : Int) (e : Ending) (w' : World) : Prop := ∃ a n c, e = .returned (.tuple #[.agg #[.slice a n c, .int .i64 off], .int .i64 er]) ∧ (Ints w' (.slice a n c) p ∧ Q (.slice a n c) p) ∧ Below w.heap.size w w'

/-- The point at the edge of a list of leaves. -/
def edgeR (t : Tree) (L : List (List Int)) (last : Bool) : List Int × Int × Int :=
  if L.length = 0 then ([], 0, 14) else if last = false then (L.getD 0 [], 0, 0) else
    match getT t (L.getD (L.length - 1) []) with
    | some s => (L.getD (L.length - 1) [], s.text.length, 0)
    | none => (L.getD (L.length - 1) [], 0, 5)

theorem Ints.put2 {w w' : World} {v : Value} {xs : List Int} {g : Nat} {u0 u1 : Value} (h : Ints w v xs) (hb : Below w.heap.size w w') (hg : w.heap.size ≤ g) : Ints (put2 w' g u0 u1) v xs := h.below (two_below hb hg) (Nat.le_refl _)
theorem ints_nil (w : World) : Ints w (.slice none 0 0) [] := ⟨none, 0, rfl, Nat.le_refl _, by unfold maxLen; omega, by simp, fun h => by omega⟩

/-- What is known of each element of a list. -/
def Each (w : World) (v : Value) (L : List (List Int)) (Q : Value → List Int → Prop) : Prop := Q (.slice none 0 0) [] ∧ ∀ b off n cap, v = .slice (some ⟨b, off, none⟩) n cap → ∀ k, k < n → ∀ u, w.cell? ⟨b, off + k, none⟩ = some u → Q u (L.getD k [])
theorem OwnL.each {w : World} {B : Nat} {v : Value} {L : List (List Int)} (h : OwnL w B v L) : Each w v L (fun u p => Own w B u p) := by
  refine ⟨Own.nil _ _, fun b off n cap hv k hk u hu => ?_⟩
  obtain ⟨vs, h1, h2⟩ := h
  have hl : vs.length = L.length := by simpa using h1.1
  obtain ⟨_, h⟩ := id h1
  rcases h with ⟨rfl, h0⟩ | ⟨g, c, cur, rfl, _, hg, hn, hm, _, ht⟩
  · cases hv
  · simp only [Value.slice.injEq, Option.some.injEq, Addr.mk.injEq] at hv
    obtain ⟨⟨rfl, rfl, _⟩, hln, rfl⟩ := hv
    have h3 := h2 k (by omega)
    have h4 : (cur.toList.take (L.length * 1))[k]? = vs[k]? := by rw [ht]
    rw [cell_of_row w g (0 + k) cur _ (0, 0) hg, Nat.zero_add] at hu
    rw [List.getElem?_take, if_pos (by omega)] at h4
    have h5 : vs[k]? = some u := by rw [← h4]; simpa using hu
    have h6 : vs.getD k (.slice none 0 0) = u := by simp [h5]
    rwa [h6] at h3
theorem edge_start (w : World) (cs : Array Value) : Below w.heap.size w ((w.alloc (.cells cs 26)).alloc (.cells #[.slice none 0 0, .int .i64 0] 35)) ∧
    ((w.alloc (.cells cs 26)).alloc (.cells #[.slice none 0 0, .int .i64 0] 35)).heap[w.heap.size + 1]? = some (.cells #[.slice none 0 0, .int .i64 0] 35 (0, 0)) := by
  refine ⟨gr_al (gr_al (gr_refl w) _) _, ?_⟩
  have := heap_alloc_new (w.alloc (.cells cs 26)) (.cells #[.slice none 0 0, .int .i64 0] 35)
  have h : (w.alloc (.cells cs 26)).heap.size = w.heap.size + 1 := by simp
  rwa [h] at this

set_option maxHeartbeats 2000000 in
theorem edge_any (S : Nat → Prop) (t : Tree) (cs : List Value) (L : List (List Int)) (v : Value) (last : Bool) (w : World) (h : NodeAt S w cs t) (hL : IntsL w v L) (hi : ∀ p ∈ L, I64 p) (Q : Value → List Int → Prop) (hQ : Each w v L Q) :
    Calls Try.prog 82 #[.agg (List.toArray cs), v, .bool last] w (PtPost w Q (edgeR t L last).1 (edgeR t L last).2.1 (edgeR t L last).2.2) := by
  obtain ⟨a1, n1, c1, a2, n2, c2, a3, n3, c3, rfl⟩ := h.form
  obtain ⟨aL, cL, hv⟩ : ∃ a c, v = .slice a L.length c := by obtain ⟨a, c, _, h, _⟩ := hL; exact ⟨a, c, h⟩
  have b24 : L.length * 24 ≤ 140737488351232 := by obtain ⟨_, _, _, _, _, _, _, h, _⟩ := hL; exact h
  obtain ⟨hbw, hblk⟩ := edge_start w #[.bool t.leaf, .slice a1 n1 c1, .slice a2 n2 c2, .slice a3 n3 c3]
  have hbox : ((w.alloc (.cells #[.bool t.leaf, .slice a1 n1 c1, .slice a2 n2 c2, .slice a3 n3 c3] 26)).alloc (.cells #[.slice none 0 0, .int .i64 0] 35)).heap[w.heap.size]? = some (.cells #[.bool t.leaf, .slice a1 n1 c1, .slice a2 n2 c2, .slice a3 n3 c3] 26 (0, 0)) :=
    blk_below (heap_alloc_new w _) (gr_al (gr_refl _) _)
  have hnW := h.boxed hbw
  have HB := Lib.hid hbw; have HK := Lib.hid hblk; have HX := Lib.hid hbox; have HN := Lib.hid hnW; have HI := Lib.hid hi
  subst hv
  have HQ := Lib.hid hQ
  have HL0 := Lib.hid hL
  clear hQ
  clear h hL hi hbw hblk hbox hnW
  go_enter Try.func82, Try.ntmps82
  go_upto_region 1 with fail
  generalize World.alloc _ _ = W at *
  obtain ⟨⟨k0, k1⟩, ⟨m0, m1⟩⟩ := two_facts HK.out
  obtain ⟨⟨y0, y1, y2, y3⟩, _⟩ := four_facts HX.out
  by_cases h0 : L.length = 0
  · have HE : Hid (edgeR t L last = ([], 0, 14)) := by show _ = _; simp [edgeR, h0]
    rw [h0]
    have HF := Lib.hid (two_block HK.out (.slice none 0 0) (.int .i64 0))
    have HW := Lib.hid (two_below (u0 := .slice none 0 0) (u1 := .int .i64 0) HB.out (show w.heap.size ≤ w.heap.size + 1 by omega))
    clear h0
    go_wp2_with fail
    have hf := HF.out; have hw := HW.out
    simp only [put2] at hf hw
    generalize (W.setCell ⟨w.heap.size + 1, 0, none⟩ (.slice none 0 0)).setCell ⟨w.heap.size + 1, 1, none⟩ (.int .i64 0) = wf at *
    obtain ⟨⟨j0, j1⟩, _⟩ := two_facts hf
    exact bodyPost_ret (v := .tuple #[.agg #[.slice none 0 0, .int .i64 0], .int .i64 14]) (by simp [results, Try.results82, go_sem, j0, j1]) rfl (by rw [HE.out]; exact ⟨none, 0, 0, rfl, ⟨ints_nil _, HQ.out.1⟩, hw⟩)
  · have hpos : 0 < L.length := by omega
    have hne : ((L.length : Int) == 0) = false := by rw [beq_eq_false_iff_ne]; omega
    cases last
    · obtain ⟨b, off, cap, vk, hv, hcap, _, hcell, hvk⟩ := HL0.out.at_ 0 hpos
      simp only [Value.slice.injEq] at hv
      obtain ⟨rfl, _, rfl⟩ := hv
      obtain ⟨ak, nk, ck, rfl⟩ := hvk.slice3
      have HQK := Lib.hid (HQ.out.2 _ _ _ _ rfl 0 hpos _ hcell)
      have hcellW := (HB.out.cell (p := ⟨b, off + 0, none⟩) (World.block_lt_of_cell? w _ hcell)).trans hcell
      rw [Nat.add_zero] at hcellW
      have HE : Hid (edgeR t L false = (L.getD 0 [], 0, 0)) := by show _ = _; simp [edgeR, h0]
      have HF := Lib.hid (two_block HK.out (.slice ak nk ck) (.int .i64 0))
      have HW := Lib.hid (two_below (u0 := .slice ak nk ck) (u1 := .int .i64 0) HB.out (show w.heap.size ≤ w.heap.size + 1 by omega))
      have HV := Lib.hid (hvk.below HW.out (Nat.le_refl _))
      clear h0 hvk hcell
      go_wp2_with fail
      have hf := HF.out; have hw := HW.out; have hv := HV.out
      simp only [put2] at hf hw hv
      generalize (W.setCell ⟨w.heap.size + 1, 0, none⟩ (.slice ak nk ck)).setCell ⟨w.heap.size + 1, 1, none⟩ (.int .i64 0) = wf at *
      obtain ⟨⟨j0, j1⟩, _⟩ := two_facts hf
      exact bodyPost_ret (v := .tuple #[.agg #[.slice ak nk ck, .int .i64 0], .int .i64 0]) (by simp [results, Try.results82, go_sem, j0, j1]) rfl (by rw [HE.out]; exact ⟨ak, nk, ck, rfl, ⟨hv, HQK.out⟩, hw⟩)
    · obtain ⟨b, off, cap, vk, hv, hcap, _, hcell, hvk⟩ := HL0.out.at_ (L.length - 1) (by omega)
      simp only [Value.slice.injEq] at hv
      obtain ⟨rfl, _, rfl⟩ := hv
      obtain ⟨ak, nk, ck, rfl⟩ := hvk.slice3
      have HQK := Lib.hid (HQ.out.2 _ _ _ _ rfl (L.length - 1) (by omega) _ hcell)
      have hcellW := (HB.out.cell (p := ⟨b, off + (L.length - 1), none⟩) (World.block_lt_of_cell? w _ hcell)).trans hcell
      have hmem : L.getD (L.length - 1) [] ∈ L := by simp [show L.length - 1 < L.length by omega]
      have HG := Lib.hid (get_any S t _ _ _ W HN.out (hvk.below HB.out (Nat.le_refl _)) (HI.out _ hmem))
      have hx1 : IntKind.i64.wrap ((L.length : Int) - 1) = (L.length : Int) - 1 := IntWalk.i64_in _ (by omega)
      have hx2 : 0 ≤ (L.length : Int) - 1 := by omega
      have hx3 : ((L.length : Int) - 1).toNat = L.length - 1 := by omega
      have hx4 : (L.length : Int) - 1 < (L.length : Int) := by omega
      have HVK := Lib.hid hvk
      have HPOS := Lib.hid h0
      clear h0 hvk hcell hmem
      go_wp2_with fail
      refine HG.out.mono ?_
      rintro e w1 ⟨hb1, hg⟩
      clear hx1 hx2 hx3 hx4 k0 k1 m0 m1 y0 y1 y2 y3
      have hblk1 := blk_below HK.out hb1
      have hsz := lt_of_block HK.out
      have hs1 := hb1.size
      have HB1 := Lib.hid (gr_tr HB.out hb1)
      have HK1 := Lib.hid hblk1
      obtain ⟨⟨k0, k1⟩, ⟨m0, m1⟩⟩ := two_facts hblk1
      have hne1 : w1.heap.size ≠ w.heap.size + 1 := by omega
      clear HG hb1 hblk1
      rcases hg with ⟨hg, rfl⟩ | ⟨cs2, s, hg, rfl, ht⟩
      · have HE : Hid (edgeR t L true = (L.getD (L.length - 1) [], 0, 5)) := by show _ = _; unfold edgeR; rw [if_neg HPOS.out, if_neg (by decide), hg]
        have hal := blk_below HK1.out (gr_al (gr_refl w1) (.cells #[.bool false, .slice none 0 0, .slice none 0 0, .slice none 0 0] 26))
        have hbl := gr_al HB1.out (.cells #[.bool false, .slice none 0 0, .slice none 0 0, .slice none 0 0] 26)
        obtain ⟨⟨q0, q1⟩, ⟨r0, r1⟩⟩ := two_facts hal
        have HF := Lib.hid (two_block hal (.slice ak nk ck) (.int .i64 0))
        have HW := Lib.hid (two_below (u0 := .slice ak nk ck) (u1 := .int .i64 0) hbl (show w.heap.size ≤ w.heap.size + 1 by omega))
        have HV := Lib.hid (HVK.out.below HW.out (Nat.le_refl _))
        clear hg hal hbl k0 k1 m0 m1
        go_wp2_with fail
        have hf := HF.out; have hw := HW.out; have hv := HV.out
        simp only [put2] at hf hw hv
        generalize World.setCell (World.setCell (w1.alloc _) _ _) _ _ = wf at *
        obtain ⟨⟨j0, j1⟩, _⟩ := two_facts hf
        exact bodyPost_ret (v := .tuple #[.agg #[.slice ak nk ck, .int .i64 0], .int .i64 5]) (by simp [results, Try.results82, go_sem, j0, j1]) rfl (by rw [HE.out]; exact ⟨ak, nk, ck, rfl, ⟨hv, HQK.out⟩, hw⟩)
      · have HE : Hid (edgeR t L true = (L.getD (L.length - 1) [], (s.text.length : Int), (0 : Int))) := by show _ = _; unfold edgeR; rw [if_neg HPOS.out, if_neg (by decide), hg]
        obtain ⟨pv', tv', kv', es', rfl, h1, h2, h3, hkl, _⟩ := ht.nodeAt.open_
        obtain ⟨x1, z1, rfl⟩ := h1.slice
        obtain ⟨ta, tc, rfl⟩ := h2.slice
        obtain ⟨x3, z3, rfl⟩ := h3.slice
        have hmap : (s.text.map runeCells).length = s.text.length := by simp
        have hmap2 : (s.props.map propCells).length = s.props.length := by simp
        rw [hmap, hmap2]
        rw [hkl]
        clear h1 h2 h3 ht hmap hmap2 hkl
        have hal := blk_below HK1.out (gr_al (gr_refl w1) (.cells #[.bool s.leaf, .slice x1 s.props.length z1, .slice ta s.text.length tc, .slice x3 s.kids.length z3] 26))
        have hbl := gr_al HB1.out (.cells #[.bool s.leaf, .slice x1 s.props.length z1, .slice ta s.text.length tc, .slice x3 s.kids.length z3] 26)
        have hnew := heap_alloc_new w1 (.cells #[.bool s.leaf, .slice x1 s.props.length z1, .slice ta s.text.length tc, .slice x3 s.kids.length z3] 26)
        clear hg k0 k1 m0 m1
        go_upto_region 7 with fail
        generalize w1.alloc _ = V at *
        obtain ⟨⟨q0, q1⟩, ⟨r0, r1⟩⟩ := two_facts hal
        obtain ⟨⟨y0, y1, y2, y3⟩, _⟩ := four_facts hnew
        have HF := Lib.hid (two_block hal (.slice ak nk ck) (.int .i64 s.text.length))
        have HW := Lib.hid (two_below (u0 := .slice ak nk ck) (u1 := .int .i64 s.text.length) hbl (show w.heap.size ≤ w.heap.size + 1 by omega))
        have HV := Lib.hid (HVK.out.below HW.out (Nat.le_refl _))
        clear hal hbl hnew
        go_wp2_with fail
        have hf := HF.out; have hw := HW.out; have hv := HV.out
        simp only [put2] at hf hw hv
        generalize World.setCell (World.setCell V _ _) _ _ = wf at *
        obtain ⟨⟨j0, j1⟩, _⟩ := two_facts hf
        exact bodyPost_ret (v := .tuple #[.agg #[.slice ak nk ck, .int .i64 s.text.length], .int .i64 0]) (by simp [results, Try.results82, go_sem, j0, j1]) rfl (by rw [HE.out]; exact ⟨ak, nk, ck, rfl, ⟨hv, HQK.out⟩, hw⟩)
end Go.Proofs.Ytdcpoeaddhbjbaa
