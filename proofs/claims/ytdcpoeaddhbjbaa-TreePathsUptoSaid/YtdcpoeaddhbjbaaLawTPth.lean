/- The walk of the law TreePaths. -/
import Derived.Test.YtdcpoeaddhbjbaaRList
import Derived.Test.YtdcpoeaddhbjbaaLive5
import Derived.Test.YtdcpoeaddhbjbaaRefs
namespace Go.Proofs.Ytdcpoeaddhbjbaa
set_option maxRecDepth 100000
open Go.RowKit

theorem rsameall_yes {W w : World} {v1 v2 : Value} {L : List (List Int)} (h1 : OwnL w W.heap.size v1 L) (h2 : OwnL w W.heap.size v2 L) (hs : L.length * 24 ≤ 140737488351232) :
    Calls Try.prog 20 #[v1, v2] w fun e w' => e = .returned (.bool true) ∧ Below w.heap.size w w' := by
  refine (rsameall_any L L v1 v2 w (h1.ints hs) (h2.ints hs)).mono ?_
  rintro e w' ⟨rfl, hs⟩
  exact ⟨by simp, sm_below hs⟩
/-- A list in any later world. -/
theorem listL {W : World} {F : FuncId} {cs : List Value} {S : Nat → Prop} {t : Tree} {L : List (List Int)} (hn : NodeAt S W cs t) (h : ∀ w, NodeAt S w cs t → Calls Try.prog F #[.agg (List.toArray cs)] w (ListPost w L)) :
    ∀ w', Below W.heap.size W w' → Calls Try.prog F #[.agg (List.toArray cs)] w' fun e w2 => ∃ v', e = .returned v' ∧ OwnL w2 W.heap.size v' L ∧ Below w'.heap.size w' w2 := fun w' l => by
  refine (h w' (hn.boxed l)).mono ?_
  rintro e w2 ⟨v', rfl, ho, hb⟩
  exact ⟨v', rfl, ho.base l.size, hb⟩

set_option maxHeartbeats 4000000 in
theorem law_tpaths (t : Tree) (v1 : Value) (w : World) (h1 : NodeV w v1 t ∧ sizeT t ≤ 1048576) :
    Calls Try.prog 4 #[v1] w (Yes w) := by
  obtain ⟨⟨cs, rfl, hn⟩, hsz⟩ := h1
  obtain ⟨a1, n1, c1, a2, n2, c2, a3, n3, c3, rfl⟩ := hn.form
  have hs : sizeT t ≤ 1500000 := by omega
  have hbW := gr_al (gr_refl w) (.cells #[.bool t.leaf, .slice a1 n1 c1, .slice a2 n2 c2, .slice a3 n3 c3] 26)
  have HX := Lib.hid (heap_alloc_new w (.cells #[.bool t.leaf, .slice a1 n1 c1, .slice a2 n2 c2, .slice a3 n3 c3] 26))
  have HN := Lib.hid (hn.boxed hbW); have HB := Lib.hid hbW
  have HS1 : Hid ((pathsL allT t []).length * 24 ≤ 140737488351232) := Lib.hid (by have := pathsL_len allT t []; omega)
  have HS2 : Hid ((pathsL Tree.leaf t []).length * 24 ≤ 140737488351232) := Lib.hid (by have := pathsL_len Tree.leaf t []; omega)
  have HA := Lib.hid (fun (w : World) (h : NodeAt Any w [.bool t.leaf, .slice a1 n1 c1, .slice a2 n2 c2, .slice a3 n3 c3] t) => allpaths_any Any t _ w h hs)
  have HRA := Lib.hid (fun (w : World) (h : NodeAt Any w [.bool t.leaf, .slice a1 n1 c1, .slice a2 n2 c2, .slice a3 n3 c3] t) => rallpaths_any Any t _ w h hs)
  have HL := Lib.hid (fun (w : World) (h : NodeAt Any w [.bool t.leaf, .slice a1 n1 c1, .slice a2 n2 c2, .slice a3 n3 c3] t) => leaves_any Any t _ w h hs)
  have HRL := Lib.hid (fun (w : World) (h : NodeAt Any w [.bool t.leaf, .slice a1 n1 c1, .slice a2 n2 c2, .slice a3 n3 c3] t) => rleaves_any Any t _ w h hs)
  clear hn hbW hs hsz
  go_enter Try.func4, Try.ntmps4
  go_upto_region 1 with fail
  generalize World.alloc w _ = W0 at *
  go_wp2_with fail
  refine (live5_any W0).mono ?_
  rintro e w1 ⟨rfl, l⟩
  have L := Lib.hid l
  obtain ⟨⟨k0, k1, k2, k3⟩, _⟩ := four_facts (blk_below HX.out l)
  clear l
  go_wp2_with fail
  refine (fewN_any t _ Any 200 _ (HN.out.boxed L.out)).mono ?_
  rintro e W ⟨fw, rfl, l2⟩
  have HXW := Lib.hid (blk_below HX.out (gr_tr L.out l2))
  have HNW := Lib.hid (HN.out.boxed (gr_tr L.out l2))
  have HBW := Lib.hid (gr_tr HB.out (gr_tr L.out l2))
  clear l2 k0 k1 k2 k3 L HX HN HB
  cases fw
  · go_wp2_with fail
    go_ret
    exact ⟨rfl, HBW.out⟩
  · go_upto_region 5 with fail
    have BB := Lib.hid (nodeL HXW.out)
    have CA := Lib.hid (listL HNW.out HA.out); have CRA := Lib.hid (listL HNW.out HRA.out); have CL := Lib.hid (listL HNW.out HL.out); have CRL := Lib.hid (listL HNW.out HRL.out)
    clear HA HRA HL HRL
    have l := gr_dr (gr_refl W)
    generalize pathsL allT t [] = LA at *
    generalize pathsL Tree.leaf t [] = LL at *
    go_region_held3 (fun w' => w'.cell? ⟨w.heap.size, 0, none⟩ = some (.bool t.leaf) ∧ w'.cell? ⟨w.heap.size, 1, none⟩ = some (.slice a1 n1 c1) ∧ w'.cell? ⟨w.heap.size, 2, none⟩ = some (.slice a2 n2 c2) ∧ w'.cell? ⟨w.heap.size, 3, none⟩ = some (.slice a3 n3 c3))
      (exact BB.out _ l)
      (first
        | ((try rw [if_pos (by rfl)]); (try go_simp); go_at_call 21; (with_reducible refine (CA.out _ l).mono ?_); rintro e w5 ⟨va, rfl, oa, hb5⟩; replace l := gr_tr l hb5; (try replace ora := ora.later hb5); clear hb5; (try dsimp only))
        | ((try rw [if_pos (by rfl)]); (try go_simp); go_at_call 22; (with_reducible refine (CRA.out _ l).mono ?_); rintro e w6 ⟨vra, rfl, ora, hb5⟩; replace l := gr_tr l hb5; (try replace oa := oa.later hb5); clear hb5; (try dsimp only))
        | ((try rw [if_pos (by rfl)]); (try go_simp); go_at_call 20; (with_reducible refine (rsameall_yes oa ora HS1.out).mono ?_); rintro e w7 ⟨rfl, hb5⟩; replace l := gr_tr l hb5; clear hb5 oa ora; (try dsimp only))
        | ((try rw [if_pos (by rfl)]); (try go_simp); go_at_call 23; (with_reducible refine (CL.out _ l).mono ?_); rintro e w8 ⟨vl, rfl, ol, hb5⟩; replace l := gr_tr l hb5; (try replace orl := orl.later hb5); clear hb5; (try dsimp only))
        | ((try rw [if_pos (by rfl)]); (try go_simp); go_at_call 24; (with_reducible refine (CRL.out _ l).mono ?_); rintro e w9 ⟨vrl, rfl, orl, hb5⟩; replace l := gr_tr l hb5; (try replace ol := ol.later hb5); clear hb5; (try dsimp only))
        | ((try rw [if_pos (by rfl)]); (try go_simp); go_at_call 20; (with_reducible refine (rsameall_yes ol orl HS2.out).mono ?_); rintro e w10 ⟨rfl, hb5⟩; replace l := gr_tr l hb5; clear hb5 ol orl; (try dsimp only)))
    all_goals
      go_wp2_with fail
      go_ret
      exact ⟨rfl, gr_tr HBW.out l⟩
end Go.Proofs.Ytdcpoeaddhbjbaa
