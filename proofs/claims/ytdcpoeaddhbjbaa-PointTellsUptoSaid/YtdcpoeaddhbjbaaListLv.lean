/- Walk of tree.paths, and of what calls it, for lv. -/
import Derived.Test.YtdcpoeaddhbjbaaPathsLv
import Derived.Laws.EntriesVeiled
namespace Go.Proofs.Ytdcpoeaddhbjbaa
set_option maxRecDepth 100000
open Go.RowKit

theorem wants_lv : Wants 71 Tree.leaf := by
  intro S t cs w h
  obtain ⟨a1, n1, c1, a2, n2, c2, a3, n3, c3, rfl⟩ := h.form
  clear h
  go_enter Try.func71, Try.ntmps71
  go_wp2
  go_ret
  exact ⟨rfl, gr_al (gr_refl w) _⟩

set_option maxHeartbeats 1000000 in
theorem paths_lv (S : Nat → Prop) (t : Tree) (cs : List Value) (w : World) (h : NodeAt S w cs t) (hs : sizeT t ≤ 1500000) :
    Calls Try.prog 68 #[.agg (List.toArray cs), .func (.func 71) #[] #[]] w (ListPost w (pathsL Tree.leaf t [])) := by
  obtain ⟨a1, n1, c1, a2, n2, c2, a3, n3, c3, rfl⟩ := h.form
  have HN := Lib.hid h.there
  clear h
  go_enter Try.func68, Try.ntmps68
  go_wp2_with fail
  refine (each_lv wants_lv t _ w.heap.size _ _ _ [] [] (.slice none 0 0) (.slice none 0 0) (envW w #[.bool t.leaf, .slice a1 n1 c1, .slice a2 n2 c2, .slice a3 n3 c3] 71) (HN.out.keep (fun b hb => (env_below w _ _).block b hb.2) |>.weaken (fun b hb => hb.2)) (env_start w _ _) ⟨[], World.ownsRow_nil _ _ _ _, fun j hj => by simp at hj⟩ (Own.nil _ _) (env_below w _ _).size (by simp; omega) (by simp; omega)).mono ?_
  rintro e w' ⟨rfl, ov', he, ho, hr⟩
  have c1' := cell_of_row _ (w.heap.size + 1 + 1) 0 _ _ (0, 0) he.2.1
  simp only [List.getElem?_toArray, List.getElem?_cons_zero] at c1'
  have HO := Lib.hid ho
  have HB := Lib.hid ((env_below w #[.bool t.leaf, .slice a1 n1 c1, .slice a2 n2 c2, .slice a3 n3 c3] 71).trans hr.1)
  clear he ho hr
  go_wp2
  go_ret
  refine ⟨ov', rfl, ?_, HB.out⟩
  simpa using HO.out

theorem leaves_any (S : Nat → Prop) (t : Tree) (cs : List Value) (w : World) (h : NodeAt S w cs t) (hs : sizeT t ≤ 1500000) :
    Calls Try.prog 23 #[.agg (List.toArray cs)] w (ListPost w (pathsL Tree.leaf t [])) := by
  obtain ⟨a1, n1, c1, a2, n2, c2, a3, n3, c3, rfl⟩ := h.form
  have HC := Lib.hid (paths_lv S t _ _ (h.alloc (.cells #[.bool t.leaf, .slice a1 n1 c1, .slice a2 n2 c2, .slice a3 n3 c3] 26)) hs)
  have HB := Lib.hid (gr_al (gr_refl w) (.cells #[.bool t.leaf, .slice a1 n1 c1, .slice a2 n2 c2, .slice a3 n3 c3] 26))
  clear h
  go_enter Try.func23, Try.ntmps23
  go_wp2_with fail
  refine HC.out.mono ?_
  rintro e w' ⟨v', rfl, ho, hb⟩
  have HO := Lib.hid ho; have HB2 := Lib.hid hb
  clear ho hb
  go_wp2
  go_ret
  exact ⟨v', rfl, HO.out.base HB.out.size, gr_tr HB.out HB2.out⟩
end Go.Proofs.Ytdcpoeaddhbjbaa
