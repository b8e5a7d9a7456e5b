/- Walks of redlineref05.Paths and Leaves. -/
import Derived.Test.YtdcpoeaddhbjbaaRPaths
namespace Go.Proofs.Ytdcpoeaddhbjbaa
set_option maxRecDepth 100000
open Go.RowKit

theorem lvT_all : lvT false = allT := by funext t; simp [lvT, allT]
theorem lvT_lv : lvT true = Tree.leaf := by funext t; simp [lvT]
theorem rallpaths_any (S : Nat → Prop) (t : Tree) (cs : List Value) (w : World) (h : NodeAt S w cs t) (hs : sizeT t ≤ 1500000) :
    Calls Try.prog 22 #[.agg (List.toArray cs)] w (ListPost w (pathsL allT t [])) := by
  obtain ⟨a1, n1, c1, a2, n2, c2, a3, n3, c3, rfl⟩ := h.form
  have hbW := gr_al (gr_refl w) (.cells #[.bool t.leaf, .slice a1 n1 c1, .slice a2 n2 c2, .slice a3 n3 c3] 26)
  have HX := Lib.hid (heap_alloc_new w (.cells #[.bool t.leaf, .slice a1 n1 c1, .slice a2 n2 c2, .slice a3 n3 c3] 26))
  have HN := Lib.hid (h.boxed hbW); have HB := Lib.hid hbW
  clear h hbW
  go_enter Try.func22, Try.ntmps22
  go_upto_region 1 with fail
  generalize World.alloc w _ = W at *
  obtain ⟨⟨k0, k1, k2, k3⟩, _⟩ := four_facts HX.out
  have HC := Lib.hid (rpaths_any false t _ S W.heap.size [] (.slice none 0 0) W HN.out (Own.nil W _) (Nat.le_refl _) (by simp; omega))
  go_wp2_with fail
  refine HC.out.mono ?_
  rintro e w1 ⟨v1, rfl, ho, hb⟩
  clear k0 k1 k2 k3
  go_wp2_with fail
  go_ret
  exact ⟨v1, rfl, by rw [lvT_all] at ho; exact (ho.ownL (Nat.le_refl _)).base HB.out.size, gr_tr HB.out hb⟩
theorem rleaves_any (S : Nat → Prop) (t : Tree) (cs : List Value) (w : World) (h : NodeAt S w cs t) (hs : sizeT t ≤ 1500000) :
    Calls Try.prog 24 #[.agg (List.toArray cs)] w (ListPost w (pathsL Tree.leaf t [])) := by
  obtain ⟨a1, n1, c1, a2, n2, c2, a3, n3, c3, rfl⟩ := h.form
  have hbW := gr_al (gr_refl w) (.cells #[.bool t.leaf, .slice a1 n1 c1, .slice a2 n2 c2, .slice a3 n3 c3] 26)
  have HX := Lib.hid (heap_alloc_new w (.cells #[.bool t.leaf, .slice a1 n1 c1, .slice a2 n2 c2, .slice a3 n3 c3] 26))
  have HN := Lib.hid (h.boxed hbW); have HB := Lib.hid hbW
  clear h hbW
  go_enter Try.func24, Try.ntmps24
  go_upto_region 1 with fail
  generalize World.alloc w _ = W at *
  obtain ⟨⟨k0, k1, k2, k3⟩, _⟩ := four_facts HX.out
  have HC := Lib.hid (rpaths_any true t _ S W.heap.size [] (.slice none 0 0) W HN.out (Own.nil W _) (Nat.le_refl _) (by simp; omega))
  go_wp2_with fail
  refine HC.out.mono ?_
  rintro e w1 ⟨v1, rfl, ho, hb⟩
  clear k0 k1 k2 k3
  go_wp2_with fail
  go_ret
  exact ⟨v1, rfl, by rw [lvT_lv] at ho; exact (ho.ownL (Nat.le_refl _)).base HB.out.size, gr_tr HB.out hb⟩
end Go.Proofs.Ytdcpoeaddhbjbaa
