/- Walk of tree.Get: a copy of the node at a path. -/
import Derived.Test.YtdcpoeaddhbjbaaAt
import Derived.Test.YtdcpoeaddhbjbaaCopy
namespace Go.Proofs.Ytdcpoeaddhbjbaa
set_option maxRecDepth 100000
open Go.RowKit

/-- A node's zero. -/
abbrev zeroN : Value := .agg #[.bool false, .slice none 0 0, .slice none 0 0, .slice none 0 0]
/-- The cells of a node or, where there is none, of the zero one. -/
def zeroT : Tree := .mk false [] [] []

/-- What a function hands back that finds a tree, or does not. -/
def Found (w : World) (r : Option Tree) (er : Int) (e : Ending) (w' : World) : Prop :=
  Below w.heap.size w w' ∧ ((r = none ∧ e = .returned (.tuple #[zeroN, .int .i64 er])) ∨
    ∃ cs s, r = some s ∧ e = .returned (.tuple #[.agg (Array.mk cs), .int .i64 0]) ∧ Tr w' (fun b => w.heap.size ≤ b) cs s)

theorem blk_below {w w1 : World} {g : Nat} {o : Obj} (h : w.heap[g]? = some o) (hb : Below w.heap.size w w1) : w1.heap[g]? = some o := by
  rw [hb.block g (lt_of_block h), h]
theorem copied_form {t : Tree} {w : World} {e : Ending} {w' : World} (h : Copied t w e w') : ∃ (l : Bool) (a1 : Option Addr) (n1 c1 : Nat) (a2 : Option Addr) (n2 c2 : Nat) (a3 : Option Addr) (n3 c3 : Nat), e = .returned (.agg #[.bool l, .slice a1 n1 c1, .slice a2 n2 c2, .slice a3 n3 c3]) ∧
    Tr w' (fun b => w.heap.size ≤ b) [.bool l, .slice a1 n1 c1, .slice a2 n2 c2, .slice a3 n3 c3] t ∧ Below w.heap.size w w' := by
  obtain ⟨cs, he, ht, hb⟩ := h
  obtain ⟨a1, n1, c1, a2, n2, c2, a3, n3, c3, hc⟩ := ht.nodeAt.form
  subst hc
  exact ⟨_, _, _, _, _, _, _, _, _, _, he, ht, hb⟩
/-- A block of four cells, its cells and marks. -/
theorem four_facts {w' : World} {g : Nat} {x0 x1 x2 x3 : Value} {t : TypeId} (h : w'.heap[g]? = some (.cells #[x0, x1, x2, x3] t (0, 0))) :
    (w'.cell? ⟨g, 0, none⟩ = some x0 ∧ w'.cell? ⟨g, 1, none⟩ = some x1 ∧ w'.cell? ⟨g, 2, none⟩ = some x2 ∧ w'.cell? ⟨g, 3, none⟩ = some x3) ∧
      (w'.frozen? ⟨g, 0, none⟩ = false ∧ w'.frozen? ⟨g, 1, none⟩ = false ∧ w'.frozen? ⟨g, 2, none⟩ = false ∧ w'.frozen? ⟨g, 3, none⟩ = false) := by
  have hc := fun i => cell_of_row w' g i _ _ (0, 0) h
  refine ⟨⟨by rw [hc]; rfl, by rw [hc]; rfl, by rw [hc]; rfl, by rw [hc]; rfl⟩, ?_⟩
  simp [World.frozen?, h]

set_option maxHeartbeats 1000000 in
theorem get_any (S : Nat → Prop) (t : Tree) (cs : List Value) (p : List Int) (v : Value) (w : World) (h : NodeAt S w cs t) (hp : Ints w v p) (hi : I64 p) :
    Calls Try.prog 17 #[.agg (Array.mk cs), v] w (Found w (getT t p) 5) := by
  obtain ⟨a1, n1, c1, a2, n2, c2, a3, n3, c3, rfl⟩ := h.form
  obtain ⟨av, nv, cv, rfl⟩ := hp.slice3
  have hbox := Here.box h 26
  have hbw := gr_al (gr_al (gr_refl w) (.cells #[.bool t.leaf, .slice a1 n1 c1, .slice a2 n2 c2, .slice a3 n3 c3] 26)) (.cells #[.bool false, .slice none 0 0, .slice none 0 0, .slice none 0 0] 26)
  have hA := at_any S t w.heap.size 0 p (.slice av nv cv) _ (hbox.later (gr_al (gr_refl _) (.cells #[.bool false, .slice none 0 0, .slice none 0 0, .slice none 0 0] 26)) (Nat.le_refl _)) (hp.below hbw (Nat.le_refl _)) hi
  have hblk := heap_alloc_new (w.alloc (.cells #[.bool t.leaf, .slice a1 n1 c1, .slice a2 n2 c2, .slice a3 n3 c3] 26)) (.cells #[.bool false, .slice none 0 0, .slice none 0 0, .slice none 0 0] 26)
  have hsz : (w.alloc (.cells #[.bool t.leaf, .slice a1 n1 c1, .slice a2 n2 c2, .slice a3 n3 c3] 26)).heap.size = w.heap.size + 1 := by simp
  rw [hsz] at hblk
  have HA := Lib.hid hA; have HB := Lib.hid hbw; have HK := Lib.hid hblk
  clear hbox hA hbw hp hi h hblk hsz
  go_enter Try.func17, Try.ntmps17
  go_wp2_with fail
  refine HA.out.mono ?_
  rintro e w1 ⟨rfl, hg⟩
  clear HA
  have hblk := HK.out
  obtain ⟨⟨k0, k1, k2, k3⟩, ⟨m0, m1, m2, m3⟩⟩ := four_facts hblk
  have hbw := HB.out
  have HG := Lib.hid hg
  clear HB HK hg
  generalize World.alloc _ _ = W at *
  have HB := Lib.hid hbw; have HK := Lib.hid hblk
  clear hbw hblk
  have hg := HG.out
  clear HG
  rcases hg with ⟨hg, rfl⟩ | ⟨b', o', s, hg, rfl, hf, hh⟩
  · have HG := Lib.hid hg
    clear hg
    have hfb := four_block (u0 := .bool false) (u1 := .slice none 0 0) (u2 := .slice none 0 0) (u3 := .slice none 0 0) HK.out
    have hfw : Below w.heap.size w (set4 W (w.heap.size + 1) 0 (.bool false) (.slice none 0 0) (.slice none 0 0) (.slice none 0 0)) := set4_below HB.out (by omega)
    go_wp2_with fail
    simp only [set4, Nat.zero_add] at hfw
    obtain ⟨⟨j0, j1, j2, j3⟩, _⟩ := four_facts hfb
    generalize ((((W.setCell ⟨w.heap.size + 1, 0, none⟩ (.bool false)).setCell ⟨w.heap.size + 1, 1, none⟩ (.slice none 0 0)).setCell ⟨w.heap.size + 1, 2, none⟩ (.slice none 0 0)).setCell ⟨w.heap.size + 1, 3, none⟩ (.slice none 0 0)) = wf at *
    exact bodyPost_ret (v := .tuple #[zeroN, .int .i64 5]) (by simp [results, Try.results17, go_sem, j0, j1, j2, j3]) rfl ⟨hfw, .inl ⟨HG.out, rfl⟩⟩
  · have HG := Lib.hid hg
    clear hg hf
    obtain ⟨a1', n1', c1', a2', c2', a3', c3', hr, hn, _, _⟩ := hh.form
    obtain ⟨r0, r1, r2, r3⟩ := range4 hr
    have HC := Lib.hid (copy_any s _ _ W hn)
    clear hr hn hh
    go_wp2_with fail
    refine HC.out.mono ?_
    intro e w2 hc
    obtain ⟨l, b1, o1, d1, b2, o2, d2, b3, o3, d3, rfl, ht, hb⟩ := copied_form hc
    clear hc HC k0 k1 k2 k3 m0 m1 m2 m3 r0 r1 r2 r3
    have hblk2 : w2.heap[w.heap.size + 1]? = some (.cells #[.bool false, .slice none 0 0, .slice none 0 0, .slice none 0 0] 26 (0, 0)) := blk_below HK.out hb
    have hlt := lt_of_block HK.out
    have hsz := hb.size
    have hfb := four_block (u0 := .bool l) (u1 := .slice b1 o1 d1) (u2 := .slice b2 o2 d2) (u3 := .slice b3 o3 d3) hblk2
    have hfs := four_stored (w' := w2) (g := w.heap.size + 1) (u0 := .bool l) (u1 := .slice b1 o1 d1) (u2 := .slice b2 o2 d2) (u3 := .slice b3 o3 d3)
    have hfw : Below w.heap.size w (set4 w2 (w.heap.size + 1) 0 (.bool l) (.slice b1 o1 d1) (.slice b2 o2 d2) (.slice b3 o3 d3)) := set4_below (gr_tr HB.out hb) (by omega)
    have htr : Tr (set4 w2 (w.heap.size + 1) 0 (.bool l) (.slice b1 o1 d1) (.slice b2 o2 d2) (.slice b3 o3 d3)) (fun b => w.heap.size ≤ b) [.bool l, .slice b1 o1 d1, .slice b2 o2 d2, .slice b3 o3 d3] s :=
      (ht.keep fun b hb' => hfs b (by omega)).weaken fun b hb' => by omega
    obtain ⟨⟨k0, k1, k2, k3⟩, ⟨m0, m1, m2, m3⟩⟩ := four_facts hblk2
    have HF := Lib.hid hfb; have HW := Lib.hid hfw; have HT := Lib.hid htr
    clear hfs hfb hfw htr hblk2 hb ht hlt hsz
    go_wp2_with fail
    have hfb := HF.out; have hfw := HW.out; have htr := HT.out
    clear HF HW HT
    simp only [set4, Nat.zero_add] at hfw htr
    obtain ⟨⟨j0, j1, j2, j3⟩, _⟩ := four_facts hfb
    generalize ((((w2.setCell ⟨w.heap.size + 1, 0, none⟩ (.bool l)).setCell ⟨w.heap.size + 1, 1, none⟩ (.slice b1 o1 d1)).setCell ⟨w.heap.size + 1, 2, none⟩ (.slice b2 o2 d2)).setCell ⟨w.heap.size + 1, 3, none⟩ (.slice b3 o3 d3)) = wf at *
    exact bodyPost_ret (v := .tuple #[.agg #[.bool l, .slice b1 o1 d1, .slice b2 o2 d2, .slice b3 o3 d3], .int .i64 0]) (by simp [results, Try.results17, go_sem, j0, j1, j2, j3]) rfl ⟨hfw, .inr ⟨_, _, HG.out, rfl, htr⟩⟩
end Go.Proofs.Ytdcpoeaddhbjbaa
