/- Walks of tree.Put and tree.Cut. -/
import Derived.Test.YtdcpoeaddhbjbaaClos5
import Derived.Test.YtdcpoeaddhbjbaaRCopy
import Derived.Test.YtdcpoeaddhbjbaaTrails
import Derived.RegionTactic
namespace Go.Proofs.Ytdcpoeaddhbjbaa
set_option maxRecDepth 100000
open Go.RowKit

/-- A block behind two. -/
theorem three_boxesN (w : World) (c1 c2 c3 : Array Value) (t1 t2 t3 : TypeId) : Below w.heap.size w (((w.alloc (.cells c1 t1)).alloc (.cells c2 t2)).alloc (.cells c3 t3)) ∧
    (((w.alloc (.cells c1 t1)).alloc (.cells c2 t2)).alloc (.cells c3 t3)).heap[w.heap.size]? = some (.cells c1 t1 (0, 0)) ∧ (((w.alloc (.cells c1 t1)).alloc (.cells c2 t2)).alloc (.cells c3 t3)).heap[w.heap.size + 1]? = some (.cells c2 t2 (0, 0)) ∧
    (((w.alloc (.cells c1 t1)).alloc (.cells c2 t2)).alloc (.cells c3 t3)).heap[w.heap.size + 1 + 1]? = some (.cells c3 t3 (0, 0)) := by
  obtain ⟨h1, h2, h3⟩ := two_boxesN w c1 c2 t1 t2
  have hs : ((w.alloc (.cells c1 t1)).alloc (.cells c2 t2)).heap.size = w.heap.size + 1 + 1 := by simp
  generalize (w.alloc (.cells c1 t1)).alloc (.cells c2 t2) = V at *
  refine ⟨gr_al h1 _, blk_below h2 (gr_al (gr_refl V) _), blk_below h3 (gr_al (gr_refl V) _), ?_⟩
  have := heap_alloc_new V (.cells c3 t3)
  rwa [hs] at this

/-- The results of a pair, stored in the result's box. -/
theorem store_res {w w1 : World} {W : World} {g : Nat} {l : Bool} {a1 : Option Addr} {n1 c1 : Nat} {a2 : Option Addr} {n2 c2 : Nat} {a3 : Option Addr} {n3 c3 : Nat} {s : Tree} (hW : Below w.heap.size w W) (hg : W.heap[g]? = some (.cells #[.bool false, .slice none 0 0, .slice none 0 0, .slice none 0 0] 26 (0, 0))) (hgw : w.heap.size ≤ g) (hb : Below W.heap.size W w1)
    (ht : Tr w1 (fun b => W.heap.size ≤ b) [.bool l, .slice a1 n1 c1, .slice a2 n2 c2, .slice a3 n3 c3] s) :
    (set4 w1 g 0 (.bool l) (.slice a1 n1 c1) (.slice a2 n2 c2) (.slice a3 n3 c3)).heap[g]? = some (.cells #[.bool l, .slice a1 n1 c1, .slice a2 n2 c2, .slice a3 n3 c3] 26 (0, 0)) ∧
    Below w.heap.size w (set4 w1 g 0 (.bool l) (.slice a1 n1 c1) (.slice a2 n2 c2) (.slice a3 n3 c3)) ∧ Tr (set4 w1 g 0 (.bool l) (.slice a1 n1 c1) (.slice a2 n2 c2) (.slice a3 n3 c3)) (fun b => w.heap.size ≤ b) [.bool l, .slice a1 n1 c1, .slice a2 n2 c2, .slice a3 n3 c3] s := by
  have hlt := lt_of_block hg
  have hs := hW.size
  refine ⟨four_block (blk_below hg hb), set4_below (gr_tr hW hb) hgw, (ht.keep fun b hb' => four_stored b (by omega)).weaken fun b hb' => by omega⟩

set_option maxHeartbeats 1000000 in
theorem put_any (S S' : Nat → Prop) (t m : Tree) (cs ds : List Value) (p : List Int) (v : Value) (w : World) (hn : NodeAt S w cs t) (hp : Ints w v p) (hi : I64 p) (hm : NodeAt S' w ds m) :
    Calls Try.prog 26 #[.agg (List.toArray cs), v, .agg (List.toArray ds)] w (Found w (chT t p fun _ => (0, m)) (chE t p fun _ => (0, m))) := by
  obtain ⟨a1, n1, c1, a2, n2, c2, a3, n3, c3, rfl⟩ := hn.form
  obtain ⟨d1, e1, f1, d2, e2, f2, d3, e3, f3, rfl⟩ := hm.form
  obtain ⟨av, nv, cv, rfl⟩ := hp.slice3
  obtain ⟨hbW, hx1, hx2, hx3⟩ := three_boxesN w #[.bool t.leaf, .slice a1 n1 c1, .slice a2 n2 c2, .slice a3 n3 c3] #[.bool m.leaf, .slice d1 e1 f1, .slice d2 e2 f2, .slice d3 e3 f3] #[.bool false, .slice none 0 0, .slice none 0 0, .slice none 0 0] 26 26 26
  have HN := Lib.hid (hn.later hbW (Nat.le_refl _)); have HM := Lib.hid (hm.later hbW (Nat.le_refl _)); have HP := Lib.hid (hp.below hbW (Nat.le_refl _)); have HI := Lib.hid hi; have HB := Lib.hid hbW; have HX1 := Lib.hid hx1; have HX2 := Lib.hid hx2; have HX3 := Lib.hid hx3
  have HEN := Lib.hid (show ∀ args w, (callFunc 73 args).run Try.prog w = .ok (.enter 73 args) w from enters_of Try.func73 (by kernel_rfl) rfl)
  obtain ⟨er, hE⟩ : ∃ er, (chE t p fun _ => (0, m)) = er := ⟨_, rfl⟩
  rw [hE]
  have HE := Lib.hid hE
  clear hn hm hp hi hbW hx1 hx2 hx3 hE
  go_enter Try.func26, Try.ntmps26
  go_upto_region 1 with fail
  generalize World.alloc (World.alloc (World.alloc w _) _) _ = W at *
  obtain ⟨⟨k0, k1, k2, k3⟩, _⟩ := four_facts HX1.out
  go_wp2_with fail
  refine (changed_any S t _ p _ W 73 #[.pointer (some ⟨w.heap.size + 1, 0, none⟩)] (fun _ => (0, m)) HN.out HP.out HI.out HEN.out (fun s _ => put_turner (w.heap.size + 1) m _ S' s W HX2.out HM.out)).mono ?_
  rintro e w1 ⟨hb1, hr⟩
  rw [HE.out] at hr
  clear k0 k1 k2 k3
  have hXX := blk_below HX3.out hb1
  obtain ⟨_, ⟨m0, m1, m2, m3⟩⟩ := four_facts hXX
  obtain ⟨⟨k0, k1, k2, k3⟩, _⟩ := four_facts hXX
  have HXX := Lib.hid hXX; have HB1 := Lib.hid hb1
  clear hXX hb1
  rcases hr with ⟨hr, rfl⟩ | ⟨cs', s, hr, rfl, ht⟩
  · have HR := Lib.hid hr
    clear hr
    have hfb := four_block (u0 := .bool false) (u1 := .slice none 0 0) (u2 := .slice none 0 0) (u3 := .slice none 0 0) HXX.out
    have hfw : Below w.heap.size w (set4 w1 (w.heap.size + 1 + 1) 0 (.bool false) (.slice none 0 0) (.slice none 0 0) (.slice none 0 0)) := set4_below (gr_tr HB.out HB1.out) (by omega)
    have HFB := Lib.hid hfb; have HFW := Lib.hid hfw
    clear hfb hfw
    go_wp2_with fail
    have hfb := HFB.out; have hfw := HFW.out
    clear HFB HFW
    simp only [set4, Nat.zero_add] at hfb hfw
    obtain ⟨⟨j0, j1, j2, j3⟩, _⟩ := four_facts hfb
    generalize ((((w1.setCell ⟨w.heap.size + 1 + 1, 0, none⟩ (.bool false)).setCell ⟨w.heap.size + 1 + 1, 1, none⟩ (.slice none 0 0)).setCell ⟨w.heap.size + 1 + 1, 2, none⟩ (.slice none 0 0)).setCell ⟨w.heap.size + 1 + 1, 3, none⟩ (.slice none 0 0)) = wf at *
    exact bodyPost_ret (v := .tuple #[zeroN, .int .i64 er]) (by simp [results, Try.results26, go_sem, j0, j1, j2, j3]) rfl ⟨hfw, .inl ⟨HR.out, rfl⟩⟩
  · obtain ⟨q1, r1, s1, q2, r2, s2, q3, r3, s3, hcs'⟩ := ht.nodeAt.form
    subst hcs'
    have HR := Lib.hid hr
    obtain ⟨g1, g2, g3⟩ := store_res HB.out HX3.out (by omega) HB1.out ht
    have HG1 := Lib.hid g1; have HG2 := Lib.hid g2; have HG3 := Lib.hid g3
    clear hr ht g1 g2 g3
    generalize s.leaf = l at *
    go_wp2_with fail
    have hfb := HG1.out; have hfw := HG2.out; have htr := HG3.out
    clear HG1 HG2 HG3
    simp only [set4, Nat.zero_add] at hfb hfw htr
    obtain ⟨⟨j0, j1, j2, j3⟩, _⟩ := four_facts hfb
    generalize ((((w1.setCell ⟨w.heap.size + 1 + 1, 0, none⟩ (.bool l)).setCell ⟨w.heap.size + 1 + 1, 1, none⟩ (.slice q1 r1 s1)).setCell ⟨w.heap.size + 1 + 1, 2, none⟩ (.slice q2 r2 s2)).setCell ⟨w.heap.size + 1 + 1, 3, none⟩ (.slice q3 r3 s3)) = wf at *
    exact bodyPost_ret (v := .tuple #[.agg #[.bool l, .slice q1 r1 s1, .slice q2 r2 s2, .slice q3 r3 s3], .int .i64 0]) (by simp [results, Try.results26, go_sem, j0, j1, j2, j3]) rfl ⟨hfw, .inr ⟨_, _, HR.out, rfl, htr⟩⟩
end Go.Proofs.Ytdcpoeaddhbjbaa
