/- Walk of redlineref05.Put. -/
import Derived.Test.YtdcpoeaddhbjbaaRGet
import Derived.Test.YtdcpoeaddhbjbaaPut
namespace Go.Proofs.Ytdcpoeaddhbjbaa
set_option maxRecDepth 100000
open Go.RowKit

/-- A child that has been put in place of another. -/
theorem Tr.set_kid {w : World} {F G : Nat → Prop} {l : Bool} {pv tv : Value} {g n c i : Nat} {t s : Tree} {u0 u1 u2 u3 : Value}
    (h : Tr w F [.bool l, pv, tv, .slice (some ⟨g, 0, none⟩) n c] t) (hs : Tr w G [u0, u1, u2, u3] s) (hFG : ∀ b, F b → ¬ G b) (hi : i < n) :
    Tr (set4 w g (i * 4) u0 u1 u2 u3) (fun b => F b ∨ G b) [.bool l, pv, tv, .slice (some ⟨g, 0, none⟩) n c] (.mk t.leaf t.props t.text (t.kids.set i s)) := by
  cases h with
  | @mk _ _ ps xs ks _ _ _ es Fp Fi hp ht hk hl hg hpF hiF hd hall =>
    obtain ⟨hgF, hgP, hgI⟩ := hg g rfl
    have hle : es.length = n := by obtain ⟨a', c', he⟩ := (hk.sl (by decide)).slice; simp only [Value.slice.injEq] at he; omega
    have hks : ks.length = n := by omega
    refine .mk (Fp := Fp) (Fi := fun j b => if j = i then G b else Fi j b) (hp.keep fun b hb => set4_heap b ?_) (ht.keep fun b hb => set4_heap b ?_) (hk.set4 i hi u0 u1 u2 u3) (by simp [Tree.kids, hl]) ?_ (fun b hb => .inl (hpF b hb)) ?_ ?_ ?_
    · rintro rfl; exact hgP hb
    · rintro rfl; exact hgP hb
    · intro g' hg'
      obtain ⟨h1, h2, h3⟩ := hg g' hg'
      refine ⟨.inl h1, h2, fun j hj hF => ?_⟩
      simp only [Tree.kids, List.length_set] at hj
      by_cases hji : j = i
      · simp only [hji, if_true] at hF; exact hFG _ h1 hF
      · simp only [hji, if_false] at hF; exact h3 j hj hF
    · intro j b hj hF
      simp only [Tree.kids, List.length_set] at hj
      by_cases hji : j = i
      · simp only [hji, if_true] at hF; exact ⟨.inr hF, fun h => hFG _ (hpF b h) hF⟩
      · simp only [hji, if_false] at hF; exact ⟨.inl (hiF j b hj hF).1, (hiF j b hj hF).2⟩
    · intro j k b hj hk' hjk hF hF2
      simp only [Tree.kids, List.length_set] at hj hk'
      by_cases hji : j = i
      · have hki : k ≠ i := by omega
        simp only [hji, if_true] at hF
        simp only [hki, if_false] at hF2
        exact hFG _ (hiF k b hk' hF2).1 hF
      · simp only [hji, if_false] at hF
        by_cases hki : k = i
        · simp only [hki, if_true] at hF2
          exact hFG _ (hiF j b hj hF).1 hF2
        · simp only [hki, if_false] at hF2
          exact hd j k b hj hk' hjk hF hF2
    · intro j hj
      simp only [Tree.kids, List.length_set] at hj
      show Tr _ _ _ ((ks.set i s).getD j default)
      by_cases hji : j = i
      · subst hji
        have e1 : (es.set j [u0, u1, u2, u3]).getD j [] = [u0, u1, u2, u3] := by simp [hle, hi]
        have e2 : (ks.set j s).getD j default = s := by simp [hks, hi]
        rw [e1, e2]
        simp only [if_true]
        exact hs.keep fun b hb => set4_heap b (by rintro rfl; exact hFG _ hgF hb)
      · have e1 : (es.set i [u0, u1, u2, u3]).getD j [] = es.getD j [] := by simp [List.getElem?_set_ne (Ne.symm hji)]
        have e2 : (ks.set i s).getD j default = ks.getD j default := by simp [List.getElem?_set_ne (Ne.symm hji)]
        rw [e1, e2]
        simp only [hji, if_false]
        exact (hall j hj).keep fun b hb => set4_heap b (by rintro rfl; exact hgI j hj hb)

/-- A path behind its first step, as Go slices it. -/
theorem ints_tail {w : World} {b o n c : Nat} {i : Int} {p : List Int} (h : Ints w (.slice (some ⟨b, o, none⟩) n c) (i :: p)) : (1 < c → Ints w (.slice (some ⟨b, o + 1, none⟩) (n - 1) (c - 1)) p) ∧ (c = 1 → Ints w (.slice (some ⟨b, o, none⟩) 0 0) p ∧ n = 1 ∧ p = []) := by
  obtain ⟨a', cap', he, h1, hm, h2, h4⟩ := h
  simp only [Value.slice.injEq] at he
  obtain ⟨rfl, rfl, rfl⟩ := he
  simp only [List.length_cons] at *
  refine ⟨fun hc => ⟨some ⟨b, o + 1, none⟩, c - 1, by simp, by omega, by omega, by omega, fun hl => ?_⟩, fun hc => ?_⟩
  · obtain ⟨b', off', e, hc'⟩ := h4 (by omega)
    simp only [Option.some.injEq, Addr.mk.injEq] at e
    obtain ⟨rfl, rfl, -⟩ := e
    refine ⟨b, o + 1, rfl, fun j hj => ?_⟩
    have := hc' (j + 1) (by omega)
    rw [show o + 1 + j = o + (j + 1) from by omega, this]
    simp
  · have : p = [] := List.eq_nil_of_length_eq_zero (by omega)
    subst this
    exact ⟨⟨some ⟨b, o, none⟩, 0, rfl, Nat.le_refl _, by unfold maxLen; omega, by simp, fun h => by simp at h⟩, by simp, rfl⟩

/-- The row of a node of a call's own. -/
theorem Tr.row {w : World} {F : Nat → Prop} {l : Bool} {pv tv : Value} {a : Option Addr} {n c : Nat} {t : Tree} (h : Tr w F [.bool l, pv, tv, .slice a n c] t) (i : Nat) (hi : i < t.kids.length) :
    ∃ g, a = some ⟨g, 0, none⟩ ∧ n = t.kids.length ∧ n ≤ c ∧ F g ∧ w.there g (i * 4) 4 := by
  cases h with
  | @mk _ _ ps xs ks _ _ _ es Fp Fi hp ht hk hl hg hpF hiF hd hall =>
    have hle : es.length = n := by obtain ⟨a', c', he⟩ := (hk.sl (by decide)).slice; simp only [Value.slice.injEq] at he; omega
    obtain ⟨g, rfl, h1, _, h3, _, _, h6, _⟩ := hk.at_ (by decide) i (by simp only [Tree.kids] at hi; omega)
    exact ⟨g, rfl, by simp only [Tree.kids]; omega, h1, (hg g rfl).1, h6⟩

theorem World.block_lt_of_there {w : World} {b o : Nat} (h : w.there b o 4) : b < w.heap.size := by
  obtain ⟨x0, h0⟩ := Option.isSome_iff_exists.1 (h 0 (by omega)).1
  exact World.block_lt_of_cell? w _ h0

/-- What Put makes of a path's first step. -/
theorem putR_none {t m : Tree} {i : Int} {p : List Int} (h : ¬ (0 ≤ i ∧ i.toNat < t.kids.length)) : (chT t (i :: p) fun _ => (0, m)) = none := by
  simp [chT, getT_cons, h]
theorem putR_kid {t m : Tree} {i : Int} {p : List Int} (h : 0 ≤ i ∧ i.toNat < t.kids.length) : (chT t (i :: p) fun _ => (0, m)) = (chT (t.kids.getD i.toNat default) p fun _ => (0, m)).map fun s => .mk t.leaf t.props t.text (t.kids.set i.toNat s) := by
  simp only [chT, getT_cons, if_pos h]
  cases getT (t.kids.getD i.toNat default) p <;> rfl

/-- Put's tail at a store of the zero node: what the walk needs. -/
theorem zero_res {w W w1 : World} {g : Nat} (hW : Below w.heap.size w W) (hg : W.heap[g]? = some (.cells #[.bool false, .slice none 0 0, .slice none 0 0, .slice none 0 0] 26 (0, 0))) (hgw : w.heap.size ≤ g) (hb : Below W.heap.size W w1) :
    (set4 w1 g 0 (.bool false) (.slice none 0 0) (.slice none 0 0) (.slice none 0 0)).heap[g]? = some (.cells #[.bool false, .slice none 0 0, .slice none 0 0, .slice none 0 0] 26 (0, 0)) ∧
    Below w.heap.size w (set4 w1 g 0 (.bool false) (.slice none 0 0) (.slice none 0 0) (.slice none 0 0)) :=
  ⟨four_block (blk_below hg hb), set4_below (gr_tr hW hb) hgw⟩

/-- Put's recursive call, and its box. -/
def PutC (r : Option Tree) (w : World) (e : Ending) (w' : World) : Prop :=
  ∃ (l : Bool) (a1 : Option Addr) (n1 c1 : Nat) (a2 : Option Addr) (n2 c2 : Nat) (a3 : Option Addr) (n3 c3 : Nat) (er : Int), e = .returned (.tuple #[.agg #[.bool l, .slice a1 n1 c1, .slice a2 n2 c2, .slice a3 n3 c3], .int .i64 er]) ∧ Below w.heap.size w w' ∧
    ((r = none ∧ er = 5) ∨ ∃ s, r = some s ∧ er = 0 ∧ Tr w' (fun b => w.heap.size ≤ b) [.bool l, .slice a1 n1 c1, .slice a2 n2 c2, .slice a3 n3 c3] s)
theorem putC_of {r : Option Tree} {w : World} {e : Ending} {w' : World} (h : Found w r 5 e w') : PutC r w e w' := by
  obtain ⟨hb, ⟨hr, rfl⟩ | ⟨cs, s, hr, rfl, ht⟩⟩ := h
  · exact ⟨_, _, _, _, _, _, _, _, _, _, _, rfl, hb, .inl ⟨hr, rfl⟩⟩
  · obtain ⟨a1, n1, c1, a2, n2, c2, a3, n3, c3, rfl⟩ := ht.nodeAt.form
    exact ⟨_, _, _, _, _, _, _, _, _, _, _, rfl, hb, .inr ⟨s, hr, rfl, ht⟩⟩
def PutB (r : Option Tree) (W : World) (s8 s9 : Value) (wx : World) : Prop :=
  ∃ (g : Nat) (l : Bool) (a1 : Option Addr) (n1 c1 : Nat) (a2 : Option Addr) (n2 c2 : Nat) (a3 : Option Addr) (n3 c3 : Nat) (er : Int), s8 = .pointer (some ⟨g, 0, none⟩) ∧ s9 = .int .i64 er ∧ W.heap.size ≤ g ∧ Below W.heap.size W wx ∧
    wx.heap[g]? = some (.cells #[.bool l, .slice a1 n1 c1, .slice a2 n2 c2, .slice a3 n3 c3] 26 (0, 0)) ∧
    ((r = none ∧ er = 5) ∨ ∃ s, r = some s ∧ er = 0 ∧ Tr wx (fun b => W.heap.size ≤ b ∧ b ≠ g) [.bool l, .slice a1 n1 c1, .slice a2 n2 c2, .slice a3 n3 c3] s)
theorem putB_late {r : Option Tree} {W w1 w2 : World} {l : Bool} {a1 : Option Addr} {n1 c1 : Nat} {a2 : Option Addr} {n2 c2 : Nat} {a3 : Option Addr} {n3 c3 : Nat} {er : Int} (l1 : Below W.heap.size W w1) (l2 : Below w1.heap.size w1 w2)
    (h : (r = none ∧ er = 5) ∨ ∃ s, r = some s ∧ er = 0 ∧ Tr w2 (fun b => w1.heap.size ≤ b) [.bool l, .slice a1 n1 c1, .slice a2 n2 c2, .slice a3 n3 c3] s) :
    PutB r W (.pointer (some ⟨w2.heap.size, 0, none⟩)) (.int .i64 er) (w2.alloc (.cells #[.bool l, .slice a1 n1 c1, .slice a2 n2 c2, .slice a3 n3 c3] 26)) := by
  have l3 := gr_tr l1 l2
  refine ⟨_, _, _, _, _, _, _, _, _, _, _, _, rfl, rfl, l3.size, gr_al l3 _, heap_alloc_new w2 _, ?_⟩
  rcases h with h | ⟨s, h1, h2, h3⟩
  · exact .inl h
  · exact .inr ⟨s, h1, h2, (h3.there.later (gr_al (gr_refl w2) _)).weaken fun b hb => ⟨by have := l1.size; omega, by omega⟩⟩
theorem putB_early {r : Option Tree} {W w1 w2 : World} {g : Nat} {l : Bool} {a1 : Option Addr} {n1 c1 : Nat} {a2 : Option Addr} {n2 c2 : Nat} {a3 : Option Addr} {n3 c3 : Nat} {er : Int} {x0 x1 x2 x3 : Value} (hg : w1.heap[g]? = some (.cells #[x0, x1, x2, x3] 26 (0, 0))) (hgW : W.heap.size ≤ g) (l1 : Below W.heap.size W w1) (l2 : Below w1.heap.size w1 w2)
    (h : (r = none ∧ er = 5) ∨ ∃ s, r = some s ∧ er = 0 ∧ Tr w2 (fun b => w1.heap.size ≤ b) [.bool l, .slice a1 n1 c1, .slice a2 n2 c2, .slice a3 n3 c3] s) :
    PutB r W (.pointer (some ⟨g, 0, none⟩)) (.int .i64 er) ((((w2.setCell ⟨g, 0, none⟩ (.bool l)).setCell ⟨g, 1, none⟩ (.slice a1 n1 c1)).setCell ⟨g, 2, none⟩ (.slice a2 n2 c2)).setCell ⟨g, 3, none⟩ (.slice a3 n3 c3)) := by
  have l3 := gr_tr l1 l2
  have hgl := lt_of_block hg
  refine ⟨_, _, _, _, _, _, _, _, _, _, _, _, rfl, rfl, hgW, set4z l3 hgW, four_block (blk_below hg l2), ?_⟩
  rcases h with h | ⟨s, h1, h2, h3⟩
  · exact .inl h
  · exact .inr ⟨s, h1, h2, (h3.keep fun b hb => four_stored b (by omega)).weaken fun b hb => ⟨by have := l1.size; omega, by omega⟩⟩

/-- The last stores of Put: the child into its row, the node into the result's box. -/
theorem put_end {w W V : World} {F G : Nat → Prop} {g3 gb gk n c i : Nat} {l : Bool} {p1 : Option Addr} {p2 p3 : Nat} {p4 : Option Addr} {p5 p6 : Nat} {t s : Tree} {u0 u1 u2 u3 : Value}
    (hW : Below w.heap.size w W) (hV : Below W.heap.size W V) (hg3 : W.heap[g3]? = some (.cells #[.bool false, .slice none 0 0, .slice none 0 0, .slice none 0 0] 26 (0, 0))) (hg3w : w.heap.size ≤ g3)
    (hgb : V.heap[gb]? = some (.cells #[.bool l, .slice p1 p2 p3, .slice p4 p5 p6, .slice (some ⟨gk, 0, none⟩) n c] 26 (0, 0)))
    (hT : Tr V F [.bool l, .slice p1 p2 p3, .slice p4 p5 p6, .slice (some ⟨gk, 0, none⟩) n c] t) (hS : Tr V G [u0, u1, u2, u3] s) (hFG : ∀ b, F b → ¬ G b) (hi : i < n)
    (hgk : W.heap.size ≤ gk) (hF : ∀ b, F b → W.heap.size ≤ b) (hG : ∀ b, G b → W.heap.size ≤ b) (hgbk : gb ≠ gk) :
    ((set4 V gk (i * 4) u0 u1 u2 u3).heap[gb]? = some (.cells #[.bool l, .slice p1 p2 p3, .slice p4 p5 p6, .slice (some ⟨gk, 0, none⟩) n c] 26 (0, 0))) ∧
    ((set4 V gk (i * 4) u0 u1 u2 u3).heap[g3]? = some (.cells #[.bool false, .slice none 0 0, .slice none 0 0, .slice none 0 0] 26 (0, 0))) ∧
    (set4 (set4 V gk (i * 4) u0 u1 u2 u3) g3 0 (.bool l) (.slice p1 p2 p3) (.slice p4 p5 p6) (.slice (some ⟨gk, 0, none⟩) n c)).heap[g3]? = some (.cells #[.bool l, .slice p1 p2 p3, .slice p4 p5 p6, .slice (some ⟨gk, 0, none⟩) n c] 26 (0, 0)) ∧
    Below w.heap.size w (set4 (set4 V gk (i * 4) u0 u1 u2 u3) g3 0 (.bool l) (.slice p1 p2 p3) (.slice p4 p5 p6) (.slice (some ⟨gk, 0, none⟩) n c)) ∧
    Tr (set4 (set4 V gk (i * 4) u0 u1 u2 u3) g3 0 (.bool l) (.slice p1 p2 p3) (.slice p4 p5 p6) (.slice (some ⟨gk, 0, none⟩) n c)) (fun b => w.heap.size ≤ b) [.bool l, .slice p1 p2 p3, .slice p4 p5 p6, .slice (some ⟨gk, 0, none⟩) n c] (.mk t.leaf t.props t.text (t.kids.set i s)) := by
  have hlt := lt_of_block hg3
  have hs := hW.size
  have e1 : (set4 V gk (i * 4) u0 u1 u2 u3).heap[g3]? = some (.cells #[.bool false, .slice none 0 0, .slice none 0 0, .slice none 0 0] 26 (0, 0)) := by rw [set4_heap _ (by omega)]; exact blk_below hg3 hV
  refine ⟨by rw [set4_heap _ hgbk]; exact hgb, e1, four_block e1, set4_below (set4_below (gr_tr hW hV) (by omega)) hg3w, ?_⟩
  refine ((hT.set_kid hS hFG hi).keep fun b hb => set4_heap b ?_).weaken fun b hb => ?_
  · rcases hb with h | h
    · have := hF b h; omega
    · have := hG b h; omega
  · rcases hb with h | h
    · have := hF b h; omega
    · have := hG b h; omega

set_option maxHeartbeats 4000000 in
theorem rput_any (S' : Nat → Prop) (m : Tree) : ∀ (p : List Int) (S : Nat → Prop) (t : Tree) (cs ds : List Value) (v : Value) (w : World), NodeAt S w cs t → Ints w v p → I64 p → NodeAt S' w ds m →
    Calls Try.prog 55 #[.agg (List.toArray cs), v, .agg (List.toArray ds)] w (Found w (chT t p fun _ => (0, m)) 5) := by
  intro p
  induction p with
  | nil =>
    intro S t cs ds v w hn hp hi hm
    obtain ⟨a1, n1, c1, a2, n2, c2, a3, n3, c3, rfl⟩ := hn.form
    obtain ⟨d1, e1, f1, d2, e2, f2, d3, e3, f3, rfl⟩ := hm.form
    obtain ⟨av, cv, rfl⟩ := hp.slice
    simp only [List.length_nil]
    obtain ⟨hbW, hx1, hx2, hx3⟩ := three_boxesN w #[.bool t.leaf, .slice a1 n1 c1, .slice a2 n2 c2, .slice a3 n3 c3] #[.bool m.leaf, .slice d1 e1 f1, .slice d2 e2 f2, .slice d3 e3 f3] #[.bool false, .slice none 0 0, .slice none 0 0, .slice none 0 0] 26 26 26
    have HM := Lib.hid (hm.later hbW (Nat.le_refl _)); have HB := Lib.hid hbW; have HX2 := Lib.hid hx2; have HX3 := Lib.hid hx3
    have HR : Hid ((chT t [] fun _ => (0, m)) = some m) := by show _ = _; rfl
    clear hn hm hp hi hbW hx1 hx2 hx3
    go_enter Try.func55, Try.ntmps55
    go_upto_region 1 with fail
    generalize World.alloc (World.alloc (World.alloc w _) _) _ = W at *
    obtain ⟨⟨k0, k1, k2, k3⟩, _⟩ := four_facts HX2.out
    have HC := Lib.hid (rcopyN_any m _ S' W HM.out)
    go_wp2_with fail
    refine HC.out.mono ?_
    intro e w1 hc
    obtain ⟨l, q1, r1, s1, q2, r2, s2, q3, r3, s3, rfl, ht, hb⟩ := copied_form hc
    clear hc HC k0 k1 k2 k3
    obtain ⟨⟨k0, k1, k2, k3⟩, ⟨m0, m1, m2, m3⟩⟩ := four_facts (blk_below HX3.out hb)
    obtain ⟨g1, g2, g3⟩ := store_res HB.out HX3.out (by omega) hb ht
    have HG1 := Lib.hid g1; have HG2 := Lib.hid g2; have HG3 := Lib.hid g3
    clear ht g1 g2 g3 hb
    go_wp2_with fail
    have hfb := HG1.out; have hfw := HG2.out; have htr := HG3.out
    clear HG1 HG2 HG3
    simp only [set4, Nat.zero_add] at hfb hfw htr
    obtain ⟨⟨j0, j1, j2, j3⟩, _⟩ := four_facts hfb
    generalize World.setCell (World.setCell (World.setCell (World.setCell w1 _ _) _ _) _ _) _ _ = wf at *
    exact bodyPost_ret (v := .tuple #[.agg #[.bool l, .slice q1 r1 s1, .slice q2 r2 s2, .slice q3 r3 s3], .int .i64 0]) (by simp [results, Try.results55, go_sem, j0, j1, j2, j3]) rfl ⟨hfw, .inr ⟨_, _, HR.out, rfl, htr⟩⟩
  | cons i p ih => 
    intro S t cs ds v w hn hp hi hm
    obtain ⟨a1, n1, c1, a2, n2, c2, a3, c3, rfl⟩ := node_form3 hn
    obtain ⟨d1, e1, f1, d2, e2, f2, d3, e3, f3, rfl⟩ := hm.form
    obtain ⟨av, cv, rfl⟩ := hp.slice
    have hlc : (i :: p).length ≤ cv := by obtain ⟨a', c', he, hh, _⟩ := id hp; simp only [Value.slice.injEq] at he; obtain ⟨-, -, rfl⟩ := he; exact hh
    have hb8 := hp.len
    obtain ⟨bp, op, rfl, hc0⟩ : ∃ b off, av = some ⟨b, off, none⟩ ∧ w.cell? ⟨b, off, none⟩ = some (.int .i64 i) := by
      obtain ⟨a', c', he, _, _, _, hh⟩ := id hp
      simp only [Value.slice.injEq] at he
      obtain ⟨rfl, -, rfl⟩ := he
      obtain ⟨b, off, rfl, hx⟩ := hh (by simp at *; omega)
      exact ⟨b, off, rfl, hx 0 (by simp)⟩
    obtain ⟨hbW, hx1, hx2, hx3⟩ := three_boxesN w #[.bool t.leaf, .slice a1 n1 c1, .slice a2 n2 c2, .slice a3 t.kids.length c3] #[.bool m.leaf, .slice d1 e1 f1, .slice d2 e2 f2, .slice d3 e3 f3] #[.bool false, .slice none 0 0, .slice none 0 0, .slice none 0 0] 26 26 26
    have hiI := hi i (by simp)
    have HI : Hid (I64 p) := Lib.hid fun x hx => hi x (List.mem_cons_of_mem _ hx)
    have hcW := (hbW.cell (p := ⟨bp, op, none⟩) (World.block_lt_of_cell? w _ hc0)).trans hc0
    have HN := Lib.hid (hn.later hbW (Nat.le_refl _)); have HM := Lib.hid (hm.later hbW (Nat.le_refl _)); have HP := Lib.hid (hp.below hbW (Nat.le_refl _)); have HB := Lib.hid hbW; have HX1 := Lib.hid hx1; have HX2 := Lib.hid hx2; have HX3 := Lib.hid hx3
    have h80 := kids_80 hn
    have IH := Lib.hid ih
    have hnn : (((i :: p).length : Nat) : Int) = (p.length : Int) + 1 := by simp
    obtain ⟨n, hN⟩ : ∃ n, (i :: p).length = n := ⟨_, rfl⟩
    rw [hN] at hlc hb8 HP ⊢
    have HNN := Lib.hid hN
    have q : (((n : Nat) : Int) == 0) = false := by rw [beq_eq_false_iff_ne]; simp at hN; omega
    have hn1 : 1 ≤ n := by simp at hN; omega
    clear hn hm hp hi hbW hx1 hx2 hx3 ih hc0 hnn hN
    by_cases hok : 0 ≤ i ∧ i.toNat < t.kids.length
    · obtain ⟨hpos, hlt2⟩ := hok
      have hneg : decide (i < 0) = false := by simpa using hpos
      have hge : decide ((t.kids.length : Int) ≤ i) = false := by simp; omega
      have hl2 : i < (t.kids.length : Int) := by omega
      have HRK := Lib.hid (putR_kid (m := m) (p := p) ⟨hpos, hlt2⟩)
      have HLT := Lib.hid hlt2
      go_enter Try.func55, Try.ntmps55
      go_upto_region 1 with fail
      generalize World.alloc (World.alloc (World.alloc w _) _) _ = W at *
      obtain ⟨⟨k0, k1, k2, k3⟩, _⟩ := four_facts HX1.out
      go_wp2_with fail
      go_quiet (fail)
      have hDW : Below W.heap.size W (W.drewN nq) := below_drewN (Below.refl _ _) nq
      generalize World.drewN W nq = WD at *
      obtain ⟨b, off, b1, q1, r1, b2, q2, r2, b3, r3, rfl, hc, hkid, e0, e1', e2', e3'⟩ := kid_of (HN.out.later hDW (Nat.le_refl _)) i.toNat hlt2
      have HM' := Lib.hid (HM.out.later hDW (Nat.le_refl _)); have HP' := Lib.hid (HP.out.below hDW (Nat.le_refl _)); have HN' := Lib.hid (HN.out.later hDW (Nat.le_refl _))
      have HK : Hid (∀ w', Below WD.heap.size WD w' → w'.cell? ⟨w.heap.size, 3, none⟩ = some (.slice (some ⟨b, off, none⟩) t.kids.length c3) ∧ w'.cell? ⟨bp, op, none⟩ = some (.int .i64 i) ∧ w'.cell? ⟨b, off + i.toNat * 4, none⟩ = some (.bool (t.kids.getD i.toNat default).leaf) ∧ w'.cell? ⟨b, off + i.toNat * 4 + 1, none⟩ = some (.slice b1 q1 r1) ∧
          w'.cell? ⟨b, off + i.toNat * 4 + 2, none⟩ = some (.slice b2 q2 r2) ∧ w'.cell? ⟨b, off + i.toNat * 4 + 3, none⟩ = some (.slice b3 (t.kids.getD i.toNat default).kids.length r3) ∧ w'.cell? ⟨w.heap.size + 1, 0, none⟩ = some (.bool m.leaf) ∧ w'.cell? ⟨w.heap.size + 1, 1, none⟩ = some (.slice d1 e1 f1) ∧ w'.cell? ⟨w.heap.size + 1, 2, none⟩ = some (.slice d2 e2 f2) ∧ w'.cell? ⟨w.heap.size + 1, 3, none⟩ = some (.slice d3 e3 f3)) := Lib.hid (fun w' hb => by
        have k := fun (a : Addr) (v : Value) (hc : WD.cell? a = some v) => (hb.cell (p := a) (World.block_lt_of_cell? WD _ hc)).trans hc
        obtain ⟨⟨x0, x1, x2, x3⟩, -⟩ := four_facts (blk_below HX1.out (gr_tr hDW hb))
        obtain ⟨⟨y0, y1, y2, y3⟩, -⟩ := four_facts (blk_below HX2.out (gr_tr hDW hb))
        exact ⟨x3, ((gr_tr hDW hb).cell (p := ⟨bp, op, none⟩) (World.block_lt_of_cell? W _ hcW)).trans hcW, k _ _ e0, k _ _ e1', k _ _ e2', k _ _ e3', y0, y1, y2, y3⟩)
      have HKID := Lib.hid hkid
      have HDW := Lib.hid hDW
      clear k0 k1 k2 k3 hcW hc hkid e0 e1' e2' e3' hDW HN HM HP
      go_upto_region 5 with fail
      go_cut [8, 9] (fun s8 s9 wx => PutB (chT (t.kids.getD i.toNat default) p fun _ => (0, m)) WD s8 s9 wx)
      case first =>
        by_cases hcv : 1 < cv
        · have hcv1 : (1 : Int) ≤ (cv : Int) := by omega
          have hcv2 : (1 : Int) ≤ (n : Int) := by omega
          have hcv3 : 0 < n := by omega
          have hcv4 : ¬ cv = 1 := by omega
          have HCL : Hid (∀ w', Below WD.heap.size WD w' → Calls Try.prog 55 #[.agg #[.bool (t.kids.getD i.toNat default).leaf, .slice b1 q1 r1, .slice b2 q2 r2, .slice b3 (t.kids.getD i.toNat default).kids.length r3], .slice (some ⟨bp, op + 1, none⟩) (n - 1) (cv - 1), .agg #[.bool m.leaf, .slice d1 e1 f1, .slice d2 e2 f2, .slice d3 e3 f3]] w' (PutC (chT (t.kids.getD i.toNat default) p fun _ => (0, m)) w')) := Lib.hid (fun w' l => (IH.out S _ [_, _, _, _] [_, _, _, _] _ w' (HKID.out.later l (Nat.le_refl _)) ((ints_tail (HP'.out.below l (Nat.le_refl _))).1 hcv) HI.out (HM'.out.later l (Nat.le_refl _))).mono fun e w2 h => putC_of h)
          have l0 : Below WD.heap.size WD WD.drew := gr_dr (gr_refl WD)
          have l1 : Below WD.heap.size WD (World.drew (WD.alloc (.cells #[.bool false, .slice none 0 0, .slice none 0 0, .slice none 0 0] 26))) := gr_dr (gr_al (gr_refl WD) _)
          have Z1 := Lib.hid (blk_below (heap_alloc_new WD (.cells #[.bool false, .slice none 0 0, .slice none 0 0, .slice none 0 0] 26)) (gr_dr (gr_refl _)))
          generalize t.kids.getD i.toNat default = kid at *
          generalize t.kids.length = tk at *
          clear HKID HP' HM' HN' IH HRK HX1 HX2 HX3
          go_region_held3 (fun w' => w'.cell? ⟨w.heap.size, 3, none⟩ = some (.slice (some ⟨b, off, none⟩) tk c3) ∧ w'.cell? ⟨bp, op, none⟩ = some (.int .i64 i) ∧ w'.cell? ⟨b, off + i.toNat * 4, none⟩ = some (.bool kid.leaf) ∧ w'.cell? ⟨b, off + i.toNat * 4 + 1, none⟩ = some (.slice b1 q1 r1) ∧ w'.cell? ⟨b, off + i.toNat * 4 + 2, none⟩ = some (.slice b2 q2 r2) ∧ w'.cell? ⟨b, off + i.toNat * 4 + 3, none⟩ = some (.slice b3 kid.kids.length r3) ∧ w'.cell? ⟨w.heap.size + 1, 0, none⟩ = some (.bool m.leaf) ∧ w'.cell? ⟨w.heap.size + 1, 1, none⟩ = some (.slice d1 e1 f1) ∧ w'.cell? ⟨w.heap.size + 1, 2, none⟩ = some (.slice d2 e2 f2) ∧ w'.cell? ⟨w.heap.size + 1, 3, none⟩ = some (.slice d3 e3 f3))
            (first | (with_reducible exact HK.out _ l0) | (with_reducible exact HK.out _ l1) | (with_reducible exact HK.out _ (gr_al l0 _)) | (with_reducible exact HK.out _ l2) | (with_reducible exact HK.out _ (gr_al l2 _)) | (with_reducible exact HK.out _ (set4z l2 (Nat.le_refl _))))
            (first
              | ((try rw [if_pos (by rfl)]); (try go_simp); go_at_call 55; (with_reducible refine (HCL.out _ l0).mono ?_); rintro e w2 ⟨lq, x1, y1, z1, x2, y2, z2, x3, y3, z3, er, rfl, hb2, hr2⟩; have l2 := gr_tr l0 hb2; (try dsimp only))
              | ((try rw [if_pos (by rfl)]); (try go_simp); go_at_call 55; (with_reducible refine (HCL.out _ l1).mono ?_); rintro e w2 ⟨lq, x1, y1, z1, x2, y2, z2, x3, y3, z3, er, rfl, hb2, hr2⟩; have l2 := gr_tr l1 hb2; obtain ⟨⟨u0, u1, u2, u3⟩, ⟨v0, v1, v2, v3⟩⟩ := four_facts (blk_below Z1.out hb2); (try dsimp only)))
          all_goals go_wp2_with fail
          all_goals go_meet
          · exact putB_late l0 hb2 hr2
          · exact putB_early Z1.out (Nat.le_refl _) l1 hb2 hr2
        · obtain rfl : cv = 1 := by omega
          obtain rfl : n = 1 := by omega
          have HCL : Hid (∀ w', Below WD.heap.size WD w' → Calls Try.prog 55 #[.agg #[.bool (t.kids.getD i.toNat default).leaf, .slice b1 q1 r1, .slice b2 q2 r2, .slice b3 (t.kids.getD i.toNat default).kids.length r3], .slice (some ⟨bp, op, none⟩) 0 0, .agg #[.bool m.leaf, .slice d1 e1 f1, .slice d2 e2 f2, .slice d3 e3 f3]] w' (PutC (chT (t.kids.getD i.toNat default) p fun _ => (0, m)) w')) := Lib.hid (fun w' l => (IH.out S _ [_, _, _, _] [_, _, _, _] _ w' (HKID.out.later l (Nat.le_refl _)) ((ints_tail (HP'.out.below l (Nat.le_refl _))).2 rfl).1 HI.out (HM'.out.later l (Nat.le_refl _))).mono fun e w2 h => putC_of h)
          have l0 : Below WD.heap.size WD WD.drew := gr_dr (gr_refl WD)
          have l1 : Below WD.heap.size WD (World.drew (WD.alloc (.cells #[.bool false, .slice none 0 0, .slice none 0 0, .slice none 0 0] 26))) := gr_dr (gr_al (gr_refl WD) _)
          have Z1 := Lib.hid (blk_below (heap_alloc_new WD (.cells #[.bool false, .slice none 0 0, .slice none 0 0, .slice none 0 0] 26)) (gr_dr (gr_refl _)))
          generalize t.kids.getD i.toNat default = kid at *
          generalize t.kids.length = tk at *
          clear HKID HP' HM' HN' IH HRK HX1 HX2 HX3
          go_region_held3 (fun w' => w'.cell? ⟨w.heap.size, 3, none⟩ = some (.slice (some ⟨b, off, none⟩) tk c3) ∧ w'.cell? ⟨bp, op, none⟩ = some (.int .i64 i) ∧ w'.cell? ⟨b, off + i.toNat * 4, none⟩ = some (.bool kid.leaf) ∧ w'.cell? ⟨b, off + i.toNat * 4 + 1, none⟩ = some (.slice b1 q1 r1) ∧ w'.cell? ⟨b, off + i.toNat * 4 + 2, none⟩ = some (.slice b2 q2 r2) ∧ w'.cell? ⟨b, off + i.toNat * 4 + 3, none⟩ = some (.slice b3 kid.kids.length r3) ∧ w'.cell? ⟨w.heap.size + 1, 0, none⟩ = some (.bool m.leaf) ∧ w'.cell? ⟨w.heap.size + 1, 1, none⟩ = some (.slice d1 e1 f1) ∧ w'.cell? ⟨w.heap.size + 1, 2, none⟩ = some (.slice d2 e2 f2) ∧ w'.cell? ⟨w.heap.size + 1, 3, none⟩ = some (.slice d3 e3 f3))
            (first | (with_reducible exact HK.out _ l0) | (with_reducible exact HK.out _ l1) | (with_reducible exact HK.out _ (gr_al l0 _)) | (with_reducible exact HK.out _ l2) | (with_reducible exact HK.out _ (gr_al l2 _)) | (with_reducible exact HK.out _ (set4z l2 (Nat.le_refl _))))
            (first
              | ((try rw [if_pos (by rfl)]); (try go_simp); go_at_call 55; (with_reducible refine (HCL.out _ l0).mono ?_); rintro e w2 ⟨lq, x1, y1, z1, x2, y2, z2, x3, y3, z3, er, rfl, hb2, hr2⟩; have l2 := gr_tr l0 hb2; (try dsimp only))
              | ((try rw [if_pos (by rfl)]); (try go_simp); go_at_call 55; (with_reducible refine (HCL.out _ l1).mono ?_); rintro e w2 ⟨lq, x1, y1, z1, x2, y2, z2, x3, y3, z3, er, rfl, hb2, hr2⟩; have l2 := gr_tr l1 hb2; obtain ⟨⟨u0, u1, u2, u3⟩, ⟨v0, v1, v2, v3⟩⟩ := four_facts (blk_below Z1.out hb2); (try dsimp only)))
          all_goals go_wp2_with fail
          all_goals go_meet
          · exact putB_late l0 hb2 hr2
          · exact putB_early Z1.out (Nat.le_refl _) l1 hb2 hr2
      case rest =>
        obtain ⟨g, lq, x1, y1, z1, x2, y2, z2, x3, y3, z3, er, rfl, rfl, hgW, hbc, hgc, hr⟩ := hcut
        have hWc := gr_tr HDW.out hbc
        rcases hr with ⟨hr, rfl⟩ | ⟨s, hr, rfl, ht⟩
        · have HE : Hid ((chT t (i :: p) fun _ => (0, m)) = none) := Lib.hid (by rw [HRK.out, hr]; rfl)
          have hz := hWc
          clear hr hgc hbc hWc HRK HK HN' HP' HM' HKID IH
          obtain ⟨_, ⟨m0, m1, m2, m3⟩⟩ := four_facts (blk_below HX3.out hz)
          obtain ⟨g1, g2⟩ := zero_res HB.out HX3.out (by omega) hz
          have HG1 := Lib.hid g1; have HG2 := Lib.hid g2
          clear g1 g2 hz
          go_wp2_with fail
          have hfb := HG1.out; have hfw := HG2.out
          clear HG1 HG2
          simp only [set4, Nat.zero_add] at hfb hfw
          obtain ⟨⟨j0, j1, j2, j3⟩, _⟩ := four_facts hfb
          generalize World.setCell (World.setCell (World.setCell (World.setCell wc _ _) _ _) _ _) _ _ = wf at *
          exact bodyPost_ret (v := .tuple #[zeroN, .int .i64 5]) (by simp [results, Try.results55, go_sem, j0, j1, j2, j3]) rfl ⟨hfw, .inl ⟨HE.out, rfl⟩⟩
        · have HE : Hid ((chT t (i :: p) fun _ => (0, m)) = some (.mk t.leaf t.props t.text (t.kids.set i.toNat s))) := Lib.hid (by rw [HRK.out, hr]; rfl)
          obtain ⟨⟨k0, k1, k2, k3⟩, _⟩ := four_facts (blk_below HX1.out hWc)
          have HC := Lib.hid (rcopyN_any t _ S wc (HN'.out.later hbc (Nat.le_refl _)))
          have HGC := Lib.hid hgc; have HBC := Lib.hid hbc; have HTS := Lib.hid ht; have HWC := Lib.hid hWc
          have hci := (HK.out wc hbc).2.1
          clear hgc hbc ht hr hWc HRK HK HN' HP' HM' HKID IH
          go_wp2_with fail
          refine HC.out.mono ?_
          intro e w3 hc
          obtain ⟨l', p1, p2, p3, p4, p5, p6, p7, p8, p9, rfl, ht3, hb3⟩ := copied_form hc
          obtain ⟨gk, rfl, rfl, hkc, hgk, hth⟩ := ht3.row i.toNat HLT.out
          have hci3 := (hb3.cell (p := ⟨bp, op, none⟩) (World.block_lt_of_cell? wc _ hci)).trans hci
          have HT3 := Lib.hid ht3; have HB3 := Lib.hid hb3
          clear hc HC ht3 hb3 hci k0 k1 k2 k3
          go_upto_region 9 with fail
          have hVB : Below w3.heap.size w3 (w3.alloc (.cells #[.bool l', .slice p1 p2 p3, .slice p4 p5 p6, .slice (some ⟨gk, 0, none⟩) t.kids.length p9] 26)) := gr_al (gr_refl w3) _
          have hVN := heap_alloc_new w3 (.cells #[.bool l', .slice p1 p2 p3, .slice p4 p5 p6, .slice (some ⟨gk, 0, none⟩) t.kids.length p9] 26)
          generalize w3.alloc _ = V at *
          have hgkl := World.block_lt_of_there hth
          have hthV := there_keep hth (hVB.block gk hgkl)
          obtain ⟨fz0, fz1, fz2, fz3⟩ := there4 hthV
          obtain ⟨cz0, fc0⟩ := Option.isSome_iff_exists.1 (hthV 0 (by omega)).1
          obtain ⟨cz1, fc1⟩ := Option.isSome_iff_exists.1 (hthV 1 (by omega)).1
          obtain ⟨cz2, fc2⟩ := Option.isSome_iff_exists.1 (hthV 2 (by omega)).1
          obtain ⟨cz3, fc3⟩ := Option.isSome_iff_exists.1 (hthV 3 (by omega)).1
          rw [Nat.add_zero] at fc0
          have hgc4 := blk_below (blk_below HGC.out HB3.out) hVB
          obtain ⟨⟨k0, k1, k2, k3⟩, _⟩ := four_facts hgc4
          obtain ⟨⟨n0, n1', n2, n3⟩, _⟩ := four_facts hVN
          have hci4 := (hVB.cell (p := ⟨bp, op, none⟩) (World.block_lt_of_cell? w3 _ hci3)).trans hci3
          have HVB := Lib.hid hVB; have HVN := Lib.hid hVN; have HGK := Lib.hid hgk; have HGKL := Lib.hid hgkl; have HGC4 := Lib.hid hgc4
          clear hth hthV hci3 hgk hVB hVN hgc4
          have hn0 : 0 < n := by omega
          go_region
          obtain ⟨r1, r2, r3', r4, r5⟩ := put_end (V := V.drew) (G := fun b => WD.heap.size ≤ b ∧ b ≠ g ∧ b < wc.heap.size) (F := fun b => wc.heap.size ≤ b ∧ b < w3.heap.size) HB.out (gr_tr (gr_tr HWC.out HB3.out) (gr_dr HVB.out)) HX3.out (by omega) (show V.drew.heap[w3.heap.size]? = _ from HVN.out) ((HT3.out.there).later (gr_dr HVB.out))
            (((HTS.out.there).weaken (G := fun b => WD.heap.size ≤ b ∧ b ≠ g ∧ b < wc.heap.size) fun b hb => ⟨hb.1.1, hb.1.2, hb.2⟩).keep fun b hb => (gr_tr HB3.out (gr_dr HVB.out)).block b hb.2.2) (fun b hb hb' => by have := hb.1; have := hb'.2.2; omega) HLT.out (by have := HDW.out.size; have := HBC.out.size; have := HGK.out; omega) (fun b hb => by have := HDW.out.size; have := HBC.out.size; have := hb.1; omega) (fun b hb => by have := HDW.out.size; have := hb.1; omega) (by have := HGKL.out; omega)
          change Exit.then _ _ _ _ (set4 V.drew gk (i.toNat * 4) (.bool lq) (.slice x1 y1 z1) (.slice x2 y2 z2) (.slice x3 y3 z3))
          have HG1 := Lib.hid r3'; have HG2 := Lib.hid r4; have HG3 := Lib.hid r5
          clear r3' r4 r5 k0 k1 k2 k3 n0 n1' n2 n3 hci4 fz0 fz1 fz2 fz3 fc0 fc1 fc2 fc3
          generalize set4 V.drew gk (i.toNat * 4) _ _ _ _ = V2 at *
          obtain ⟨⟨k0, k1, k2, k3⟩, _⟩ := four_facts r1
          obtain ⟨_, ⟨m0, m1, m2, m3⟩⟩ := four_facts r2
          clear r1 r2
          go_wp2_with fail
          have hfb := HG1.out; have hfw := HG2.out; have htr := HG3.out
          clear HG1 HG2 HG3
          simp only [set4, Nat.zero_add] at hfb hfw htr
          obtain ⟨⟨j0, j1, j2, j3⟩, _⟩ := four_facts hfb
          generalize World.setCell (World.setCell (World.setCell (World.setCell V2 _ _) _ _) _ _) _ _ = wf at *
          exact bodyPost_ret (v := .tuple #[.agg #[.bool l', .slice p1 p2 p3, .slice p4 p5 p6, .slice (some ⟨gk, 0, none⟩) t.kids.length p9], .int .i64 0]) (by simp [results, Try.results55, go_sem, j0, j1, j2, j3]) rfl ⟨hfw, .inr ⟨_, _, HE.out, rfl, htr⟩⟩
    · have hd : (i < 0) ∨ (0 ≤ i ∧ (t.kids.length : Int) ≤ i) := by omega
      have HE := Lib.hid (putR_none (m := m) (p := p) hok)
      clear hok
      rcases hd with hd | ⟨hd, hd2⟩
      · have hneg : decide (i < 0) = true := by simpa using hd
        go_enter Try.func55, Try.ntmps55
        go_upto_region 1 with fail
        generalize World.alloc (World.alloc (World.alloc w _) _) _ = W at *
        obtain ⟨⟨k0, k1, k2, k3⟩, _⟩ := four_facts HX1.out
        go_wp2_with fail
        go_quiet (fail)
        have hDW : Below W.heap.size W (W.drewN nq) := below_drewN (Below.refl _ _) nq
        generalize World.drewN W nq = WD at *
        have hz := hDW
        obtain ⟨_, ⟨m0, m1, m2, m3⟩⟩ := four_facts (blk_below HX3.out hz)
        obtain ⟨g1, g2⟩ := zero_res HB.out HX3.out (by omega) hz
        have HG1 := Lib.hid g1; have HG2 := Lib.hid g2
        clear g1 g2 hz
        go_wp2_with fail
        have hfb := HG1.out; have hfw := HG2.out
        clear HG1 HG2
        simp only [set4, Nat.zero_add] at hfb hfw
        obtain ⟨⟨j0, j1, j2, j3⟩, _⟩ := four_facts hfb
        generalize World.setCell (World.setCell (World.setCell (World.setCell WD _ _) _ _) _ _) _ _ = wf at *
        exact bodyPost_ret (v := .tuple #[zeroN, .int .i64 5]) (by simp [results, Try.results55, go_sem, j0, j1, j2, j3]) rfl ⟨hfw, .inl ⟨HE.out, rfl⟩⟩
      · have hneg : decide (i < 0) = false := by simpa using hd
        have hge : decide ((t.kids.length : Int) ≤ i) = true := by simpa using hd2
        go_enter Try.func55, Try.ntmps55
        go_upto_region 1 with fail
        generalize World.alloc (World.alloc (World.alloc w _) _) _ = W at *
        obtain ⟨⟨k0, k1, k2, k3⟩, _⟩ := four_facts HX1.out
        go_wp2_with fail
        go_quiet (fail)
        have hDW : Below W.heap.size W (W.drewN nq) := below_drewN (Below.refl _ _) nq
        generalize World.drewN W nq = WD at *
        have hz := hDW
        obtain ⟨_, ⟨m0, m1, m2, m3⟩⟩ := four_facts (blk_below HX3.out hz)
        obtain ⟨g1, g2⟩ := zero_res HB.out HX3.out (by omega) hz
        have HG1 := Lib.hid g1; have HG2 := Lib.hid g2
        clear g1 g2 hz
        go_wp2_with fail
        have hfb := HG1.out; have hfw := HG2.out
        clear HG1 HG2
        simp only [set4, Nat.zero_add] at hfb hfw
        obtain ⟨⟨j0, j1, j2, j3⟩, _⟩ := four_facts hfb
        generalize World.setCell (World.setCell (World.setCell (World.setCell WD _ _) _ _) _ _) _ _ = wf at *
        exact bodyPost_ret (v := .tuple #[zeroN, .int .i64 5]) (by simp [results, Try.results55, go_sem, j0, j1, j2, j3]) rfl ⟨hfw, .inl ⟨HE.out, rfl⟩⟩
end Go.Proofs.Ytdcpoeaddhbjbaa
