/- Walk of redlineref04.Copy: a copy in blocks of its own. -/
import Derived.Test.YtcbljiiomnhbjaaPathsM
import Derived.Deep.AppendLies
import Derived.Deep.RegionLaw
import Derived.Deep.RegionHeld3
namespace Go.Proofs.Ytcbljiiomnhbjaa
set_option maxRecDepth 100000
open Go.RowKit

/-- 'append' onto a slice of the call's own, whatever is appended, as one step of a region that draws. -/
theorem step_append_any {P : Program} {ops : Array Oper} {o : Oper} {a : Act} {w : World} {K : Act → World → Prop} {Q : Exit → Act → World → Prop} {E : Prop} (hgd : o.guard = none) (s x : Operand) (t : TypeId)
    (ho : o.op = .call { callee := .builtin .append, args := #[s, x], argTypes := #[t, t] })
    (base : Nat) (e : TypeId) (i : TypeInfo) (z : Value) (size bytes : Nat) (ht : P.underlying t = some (.slice e)) (hi : P.info? e = some i) (hz : i.zero = some z)
    (hsize : i.size = size) (hby : i.bytes = bytes) (hzs : z.cells.size = size) (hsz : 0 < size)
    (v : Value) (n : Nat) (xs : List Value) (hs : a.eval s = v) (hown : w.ownsRow base e size v n xs)
    (ao : Option Addr) (m c : Nat) (news : List Value) (hx : a.eval x = .slice ao m c) (hl : news.length = m * size) (hnone : ao = none → m = 0 ∧ c = 0)
    (hnews : ∀ ad, ao = some ad → ∀ j u, news[j]? = some u → w.cell? (ad.add j) = some u) (h1 : ∀ u ∈ news, u.oneCell' = true)
    (h63 : n + m ≤ maxLen) (hbytes : (n + m) * bytes ≤ 140737488355328) (hbase : base ≤ w.heap.size)
    (h : ∀ v' w', w'.ownsRow base e size v' (n + m) (xs ++ news) → w.grownBy w' v.ownBlock → K (a.put o.dst v') w') :
    if Region.wanted o (yielded ops a.tmps) = true then Oper.wp P o a w K Q else E := by
  have hw : Region.wanted o (yielded ops a.tmps) = true := by simp [Region.wanted, hgd]
  rw [if_pos hw]
  cases ao with
  | some ad =>
    obtain ⟨v', w', hrun, r1, r2, _⟩ := run_append_own (P := P) w base t o.type e i z size bytes ht hi hz hsize hby hzs hsz v n xs hown ad m c news hl (hnews ad rfl) h1 h63 hbytes hbase
    unfold Oper.wp
    simp [execOp, ho, resolve, invoke, builtin, hs, hx, hrun, Result.andThen]
    exact h v' w' r1 r2
  | none =>
    obtain ⟨rfl, rfl⟩ := hnone rfl
    obtain rfl : news = [] := List.eq_nil_of_length_eq_zero (by simpa using hl)
    have hrun := run_append_owned_none (P := P) w base t o.type e i size ht hi v n xs hown
    unfold Oper.wp
    simp [execOp, ho, resolve, invoke, builtin, hs, hx, hrun, Result.andThen]
    exact h v w (by simpa using hown) (World.grownBy.refl _ _)

theorem two_boxesN (w : World) (c1 c2 : Array Value) (t1 t2 : TypeId) : Below w.heap.size w ((w.alloc (.cells c1 t1)).alloc (.cells c2 t2)) ∧
    ((w.alloc (.cells c1 t1)).alloc (.cells c2 t2)).heap[w.heap.size]? = some (.cells c1 t1 (0, 0)) ∧ ((w.alloc (.cells c1 t1)).alloc (.cells c2 t2)).heap[w.heap.size + 1]? = some (.cells c2 t2 (0, 0)) := by
  refine ⟨gr_al (gr_al (gr_refl w) _) _, blk_below (heap_alloc_new w _) (gr_al (gr_refl _) _), ?_⟩
  have := heap_alloc_new (w.alloc (.cells c1 t1)) (.cells c2 t2)
  rwa [show (w.alloc (.cells c1 t1)).heap.size = w.heap.size + 1 by simp] at this
theorem nodeB {W : World} {g : Nat} {x0 x1 x2 x3 : Value} {t : TypeId} (h : W.heap[g]? = some (.cells #[x0, x1, x2, x3] t (0, 0))) :
    ∀ w', Below W.heap.size W w' → w'.cell? ⟨g, 0, none⟩ = some x0 ∧ w'.cell? ⟨g, 1, none⟩ = some x1 ∧ w'.cell? ⟨g, 2, none⟩ = some x2 ∧ w'.cell? ⟨g, 3, none⟩ = some x3 := fun _ hb => (four_facts (blk_below h hb)).1

/-- At each round's head of the copying of the children: the copies so far. -/
def RInv (w : World) (B g : Nat) (l : Bool) (ps : List (ByteArray × ByteArray)) (xs : List Int) (ks : List Tree) (pv tv : Value) (k : Nat) (wr : World) : Prop :=
  ∃ (kv : Value) (es : List (List Value)) (Fi : Nat → Nat → Prop), wr.heap[g]? = some (.cells #[.bool l, pv, tv, kv] 27 (0, 0)) ∧ wr.heap[w.heap.size + 1]? = some (.cells #[.bool false, .slice none 0 0, .slice none 0 0, .slice none 0 0] 27 (0, 0)) ∧
    OwnSl wr (w.heap.size + 2) 90 2 32 pv (ps.map propCells) ∧ OwnSl wr (w.heap.size + 2) 21 1 4 tv (xs.map runeCells) ∧ OwnSl wr B 27 4 80 kv es ∧ es.length = k ∧
    (∀ i, i < k → Tr wr (Fi i) (es.getD i []) (ks.getD i default)) ∧ (∀ i b, i < k → Fi i b → B ≤ b ∧ b < wr.heap.size) ∧ (∀ i j b, i < k → j < k → i ≠ j → Fi i b → ¬ Fi j b) ∧
    (∀ b, kv.ownBlock = some b → ∀ i, i < k → ¬ Fi i b) ∧ B ≤ wr.heap.size ∧ Below w.heap.size w wr

theorem rcopy_end {w wr w' : World} {B : Nat} {l : Bool} {ps : List (ByteArray × ByteArray)} {xs : List Int} {ks : List Tree} {pv tv kv : Value} {es : List (List Value)} {Fi : Nat → Nat → Prop}
    (ho1 : OwnSl wr (w.heap.size + 2) 90 2 32 pv (ps.map propCells)) (ho2 : OwnSl wr (w.heap.size + 2) 21 1 4 tv (xs.map runeCells)) (ho3 : OwnSl wr B 27 4 80 kv es) (hle : es.length = ks.length)
    (h1 : ∀ i, i < ks.length → Tr wr (Fi i) (es.getD i []) (ks.getD i default)) (h2 : ∀ i b, i < ks.length → Fi i b → B ≤ b ∧ b < wr.heap.size) (h3 : ∀ i j b, i < ks.length → j < ks.length → i ≠ j → Fi i b → ¬ Fi j b)
    (h4 : ∀ b, kv.ownBlock = some b → ∀ i, i < ks.length → ¬ Fi i b)
    (hP : ∀ g, pv.ownBlock = some g → g < B) (hT : ∀ g, tv.ownBlock = some g → g < B) (hB : w.heap.size + 2 ≤ B) (hw : ∀ b, b ≠ w.heap.size + 1 → w'.heap[b]? = wr.heap[b]?) :
    Tr w' (fun b => w.heap.size ≤ b) [.bool l, pv, tv, kv] (.mk l ps xs ks) := by
  have lt1 := ho1.lt
  have lt2 := ho2.lt
  have lt3 := ho3.lt
  have k1 : OwnSl w' (w.heap.size + 2) 90 2 32 pv (ps.map propCells) := ho1.keep fun g hg => hw g (by have := (lt1 g hg).1; omega)
  have k2 : OwnSl w' (w.heap.size + 2) 21 1 4 tv (xs.map runeCells) := ho2.keep fun g hg => hw g (by have := (lt2 g hg).1; omega)
  have k3 : OwnSl w' B 27 4 80 kv es := ho3.keep fun g hg => hw g (by have := (lt3 g hg).1; omega)
  have a1 := apart_of ho1 ho3 (by decide)
  have a2 := apart_of ho2 ho3 (by decide)
  refine .mk (Fp := fun b => pv.ownBlock = some b ∨ tv.ownBlock = some b) (Fi := Fi) ((k1.sl (by decide)).block _ fun b hb => .inl hb) ((k2.sl (by decide)).block _ fun b hb => .inr hb) (k3.mono (Nat.zero_le _)) hle ?_ ?_ ?_ h3 ?_
  · intro g hg
    refine ⟨by have := (lt3 g hg).1; omega, ?_, fun i hi hF => h4 g hg i hi hF⟩
    rintro (h | h)
    · exact a1 g h hg
    · exact a2 g h hg
  · rintro b (h | h)
    · have := (lt1 b h).1; omega
    · have := (lt2 b h).1; omega
  · intro i b hi hF
    have := h2 i b hi hF
    refine ⟨by omega, ?_⟩
    rintro (h | h)
    · have := hP b h; omega
    · have := hT b h; omega
  · intro i hi
    refine (h1 i hi).keep fun b hF => hw b ?_
    have := h2 i b hi hF
    omega

theorem own_other {w : World} {B g o : Nat} {e : TypeId} {size bytes : Nat} {v : Value} {es : List (List Value)} {cs : Array Value} {ty : TypeId} {u0 u1 u2 u3 : Value} (h : OwnSl w B e size bytes v es) (hg : w.heap[g]? = some (.cells cs ty (0, 0))) (hne : e ≠ ty) :
    OwnSl (set4 w g o u0 u1 u2 u3) B e size bytes v es := h.keep fun b hb => set4_heap b (by rintro rfl; exact row_not h.1 hg hne hb)

/-- Behind the first statement: the copy's own box, at g. -/
def RCut (w : World) (nb : Array Value) (l : Bool) (ps : List (ByteArray × ByteArray)) (xs : List Int) (s3 : Value) (wx : World) : Prop :=
  ∃ (g : Nat) (a1 : Option Addr) (n1 c1 : Nat) (a2 : Option Addr) (n2 c2 : Nat), s3 = .pointer (some ⟨g, 0, none⟩) ∧ wx.heap[g]? = some (.cells #[.bool l, .slice a1 n1 c1, .slice a2 n2 c2, .slice none 0 0] 27 (0, 0)) ∧ wx.heap[w.heap.size + 1]? = some (.cells #[.bool false, .slice none 0 0, .slice none 0 0, .slice none 0 0] 27 (0, 0)) ∧
    OwnSl wx (w.heap.size + 2) 90 2 32 (.slice a1 n1 c1) (ps.map propCells) ∧ OwnSl wx (w.heap.size + 2) 21 1 4 (.slice a2 n2 c2) (xs.map runeCells) ∧ w.heap.size + 2 ≤ g ∧ Below w.heap.size w wx ∧ wx.heap[w.heap.size]? = some (.cells nb 27 (0, 0))
theorem rcut_of {w W wx : World} {g : Nat} {l : Bool} {ps : List (ByteArray × ByteArray)} {xs : List Int} {a1 : Option Addr} {n1 c1 : Nat} {a2 : Option Addr} {n2 c2 : Nat} (hWB : Below w.heap.size w W) {nb : Array Value} (hX1 : W.heap[w.heap.size]? = some (.cells nb 27 (0, 0)))
    (hX2 : W.heap[w.heap.size + 1]? = some (.cells #[.bool false, .slice none 0 0, .slice none 0 0, .slice none 0 0] 27 (0, 0))) (lx : Below W.heap.size W wx) (hg : wx.heap[g]? = some (.cells #[.bool l, .slice a1 n1 c1, .slice a2 n2 c2, .slice none 0 0] 27 (0, 0)))
    (hgW : W.heap.size ≤ g) (o1 : OwnSl wx W.heap.size 90 2 32 (.slice a1 n1 c1) (ps.map propCells)) (o2 : OwnSl wx W.heap.size 21 1 4 (.slice a2 n2 c2) (xs.map runeCells)) : RCut w nb l ps xs (.pointer (some ⟨g, 0, none⟩)) wx := by
  have := lt_of_block hX2
  exact ⟨g, a1, n1, c1, a2, n2, c2, rfl, hg, blk_below hX2 lx, o1.mono (by omega), o2.mono (by omega), by omega, gr_tr hWB lx, blk_below hX1 lx⟩
/-- The store into a box that was there. -/
theorem rcut_set {w W w2 : World} {g : Nat} {l : Bool} {ps : List (ByteArray × ByteArray)} {xs : List Int} {a1 : Option Addr} {n1 c1 : Nat} {a2 : Option Addr} {n2 c2 : Nat} {x0 x1 x2 x3 : Value} (hWB : Below w.heap.size w W) {nb : Array Value} (hX1 : W.heap[w.heap.size]? = some (.cells nb 27 (0, 0)))
    (hX2 : W.heap[w.heap.size + 1]? = some (.cells #[.bool false, .slice none 0 0, .slice none 0 0, .slice none 0 0] 27 (0, 0))) (lx : Below W.heap.size W w2) (hg : w2.heap[g]? = some (.cells #[x0, x1, x2, x3] 27 (0, 0)))
    (hgW : W.heap.size ≤ g) (o1 : OwnSl w2 W.heap.size 90 2 32 (.slice a1 n1 c1) (ps.map propCells)) (o2 : OwnSl w2 W.heap.size 21 1 4 (.slice a2 n2 c2) (xs.map runeCells)) :
    RCut w nb l ps xs (.pointer (some ⟨g, 0, none⟩)) ((((w2.setCell ⟨g, 0, none⟩ (.bool l)).setCell ⟨g, 1, none⟩ (.slice a1 n1 c1)).setCell ⟨g, 2, none⟩ (.slice a2 n2 c2)).setCell ⟨g, 3, none⟩ (.slice none 0 0)) := by
  have h := rcut_of (w := w) (W := W) (wx := set4 w2 g 0 (.bool l) (.slice a1 n1 c1) (.slice a2 n2 c2) (.slice none 0 0)) (g := g) hWB hX1 hX2 (set4_below lx hgW) (four_block hg) hgW (own_other o1 hg (by decide)) (own_other o2 hg (by decide))
  simpa only [set4, Nat.zero_add] using h

theorem set4z {B : Nat} {w w' : World} {g : Nat} {u0 u1 u2 u3 : Value} (h : Below B w w') (hg : B ≤ g) : Below B w ((((w'.setCell ⟨g, 0, none⟩ u0).setCell ⟨g, 1, none⟩ u1).setCell ⟨g, 2, none⟩ u2).setCell ⟨g, 3, none⟩ u3) :=
  (((h.setCell (p := ⟨g, 0, none⟩) hg _).setCell (p := ⟨g, 1, none⟩) hg _).setCell (p := ⟨g, 2, none⟩) hg _).setCell (p := ⟨g, 3, none⟩) hg _
/-- What the append of the properties leaves. -/
theorem props_own {W w0 w1 : World} {v1 : Value} {n : Nat} {ps : List (ByteArray × ByteArray)} (hown : w1.ownsRow W.heap.size 90 2 v1 n ([] ++ (ps.map propCells).flatten)) (hn : n = 0 + ps.length) (hb : ps.length * 32 ≤ 140737488351232) (hg : w0.grownBy w1 none) (l : Below W.heap.size W w0) :
    (∃ a m c, v1 = .slice a m c) ∧ OwnSl w1 W.heap.size 90 2 32 v1 (ps.map propCells) ∧ Below W.heap.size W w1 ∧ Below w0.heap.size w0 w1 := by
  subst hn
  have ho : OwnSl w1 W.heap.size 90 2 32 v1 (ps.map propCells) := ⟨by simpa using hown, by simpa using hb, fun e he => by obtain ⟨x, _, rfl⟩ := List.mem_map.1 he; rfl⟩
  obtain ⟨a, c, h⟩ := (ho.sl (by decide)).slice
  have hb0 : Below w0.heap.size w0 w1 := (gr_refl w0).grown hg (Nat.le_refl _) (fun _ h => by cases h)
  exact ⟨⟨a, _, c, h⟩, ho, gr_tr l hb0, hb0⟩
/-- One more child. -/
theorem rc_next {w wr V w2 w3 : World} {B g k n : Nat} {l : Bool} {ps : List (ByteArray × ByteArray)} {xs : List Int} {ks : List Tree} {pv tv kv v' : Value} {es : List (List Value)} {Fi : Nat → Nat → Prop} {cs : List Value} {o : Obj}
    (hb0 : wr.heap[g]? = some (.cells #[.bool l, pv, tv, kv] 27 (0, 0))) (hb1 : wr.heap[w.heap.size + 1]? = some (.cells #[.bool false, .slice none 0 0, .slice none 0 0, .slice none 0 0] 27 (0, 0)))
    (ho1 : OwnSl wr (w.heap.size + 2) 90 2 32 pv (ps.map propCells)) (ho2 : OwnSl wr (w.heap.size + 2) 21 1 4 tv (xs.map runeCells)) (ho3 : OwnSl wr B 27 4 80 kv es) (hle : es.length = k)
    (h1 : ∀ i, i < k → Tr wr (Fi i) (es.getD i []) (ks.getD i default)) (h2 : ∀ i b, i < k → Fi i b → B ≤ b ∧ b < wr.heap.size) (h3 : ∀ i j b, i < k → j < k → i ≠ j → Fi i b → ¬ Fi j b)
    (h4 : ∀ b, kv.ownBlock = some b → ∀ i, i < k → ¬ Fi i b) (hBw : B ≤ wr.heap.size) (hbw : Below w.heap.size w wr) (hgB : g < B) (hgH : w.heap.size + 2 ≤ g)
    (hV : Below wr.heap.size wr V) (hb : Below V.heap.size V w2) (ht : Tr w2 (fun b => V.heap.size ≤ b) cs (ks.getD k default)) (hn : n = k + 1) (hs : (k + 1) * 80 ≤ 140737488351232)
    (hown : w3.ownsRow B 27 4 v' n (es.flatten ++ cs)) (hgr : (w2.alloc o).grownBy w3 kv.ownBlock) (hat : ∀ b, v'.ownBlock = some b → kv.ownBlock = some b ∨ b = (w2.alloc o).heap.size) :
    RInv w B g l ps xs ks pv tv (k + 1) (w3.setCell ⟨g, 3, none⟩ v') := by
  subst hn
  have lt0 := lt_of_block hb0
  have lt1 := lt_of_block hb1
  have ltk := ho3.lt
  have h12 : Below wr.heap.size wr w2 := gr_tr hV hb
  have hal : Below wr.heap.size wr (w2.alloc o) := gr_al h12 o
  have s1 := hV.size
  have s2 := hb.size
  have s3 : (w2.alloc o).heap.size = w2.heap.size + 1 := by simp
  have s4 := hgr.size
  have a1 := apart_of ho1 ho3 (by decide)
  have a2 := apart_of ho2 ho3 (by decide)
  have set : ∀ b, b ≠ g → (w3.setCell ⟨g, 3, none⟩ v').heap[b]? = w3.heap[b]? := fun b hb => by simp [World.setCell, Array.getElem?_modify, Ne.symm hb]
  have ssz : (w3.setCell ⟨g, 3, none⟩ v').heap.size = w3.heap.size := by simp [World.setCell]
  have key2 : ∀ b, b < w2.heap.size → kv.ownBlock ≠ some b → w3.heap[b]? = w2.heap[b]? := fun b hb' hne => by
    rw [hgr.block b (by omega) (fun h => hne h.symm), (gr_al (gr_refl w2) o).block b hb']
  have key : ∀ b, b < wr.heap.size → kv.ownBlock ≠ some b → w3.heap[b]? = wr.heap[b]? := fun b hb' hne => by
    rw [key2 b (by omega) hne, h12.block b hb']
  have ng : kv.ownBlock ≠ some g := fun h => by have := (ltk g h).1; omega
  have n1 : kv.ownBlock ≠ some (w.heap.size + 1) := fun h => by have := (ltk _ h).1; omega
  have ltp := ho1.lt
  have ltt := ho2.lt
  have np : ∀ b, pv.ownBlock = some b → b ≠ g := fun b hb' h => row_not ho1.1 hb0 (by decide) (h ▸ hb')
  have nt : ∀ b, tv.ownBlock = some b → b ≠ g := fun b hb' h => row_not ho2.1 hb0 (by decide) (h ▸ hb')
  have hB3 : Below w.heap.size w w3 := (gr_tr hbw hal).grown hgr (by have := hbw.size; omega) (fun b hb' => by have := (ltk b hb').1; omega)
  refine ⟨v', es ++ [cs], fun i b => if i = k then V.heap.size ≤ b ∧ b < w2.heap.size else Fi i b, ?_, ?_, ?_, ?_, ?_, by simp [hle], fun i hi => ?_, fun i b hi hF => ?_, fun i j b hi hj hij hF hF2 => ?_, fun b hb' i hi hF => ?_, by omega, hB3.setCell (p := ⟨g, 3, none⟩) (by show w.heap.size ≤ g; omega) _⟩
  · have : w3.heap[g]? = some (.cells #[.bool l, pv, tv, kv] 27 (0, 0)) := by rw [key g lt0 ng, hb0]
    simp [World.setCell, Array.getElem?_modify, this]
  · rw [set _ (by omega), key _ lt1 n1, hb1]
  · exact ho1.keep fun b hb' => by rw [set b (np b hb'), key b (ltp b hb').2 (a1 b hb')]
  · exact ho2.keep fun b hb' => by rw [set b (nt b hb'), key b (ltt b hb').2 (a2 b hb')]
  · refine ⟨?_, by simpa [hle] using hs, fun e he => ?_⟩
    · have := row_keep (w' := w3.setCell ⟨g, 3, none⟩ v') hown fun b hb' => set b (by have := (hown.lt b hb').1; omega)
      simpa [hle] using this
    · rcases List.mem_append.1 he with h | h
      · exact ho3.2.2 e h
      · simp only [List.mem_singleton] at h
        subst h
        exact ht.cells
  · by_cases hik : i = k
    · subst hik
      simp only [if_true]
      have : (es ++ [cs]).getD i [] = cs := by rw [← hle]; simp
      rw [this]
      exact ht.there.keep fun b hb' => by rw [set b (by omega), key2 b hb'.2 (fun h => by have := (ltk b h).2; omega)]
    · simp only [hik, if_false]
      have hik2 : i < k := by omega
      have : (es ++ [cs]).getD i [] = es.getD i [] := by simp [List.getElem?_append_left (show i < es.length by omega)]
      rw [this]
      refine (h1 i hik2).keep fun b hF => ?_
      have := h2 i b hik2 hF
      rw [set b (by omega), key b this.2 (fun h => h4 b h i hik2 hF)]
  · by_cases hik : i = k
    · simp only [hik, if_true] at hF
      omega
    · simp only [hik, if_false] at hF
      have := h2 i b (by omega) hF
      omega
  · by_cases hik : i = k
    · have hjk : j ≠ k := by omega
      simp only [hik, if_true] at hF
      simp only [hjk, if_false] at hF2
      have := h2 j b (by omega) hF2
      omega
    · simp only [hik, if_false] at hF
      by_cases hjk : j = k
      · simp only [hjk, if_true] at hF2
        have := h2 i b (by omega) hF
        omega
      · simp only [hjk, if_false] at hF2
        exact h3 i j b (by omega) (by omega) hij hF hF2
  · by_cases hik : i = k
    · simp only [hik, if_true] at hF
      rcases hat b hb' with h | h
      · have := (ltk b h).2
        omega
      · omega
    · simp only [hik, if_false] at hF
      rcases hat b hb' with h | h
      · exact h4 b h i (by omega) hF
      · have := h2 i b (by omega) hF
        omega

/-- A child's copy, and what the walk reads beside it. -/
def RCopied (kid : Tree) (g : Nat) (kv : Value) (V : World) (e : Ending) (w2 : World) : Prop :=
  ∃ (lk : Bool) (a1 : Option Addr) (n1 c1 : Nat) (a2 : Option Addr) (n2 c2 : Nat) (a3 : Option Addr) (n3 c3 : Nat), e = .returned (.agg #[.bool lk, .slice a1 n1 c1, .slice a2 n2 c2, .slice a3 n3 c3]) ∧
    Tr w2 (fun b => V.heap.size ≤ b) [.bool lk, .slice a1 n1 c1, .slice a2 n2 c2, .slice a3 n3 c3] kid ∧ Below V.heap.size V w2 ∧ w2.cell? ⟨g, 3, none⟩ = some kv ∧
      (w2.alloc (.cells #[.bool lk, .slice a1 n1 c1, .slice a2 n2 c2, .slice a3 n3 c3] 27)).cell? ⟨g, 3, none⟩ = some kv
theorem rcopied_of {kid : Tree} {g : Nat} {kv : Value} {V : World} (hg : V.cell? ⟨g, 3, none⟩ = some kv) {f : FuncId} {args : Array Value} (h : Calls Try.prog f args V (Copied kid V)) : Calls Try.prog f args V (RCopied kid g kv V) := h.mono fun e w2 ⟨cs, he, ht, hb⟩ => by
  obtain ⟨a1, n1, c1, a2, n2, c2, a3, n3, c3, hc⟩ := ht.nodeAt.form
  subst hc
  have hlt := World.block_lt_of_cell? V _ hg
  have h1 : w2.cell? ⟨g, 3, none⟩ = some kv := by rw [hb.cell (p := ⟨g, 3, none⟩) hlt, hg]
  exact ⟨_, _, _, _, _, _, _, _, _, _, he, ht, hb, h1, Lib.cell?_alloc_some _ h1⟩
theorem g_after {B g : Nat} {w w2 w3 : World} {kv x0 x1 x2 : Value} {es : List (List Value)} {o : Obj} (hg : w.heap[g]? = some (.cells #[x0, x1, x2, kv] 27 (0, 0))) (ho : OwnSl w B 27 4 80 kv es) (hgB : g < B) (hb : Below w.heap.size w w2) (hgr : (w2.alloc o).grownBy w3 kv.ownBlock) :
    w3.cell? ⟨g, 3, none⟩ = some kv ∧ w3.frozen? ⟨g, 3, none⟩ = false := by
  have hlt := lt_of_block hg
  have hal := gr_al hb o
  have h3 : w3.heap[g]? = some (.cells #[x0, x1, x2, kv] 27 (0, 0)) := by
    rw [hgr.block g (Nat.lt_of_lt_of_le hlt hal.size) (fun h => by have := (ho.lt g h.symm).1; omega), hal.block g hlt, hg]
  exact ⟨(four_facts h3).1.2.2.2, (four_facts h3).2.2.2.2⟩
theorem four_one (l : Bool) (a1 : Option Addr) (n1 c1 : Nat) (a2 : Option Addr) (n2 c2 : Nat) (a3 : Option Addr) (n3 c3 : Nat) : ∀ u ∈ [Value.bool l, .slice a1 n1 c1, .slice a2 n2 c2, .slice a3 n3 c3], u.oneCell' = true := by
  intro u hu
  simp at hu
  rcases hu with rfl | rfl | rfl | rfl <;> rfl
theorem four_news (w : World) (l : Bool) (a1 : Option Addr) (n1 c1 : Nat) (a2 : Option Addr) (n2 c2 : Nat) (a3 : Option Addr) (n3 c3 : Nat) (t : TypeId) : ∀ j u, [Value.bool l, .slice a1 n1 c1, .slice a2 n2 c2, .slice a3 n3 c3][j]? = some u → (w.alloc (.cells #[.bool l, .slice a1 n1 c1, .slice a2 n2 c2, .slice a3 n3 c3] t)).cell? ((⟨w.heap.size, 0, none⟩ : Addr).add j) = some u :=
  World.news_of_block (heap_alloc_new w (.cells #[.bool l, .slice a1 n1 c1, .slice a2 n2 c2, .slice a3 n3 c3] t))

end Go.Proofs.Ytcbljiiomnhbjaa
