/- Walk of redlineref04.Copy: a copy in blocks of its own. -/
import Derived.Test.YtdcpoeaddhbjbaaPathsM
import Derived.Deep.AppendLies
import Derived.Deep.RegionLaw
import Derived.Deep.RegionHeld3
namespace Go.Proofs.Ytdcpoeaddhbjbaa
set_option maxRecDepth 100000
open Go.RowKit

/-- 'append' onto a slice of the call's own, whatever is appended, as one step of a region that draws. -/
theorem step_append_any {P : Program} {ops : Array Oper} {o : Oper} {a : Act} {w : World} {K : Act → World → Prop} {Q : Exit → Act → World → Prop} {E : Prop} (hgd : o.guard = none) (s x : Operand) (t : TypeId)
    (ho : o.op = .call { callee := .builtin .append, args := #[s, x], argTypes := #[t, t] })
    (base : Nat) (e : TypeId) (i : TypeInfo) (z : Value) (size bytes : Nat) (ht : P.underlying t = some (.slice e)) (hi : P.info? e = some i) (hz : i.zero = some z)
    (hsize : i.size = size) (hby : i.bytes = bytes) (hzs : z.cells.size = size) (hsz : 0 < size)
    (v : Value) (n : Nat) (xs : List Value) (hs : a.eval s = v) (hown : w.ownsRow base e size v n xs)
    (ao : Option Addr) (m c : Nat) (news : List Value) (hx : a.eval x = .slice ao m c) (hl : news.length = m * size) (hnone : ao = none → m = 0 ∧ c = 0)
    (hnews : ∀ ad, ao = some ad → ∀ j u, news[j]? = some u → w.cell? (ad.add j) = some u) (h1 : ∀ u ∈ news, u.oneCell' = true)
    (h63 : n + m ≤ maxLen) (hbytes : (n + m) * bytes ≤ 140737488355328) (hbase : base ≤ w.heap.size)
    (h : ∀ v' w', w'.ownsRow base e size v' (n + m) (xs ++ news) → w.grownBy w' v.ownBlock → K (a.put o.dst v') w') :
    if Region.wanted o (yielded ops a.tmps) = true then Oper.wp P o a w K Q else E := by
  have hw : Region.wanted o (yielded ops a.tmps) = true := by simp [Region.wanted, hgd]
  rw [if_pos hw]
  cases ao with
  | some ad =>
    obtain ⟨v', w', hrun, r1, r2, _⟩ := run_append_own (P := P) w base t o.type e i z size bytes ht hi hz hsize hby hzs hsz v n xs hown ad m c news hl (hnews ad rfl) h1 h63 hbytes hbase
    unfold Oper.wp
    simp [execOp, ho, resolve, invoke, builtin, hs, hx, hrun, Result.andThen]
    exact h v' w' r1 r2
  | none =>
    obtain ⟨rfl, rfl⟩ := hnone rfl
    obtain rfl : news = [] := List.eq_nil_of_length_eq_zero (by simpa using hl)
    have hrun := run_append_owned_none (P := P) w base t o.type e i size ht hi v n xs hown
    unfold Oper.wp
    simp [execOp, ho, resolve, invoke, builtin, hs, hx, hrun, Result.andThen]
    exact h v w (by simpa using hown) (World.grownBy.refl _ _)

set_option maxHeartbeats 1000000 in
theorem r03copy_any (es : List (List Value)) (S : Nat → Prop) (v : Value) (w : World) (h : Sl S w 1 4 v es) (hone : ∀ u ∈ es.flatten, u.oneCell' = true) :
    Calls Try.prog 94 #[v] w fun e w' => ∃ v', e = .returned v' ∧ OwnSl w' w.heap.size 21 1 4 v' es ∧ Below w.heap.size w w' := by
  have hsz : ∀ e ∈ es, e.length = 1 := by obtain ⟨_, _, _, _, _, _, h5, _⟩ := h; exact h5
  have hb := h.len
  obtain ⟨a, cap, rfl⟩ := h.slice
  obtain ⟨_, s1, s2, s3⟩ := h.src (by decide)
  have H1 := Lib.hid s1; have H2 := Lib.hid s2; have H3 := Lib.hid s3; have HO := Lib.hid hone; have HB := Lib.hid hb; have HS := Lib.hid hsz
  have H5 := Lib.hid (show 0 + es.length ≤ maxLen by unfold maxLen; omega)
  have H6 := Lib.hid (show (0 + es.length) * 4 ≤ 140737488355328 by omega)
  obtain ⟨i0, hi, hz0, hz1, hz2⟩ := info_parts info_runes
  have HI := Lib.hid hi; have HZ0 := Lib.hid hz0; have HZ1 := Lib.hid hz1; have HZ2 := Lib.hid hz2
  clear h s1 s2 s3 hone hb hsz hi hz0 hz1 hz2
  go_enter Try.func94, Try.ntmps94
  go_wp2_with (at_builtin; refine wpList_append_any _ rfl _ _ 23 rfl w.heap.size 21 i0 (.int .i32 0) 1 4 Try.underlying23 HI.out HZ0.out HZ1.out HZ2.out rfl (by decide) _ 0 [] rfl (World.ownsRow_nil _ _ _ _) a es.length cap es.flatten rfl H1.out H2.out H3.out HO.out H5.out H6.out (Nat.le_refl _) ?_)
  intro v' w1 hown hgrow
  go_wp2
  go_ret
  exact ⟨v', rfl, ⟨by simpa using hown, HB.out, HS.out⟩, (Below.refl _ w).grown hgrow (Nat.le_refl _) (by intro k hk; cases hk)⟩

theorem two_boxesN (w : World) (c1 c2 : Array Value) (t1 t2 : TypeId) : Below w.heap.size w ((w.alloc (.cells c1 t1)).alloc (.cells c2 t2)) ∧
    ((w.alloc (.cells c1 t1)).alloc (.cells c2 t2)).heap[w.heap.size]? = some (.cells c1 t1 (0, 0)) ∧ ((w.alloc (.cells c1 t1)).alloc (.cells c2 t2)).heap[w.heap.size + 1]? = some (.cells c2 t2 (0, 0)) := by
  refine ⟨gr_al (gr_al (gr_refl w) _) _, blk_below (heap_alloc_new w _) (gr_al (gr_refl _) _), ?_⟩
  have := heap_alloc_new (w.alloc (.cells c1 t1)) (.cells c2 t2)
  rwa [show (w.alloc (.cells c1 t1)).heap.size = w.heap.size + 1 by simp] at this
theorem nodeB {W : World} {g : Nat} {x0 x1 x2 x3 : Value} {t : TypeId} (h : W.heap[g]? = some (.cells #[x0, x1, x2, x3] t (0, 0))) :
    ∀ w', Below W.heap.size W w' → w'.cell? ⟨g, 0, none⟩ = some x0 ∧ w'.cell? ⟨g, 1, none⟩ = some x1 ∧ w'.cell? ⟨g, 2, none⟩ = some x2 ∧ w'.cell? ⟨g, 3, none⟩ = some x3 := fun _ hb => (four_facts (blk_below h hb)).1

/-- At each round's head of the copying of the children: the copies so far. -/
def RInv (w : World) (B g : Nat) (l : Bool) (ps : List (ByteArray × ByteArray)) (xs : List Int) (ks : List Tree) (pv tv : Value) (k : Nat) (wr : World) : Prop :=
  ∃ (kv : Value) (es : List (List Value)) (Fi : Nat → Nat → Prop), wr.heap[g]? = some (.cells #[.bool l, pv, tv, kv] 26 (0, 0)) ∧ wr.heap[w.heap.size + 1]? = some (.cells #[.bool false, .slice none 0 0, .slice none 0 0, .slice none 0 0] 26 (0, 0)) ∧
    OwnSl wr (w.heap.size + 2) 101 2 32 pv (ps.map propCells) ∧ OwnSl wr (w.heap.size + 2) 21 1 4 tv (xs.map runeCells) ∧ OwnSl wr B 26 4 80 kv es ∧ es.length = k ∧
    (∀ i, i < k → Tr wr (Fi i) (es.getD i []) (ks.getD i default)) ∧ (∀ i b, i < k → Fi i b → B ≤ b ∧ b < wr.heap.size) ∧ (∀ i j b, i < k → j < k → i ≠ j → Fi i b → ¬ Fi j b) ∧
    (∀ b, kv.ownBlock = some b → ∀ i, i < k → ¬ Fi i b) ∧ B ≤ wr.heap.size ∧ Below w.heap.size w wr

theorem rcopy_end {w wr w' : World} {B : Nat} {l : Bool} {ps : List (ByteArray × ByteArray)} {xs : List Int} {ks : List Tree} {pv tv kv : Value} {es : List (List Value)} {Fi : Nat → Nat → Prop}
    (ho1 : OwnSl wr (w.heap.size + 2) 101 2 32 pv (ps.map propCells)) (ho2 : OwnSl wr (w.heap.size + 2) 21 1 4 tv (xs.map runeCells)) (ho3 : OwnSl wr B 26 4 80 kv es) (hle : es.length = ks.length)
    (h1 : ∀ i, i < ks.length → Tr wr (Fi i) (es.getD i []) (ks.getD i default)) (h2 : ∀ i b, i < ks.length → Fi i b → B ≤ b ∧ b < wr.heap.size) (h3 : ∀ i j b, i < ks.length → j < ks.length → i ≠ j → Fi i b → ¬ Fi j b)
    (h4 : ∀ b, kv.ownBlock = some b → ∀ i, i < ks.length → ¬ Fi i b)
    (hP : ∀ g, pv.ownBlock = some g → g < B) (hT : ∀ g, tv.ownBlock = some g → g < B) (hB : w.heap.size + 2 ≤ B) (hw : ∀ b, b ≠ w.heap.size + 1 → w'.heap[b]? = wr.heap[b]?) :
    Tr w' (fun b => w.heap.size ≤ b) [.bool l, pv, tv, kv] (.mk l ps xs ks) := by
  have lt1 := ho1.lt
  have lt2 := ho2.lt
  have lt3 := ho3.lt
  have k1 : OwnSl w' (w.heap.size + 2) 101 2 32 pv (ps.map propCells) := ho1.keep fun g hg => hw g (by have := (lt1 g hg).1; omega)
  have k2 : OwnSl w' (w.heap.size + 2) 21 1 4 tv (xs.map runeCells) := ho2.keep fun g hg => hw g (by have := (lt2 g hg).1; omega)
  have k3 : OwnSl w' B 26 4 80 kv es := ho3.keep fun g hg => hw g (by have := (lt3 g hg).1; omega)
  have a1 := apart_of ho1 ho3 (by decide)
  have a2 := apart_of ho2 ho3 (by decide)
  refine .mk (Fp := fun b => pv.ownBlock = some b ∨ tv.ownBlock = some b) (Fi := Fi) ((k1.sl (by decide)).block _ fun b hb => .inl hb) ((k2.sl (by decide)).block _ fun b hb => .inr hb) (k3.mono (Nat.zero_le _)) hle ?_ ?_ ?_ h3 ?_
  · intro g hg
    refine ⟨by have := (lt3 g hg).1; omega, ?_, fun i hi hF => h4 g hg i hi hF⟩
    rintro (h | h)
    · exact a1 g h hg
    · exact a2 g h hg
  · rintro b (h | h)
    · have := (lt1 b h).1; omega
    · have := (lt2 b h).1; omega
  · intro i b hi hF
    have := h2 i b hi hF
    refine ⟨by omega, ?_⟩
    rintro (h | h)
    · have := hP b h; omega
    · have := hT b h; omega
  · intro i hi
    refine (h1 i hi).keep fun b hF => hw b ?_
    have := h2 i b hi hF
    omega

theorem own_other {w : World} {B g o : Nat} {e : TypeId} {size bytes : Nat} {v : Value} {es : List (List Value)} {cs : Array Value} {ty : TypeId} {u0 u1 u2 u3 : Value} (h : OwnSl w B e size bytes v es) (hg : w.heap[g]? = some (.cells cs ty (0, 0))) (hne : e ≠ ty) :
    OwnSl (set4 w g o u0 u1 u2 u3) B e size bytes v es := h.keep fun b hb => set4_heap b (by rintro rfl; exact row_not h.1 hg hne hb)

/-- Behind the first statement: the copy's own box, at g. -/
def RCut (w : World) (nb : Array Value) (l : Bool) (ps : List (ByteArray × ByteArray)) (xs : List Int) (s3 : Value) (wx : World) : Prop :=
  ∃ (g : Nat) (a1 : Option Addr) (n1 c1 : Nat) (a2 : Option Addr) (n2 c2 : Nat), s3 = .pointer (some ⟨g, 0, none⟩) ∧ wx.heap[g]? = some (.cells #[.bool l, .slice a1 n1 c1, .slice a2 n2 c2, .slice none 0 0] 26 (0, 0)) ∧ wx.heap[w.heap.size + 1]? = some (.cells #[.bool false, .slice none 0 0, .slice none 0 0, .slice none 0 0] 26 (0, 0)) ∧
    OwnSl wx (w.heap.size + 2) 101 2 32 (.slice a1 n1 c1) (ps.map propCells) ∧ OwnSl wx (w.heap.size + 2) 21 1 4 (.slice a2 n2 c2) (xs.map runeCells) ∧ w.heap.size + 2 ≤ g ∧ Below w.heap.size w wx ∧ wx.heap[w.heap.size]? = some (.cells nb 26 (0, 0))
theorem rcut_of {w W wx : World} {g : Nat} {l : Bool} {ps : List (ByteArray × ByteArray)} {xs : List Int} {a1 : Option Addr} {n1 c1 : Nat} {a2 : Option Addr} {n2 c2 : Nat} (hWB : Below w.heap.size w W) {nb : Array Value} (hX1 : W.heap[w.heap.size]? = some (.cells nb 26 (0, 0)))
    (hX2 : W.heap[w.heap.size + 1]? = some (.cells #[.bool false, .slice none 0 0, .slice none 0 0, .slice none 0 0] 26 (0, 0))) (lx : Below W.heap.size W wx) (hg : wx.heap[g]? = some (.cells #[.bool l, .slice a1 n1 c1, .slice a2 n2 c2, .slice none 0 0] 26 (0, 0)))
    (hgW : W.heap.size ≤ g) (o1 : OwnSl wx W.heap.size 101 2 32 (.slice a1 n1 c1) (ps.map propCells)) (o2 : OwnSl wx W.heap.size 21 1 4 (.slice a2 n2 c2) (xs.map runeCells)) : RCut w nb l ps xs (.pointer (some ⟨g, 0, none⟩)) wx := by
  have := lt_of_block hX2
  exact ⟨g, a1, n1, c1, a2, n2, c2, rfl, hg, blk_below hX2 lx, o1.mono (by omega), o2.mono (by omega), by omega, gr_tr hWB lx, blk_below hX1 lx⟩
/-- The store into a box that was there. -/
theorem rcut_set {w W w2 : World} {g : Nat} {l : Bool} {ps : List (ByteArray × ByteArray)} {xs : List Int} {a1 : Option Addr} {n1 c1 : Nat} {a2 : Option Addr} {n2 c2 : Nat} {x0 x1 x2 x3 : Value} (hWB : Below w.heap.size w W) {nb : Array Value} (hX1 : W.heap[w.heap.size]? = some (.cells nb 26 (0, 0)))
    (hX2 : W.heap[w.heap.size + 1]? = some (.cells #[.bool false, .slice none 0 0, .slice none 0 0, .slice none 0 0] 26 (0, 0))) (lx : Below W.heap.size W w2) (hg : w2.heap[g]? = some (.cells #[x0, x1, x2, x3] 26 (0, 0)))
    (hgW : W.heap.size ≤ g) (o1 : OwnSl w2 W.heap.size 101 2 32 (.slice a1 n1 c1) (ps.map propCells)) (o2 : OwnSl w2 W.heap.size 21 1 4 (.slice a2 n2 c2) (xs.map runeCells)) :
    RCut w nb l ps xs (.pointer (some ⟨g, 0, none⟩)) ((((w2.setCell ⟨g, 0, none⟩ (.bool l)).setCell ⟨g, 1, none⟩ (.slice a1 n1 c1)).setCell ⟨g, 2, none⟩ (.slice a2 n2 c2)).setCell ⟨g, 3, none⟩ (.slice none 0 0)) := by
  have h := rcut_of (w := w) (W := W) (wx := set4 w2 g 0 (.bool l) (.slice a1 n1 c1) (.slice a2 n2 c2) (.slice none 0 0)) (g := g) hWB hX1 hX2 (set4_below lx hgW) (four_block hg) hgW (own_other o1 hg (by decide)) (own_other o2 hg (by decide))
  simpa only [set4, Nat.zero_add] using h

theorem set4z {B : Nat} {w w' : World} {g : Nat} {u0 u1 u2 u3 : Value} (h : Below B w w') (hg : B ≤ g) : Below B w ((((w'.setCell ⟨g, 0, none⟩ u0).setCell ⟨g, 1, none⟩ u1).setCell ⟨g, 2, none⟩ u2).setCell ⟨g, 3, none⟩ u3) :=
  (((h.setCell (p := ⟨g, 0, none⟩) hg _).setCell (p := ⟨g, 1, none⟩) hg _).setCell (p := ⟨g, 2, none⟩) hg _).setCell (p := ⟨g, 3, none⟩) hg _
/-- What the append of the properties leaves. -/
theorem props_own {W w0 w1 : World} {v1 : Value} {n : Nat} {ps : List (ByteArray × ByteArray)} (hown : w1.ownsRow W.heap.size 101 2 v1 n ([] ++ (ps.map propCells).flatten)) (hn : n = 0 + ps.length) (hb : ps.length * 32 ≤ 140737488351232) (hg : w0.grownBy w1 none) (l : Below W.heap.size W w0) :
    (∃ a m c, v1 = .slice a m c) ∧ OwnSl w1 W.heap.size 101 2 32 v1 (ps.map propCells) ∧ Below W.heap.size W w1 ∧ Below w0.heap.size w0 w1 := by
  subst hn
  have ho : OwnSl w1 W.heap.size 101 2 32 v1 (ps.map propCells) := ⟨by simpa using hown, by simpa using hb, fun e he => by obtain ⟨x, _, rfl⟩ := List.mem_map.1 he; rfl⟩
  obtain ⟨a, c, h⟩ := (ho.sl (by decide)).slice
  have hb0 : Below w0.heap.size w0 w1 := (gr_refl w0).grown hg (Nat.le_refl _) (fun _ h => by cases h)
  exact ⟨⟨a, _, c, h⟩, ho, gr_tr l hb0, hb0⟩
/-- The clone of the text, in any later world. -/
theorem textL {S : Nat → Prop} {W : World} {v : Value} {xs : List Int} (h : TextAt S W v xs) : ∀ w', Below W.heap.size W w' → Calls Try.prog 94 #[v] w' fun e w2 => ∃ a n c, e = .returned (.slice a n c) ∧ OwnSl w2 W.heap.size 21 1 4 (.slice a n c) (xs.map runeCells) ∧ Below W.heap.size W w2 ∧ Below w'.heap.size w' w2 := fun w' l => by
  refine (r03copy_any _ S v w' (h.later l (Nat.le_refl _)) (rune_cells_one xs)).mono ?_
  rintro e w2 ⟨v', rfl, ho, hb⟩
  obtain ⟨a, c, rfl⟩ := (ho.sl (by decide)).slice
  exact ⟨a, _, c, rfl, ho.mono l.size, gr_tr l hb, hb⟩

/-- One more child. -/
theorem rc_next {w wr V w2 w3 : World} {B g k n : Nat} {l : Bool} {ps : List (ByteArray × ByteArray)} {xs : List Int} {ks : List Tree} {pv tv kv v' : Value} {es : List (List Value)} {Fi : Nat → Nat → Prop} {cs : List Value} {o : Obj}
    (hb0 : wr.heap[g]? = some (.cells #[.bool l, pv, tv, kv] 26 (0, 0))) (hb1 : wr.heap[w.heap.size + 1]? = some (.cells #[.bool false, .slice none 0 0, .slice none 0 0, .slice none 0 0] 26 (0, 0)))
    (ho1 : OwnSl wr (w.heap.size + 2) 101 2 32 pv (ps.map propCells)) (ho2 : OwnSl wr (w.heap.size + 2) 21 1 4 tv (xs.map runeCells)) (ho3 : OwnSl wr B 26 4 80 kv es) (hle : es.length = k)
    (h1 : ∀ i, i < k → Tr wr (Fi i) (es.getD i []) (ks.getD i default)) (h2 : ∀ i b, i < k → Fi i b → B ≤ b ∧ b < wr.heap.size) (h3 : ∀ i j b, i < k → j < k → i ≠ j → Fi i b → ¬ Fi j b)
    (h4 : ∀ b, kv.ownBlock = some b → ∀ i, i < k → ¬ Fi i b) (hBw : B ≤ wr.heap.size) (hbw : Below w.heap.size w wr) (hgB : g < B) (hgH : w.heap.size + 2 ≤ g)
    (hV : Below wr.heap.size wr V) (hb : Below V.heap.size V w2) (ht : Tr w2 (fun b => V.heap.size ≤ b) cs (ks.getD k default)) (hn : n = k + 1) (hs : (k + 1) * 80 ≤ 140737488351232)
    (hown : w3.ownsRow B 26 4 v' n (es.flatten ++ cs)) (hgr : (w2.alloc o).grownBy w3 kv.ownBlock) (hat : ∀ b, v'.ownBlock = some b → kv.ownBlock = some b ∨ b = (w2.alloc o).heap.size) :
    RInv w B g l ps xs ks pv tv (k + 1) (w3.setCell ⟨g, 3, none⟩ v') := by
  subst hn
  have lt0 := lt_of_block hb0
  have lt1 := lt_of_block hb1
  have ltk := ho3.lt
  have h12 : Below wr.heap.size wr w2 := gr_tr hV hb
  have hal : Below wr.heap.size wr (w2.alloc o) := gr_al h12 o
  have s1 := hV.size
  have s2 := hb.size
  have s3 : (w2.alloc o).heap.size = w2.heap.size + 1 := by simp
  have s4 := hgr.size
  have a1 := apart_of ho1 ho3 (by decide)
  have a2 := apart_of ho2 ho3 (by decide)
  have set : ∀ b, b ≠ g → (w3.setCell ⟨g, 3, none⟩ v').heap[b]? = w3.heap[b]? := fun b hb => by simp [World.setCell, Array.getElem?_modify, Ne.symm hb]
  have ssz : (w3.setCell ⟨g, 3, none⟩ v').heap.size = w3.heap.size := by simp [World.setCell]
  have key2 : ∀ b, b < w2.heap.size → kv.ownBlock ≠ some b → w3.heap[b]? = w2.heap[b]? := fun b hb' hne => by
    rw [hgr.block b (by omega) (fun h => hne h.symm), (gr_al (gr_refl w2) o).block b hb']
  have key : ∀ b, b < wr.heap.size → kv.ownBlock ≠ some b → w3.heap[b]? = wr.heap[b]? := fun b hb' hne => by
    rw [key2 b (by omega) hne, h12.block b hb']
  have ng : kv.ownBlock ≠ some g := fun h => by have := (ltk g h).1; omega
  have n1 : kv.ownBlock ≠ some (w.heap.size + 1) := fun h => by have := (ltk _ h).1; omega
  have ltp := ho1.lt
  have ltt := ho2.lt
  have np : ∀ b, pv.ownBlock = some b → b ≠ g := fun b hb' h => row_not ho1.1 hb0 (by decide) (h ▸ hb')
  have nt : ∀ b, tv.ownBlock = some b → b ≠ g := fun b hb' h => row_not ho2.1 hb0 (by decide) (h ▸ hb')
  have hB3 : Below w.heap.size w w3 := (gr_tr hbw hal).grown hgr (by have := hbw.size; omega) (fun b hb' => by have := (ltk b hb').1; omega)
  refine ⟨v', es ++ [cs], fun i b => if i = k then V.heap.size ≤ b ∧ b < w2.heap.size else Fi i b, ?_, ?_, ?_, ?_, ?_, by simp [hle], fun i hi => ?_, fun i b hi hF => ?_, fun i j b hi hj hij hF hF2 => ?_, fun b hb' i hi hF => ?_, by omega, hB3.setCell (p := ⟨g, 3, none⟩) (by show w.heap.size ≤ g; omega) _⟩
  · have : w3.heap[g]? = some (.cells #[.bool l, pv, tv, kv] 26 (0, 0)) := by rw [key g lt0 ng, hb0]
    simp [World.setCell, Array.getElem?_modify, this]
  · rw [set _ (by omega), key _ lt1 n1, hb1]
  · exact ho1.keep fun b hb' => by rw [set b (np b hb'), key b (ltp b hb').2 (a1 b hb')]
  · exact ho2.keep fun b hb' => by rw [set b (nt b hb'), key b (ltt b hb').2 (a2 b hb')]
  · refine ⟨?_, by simpa [hle] using hs, fun e he => ?_⟩
    · have := row_keep (w' := w3.setCell ⟨g, 3, none⟩ v') hown fun b hb' => set b (by have := (hown.lt b hb').1; omega)
      simpa [hle] using this
    · rcases List.mem_append.1 he with h | h
      · exact ho3.2.2 e h
      · simp only [List.mem_singleton] at h
        subst h
        exact ht.cells
  · by_cases hik : i = k
    · subst hik
      simp only [if_true]
      have : (es ++ [cs]).getD i [] = cs := by rw [← hle]; simp
      rw [this]
      exact ht.there.keep fun b hb' => by rw [set b (by omega), key2 b hb'.2 (fun h => by have := (ltk b h).2; omega)]
    · simp only [hik, if_false]
      have hik2 : i < k := by omega
      have : (es ++ [cs]).getD i [] = es.getD i [] := by simp [List.getElem?_append_left (show i < es.length by omega)]
      rw [this]
      refine (h1 i hik2).keep fun b hF => ?_
      have := h2 i b hik2 hF
      rw [set b (by omega), key b this.2 (fun h => h4 b h i hik2 hF)]
  · by_cases hik : i = k
    · simp only [hik, if_true] at hF
      omega
    · simp only [hik, if_false] at hF
      have := h2 i b (by omega) hF
      omega
  · by_cases hik : i = k
    · have hjk : j ≠ k := by omega
      simp only [hik, if_true] at hF
      simp only [hjk, if_false] at hF2
      have := h2 j b (by omega) hF2
      omega
    · simp only [hik, if_false] at hF
      by_cases hjk : j = k
      · simp only [hjk, if_true] at hF2
        have := h2 i b (by omega) hF
        omega
      · simp only [hjk, if_false] at hF2
        exact h3 i j b (by omega) (by omega) hij hF hF2
  · by_cases hik : i = k
    · simp only [hik, if_true] at hF
      rcases hat b hb' with h | h
      · have := (ltk b h).2
        omega
      · omega
    · simp only [hik, if_false] at hF
      rcases hat b hb' with h | h
      · exact h4 b h i (by omega) hF
      · have := h2 i b (by omega) hF
        omega

/-- A child's copy, and what the walk reads beside it. -/
def RCopied (kid : Tree) (g : Nat) (kv : Value) (V : World) (e : Ending) (w2 : World) : Prop :=
  ∃ (lk : Bool) (a1 : Option Addr) (n1 c1 : Nat) (a2 : Option Addr) (n2 c2 : Nat) (a3 : Option Addr) (n3 c3 : Nat), e = .returned (.agg #[.bool lk, .slice a1 n1 c1, .slice a2 n2 c2, .slice a3 n3 c3]) ∧
    Tr w2 (fun b => V.heap.size ≤ b) [.bool lk, .slice a1 n1 c1, .slice a2 n2 c2, .slice a3 n3 c3] kid ∧ Below V.heap.size V w2 ∧ w2.cell? ⟨g, 3, none⟩ = some kv ∧
      (w2.alloc (.cells #[.bool lk, .slice a1 n1 c1, .slice a2 n2 c2, .slice a3 n3 c3] 26)).cell? ⟨g, 3, none⟩ = some kv
theorem rcopied_of {kid : Tree} {g : Nat} {kv : Value} {V : World} (hg : V.cell? ⟨g, 3, none⟩ = some kv) {f : FuncId} {args : Array Value} (h : Calls Try.prog f args V (Copied kid V)) : Calls Try.prog f args V (RCopied kid g kv V) := h.mono fun e w2 ⟨cs, he, ht, hb⟩ => by
  obtain ⟨a1, n1, c1, a2, n2, c2, a3, n3, c3, hc⟩ := ht.nodeAt.form
  subst hc
  have hlt := World.block_lt_of_cell? V _ hg
  have h1 : w2.cell? ⟨g, 3, none⟩ = some kv := by rw [hb.cell (p := ⟨g, 3, none⟩) hlt, hg]
  exact ⟨_, _, _, _, _, _, _, _, _, _, he, ht, hb, h1, Lib.cell?_alloc_some _ h1⟩
theorem g_after {B g : Nat} {w w2 w3 : World} {kv x0 x1 x2 : Value} {es : List (List Value)} {o : Obj} (hg : w.heap[g]? = some (.cells #[x0, x1, x2, kv] 26 (0, 0))) (ho : OwnSl w B 26 4 80 kv es) (hgB : g < B) (hb : Below w.heap.size w w2) (hgr : (w2.alloc o).grownBy w3 kv.ownBlock) :
    w3.cell? ⟨g, 3, none⟩ = some kv ∧ w3.frozen? ⟨g, 3, none⟩ = false := by
  have hlt := lt_of_block hg
  have hal := gr_al hb o
  have h3 : w3.heap[g]? = some (.cells #[x0, x1, x2, kv] 26 (0, 0)) := by
    rw [hgr.block g (Nat.lt_of_lt_of_le hlt hal.size) (fun h => by have := (ho.lt g h.symm).1; omega), hal.block g hlt, hg]
  exact ⟨(four_facts h3).1.2.2.2, (four_facts h3).2.2.2.2⟩
theorem four_one (l : Bool) (a1 : Option Addr) (n1 c1 : Nat) (a2 : Option Addr) (n2 c2 : Nat) (a3 : Option Addr) (n3 c3 : Nat) : ∀ u ∈ [Value.bool l, .slice a1 n1 c1, .slice a2 n2 c2, .slice a3 n3 c3], u.oneCell' = true := by
  intro u hu
  simp at hu
  rcases hu with rfl | rfl | rfl | rfl <;> rfl
theorem four_news (w : World) (l : Bool) (a1 : Option Addr) (n1 c1 : Nat) (a2 : Option Addr) (n2 c2 : Nat) (a3 : Option Addr) (n3 c3 : Nat) (t : TypeId) : ∀ j u, [Value.bool l, .slice a1 n1 c1, .slice a2 n2 c2, .slice a3 n3 c3][j]? = some u → (w.alloc (.cells #[.bool l, .slice a1 n1 c1, .slice a2 n2 c2, .slice a3 n3 c3] t)).cell? ((⟨w.heap.size, 0, none⟩ : Addr).add j) = some u :=
  World.news_of_block (heap_alloc_new w (.cells #[.bool l, .slice a1 n1 c1, .slice a2 n2 c2, .slice a3 n3 c3] t))

set_option maxHeartbeats 4000000 in
theorem rcopyN_any : ∀ (t : Tree) (cs : List Value) (S : Nat → Prop) (w : World), NodeAt S w cs t → Calls Try.prog 53 #[.agg (List.toArray cs)] w (Copied t w) := by
  refine Tree.ind fun l ps xs ks ih => ?_
  intro cs S w h
  have IH := Lib.hid ih
  clear ih
  cases h with
  | @mk _ _ _ _ pv tv kv es hp ht hk hl hall =>
  obtain ⟨a1, c1, rfl⟩ := hp.slice
  obtain ⟨a2, c2, rfl⟩ := ht.slice
  obtain ⟨a3, c3, rfl⟩ := hk.slice
  have b1 := hp.len
  have b2 := ht.len
  have b3 := hk.len
  simp only [List.length_map] at hp ht b1 b2
  simp only [List.length_map]
  obtain ⟨hb, hx1, hx2⟩ := two_boxesN w #[.bool l, .slice a1 ps.length c1, .slice a2 xs.length c2, .slice a3 es.length c3] #[.bool false, .slice none 0 0, .slice none 0 0, .slice none 0 0] 26 26
  obtain ⟨_, u1, u2, _⟩ := hp.src (by decide)
  have u3 := fun w' (l : Below _ _ w') => ((hp.later hb (Nat.le_refl _)).later l (Nat.le_refl _)).src (by decide) |>.2.2.2
  obtain ⟨i0, hi, hz0, hz1, hz2⟩ := info_parts info_props
  have HI := Lib.hid hi; have HZ0 := Lib.hid hz0; have HZ1 := Lib.hid hz1; have HZ2 := Lib.hid hz2
  have HT := Lib.hid (textL (ht.later hb (Nat.le_refl _))); have HP := Lib.hid hp; have HB1 := Lib.hid b1
  have HK := Lib.hid hk; have HA := Lib.hid hall; have HL := Lib.hid hl
  have U1 := Lib.hid u1; have U2 := Lib.hid u2; have U3 := Lib.hid u3
  have HB := Lib.hid hb; have HX1 := Lib.hid hx1; have HX2 := Lib.hid hx2
  have O1 := Lib.hid (prop_cells_one ps); have O2 := Lib.hid (rune_cells_one xs)
  have H5 := Lib.hid (show 0 + ps.length ≤ maxLen by unfold maxLen; omega)
  have H6 := Lib.hid (show (0 + ps.length) * 32 ≤ 140737488355328 by omega)
  clear hp ht hk hall hl hb hx1 hx2 u1 u2 u3 hi hz0 hz1 hz2
  go_enter Try.func53, Try.ntmps53
  go_upto_region 1 with fail
  generalize World.alloc (World.alloc w _) _ = W at *
  have BX := Lib.hid (nodeB HX1.out)
  have l0 : Below W.heap.size W W.drew := gr_dr (gr_refl W)
  go_wp2_with fail
  go_cut [3] (fun s3 wx => RCut w #[.bool l, .slice a1 ps.length c1, .slice a2 xs.length c2, .slice a3 es.length c3] l ps xs s3 wx)
  case first =>
    have l1 : Below W.heap.size W (World.drew (W.alloc (.cells #[.bool false, .slice none 0 0, .slice none 0 0, .slice none 0 0] 26))) := gr_dr (gr_al (gr_refl W) _)
    have z1 := blk_below (heap_alloc_new W (.cells #[.bool false, .slice none 0 0, .slice none 0 0, .slice none 0 0] 26)) (gr_dr (gr_refl _))
    have Z1 := Lib.hid z1
    clear z1
    go_region_held3 (fun w' => w'.cell? ⟨w.heap.size, 0, none⟩ = some (.bool l) ∧ w'.cell? ⟨w.heap.size, 1, none⟩ = some (.slice a1 ps.length c1) ∧ w'.cell? ⟨w.heap.size, 2, none⟩ = some (.slice a2 xs.length c2) ∧ w'.cell? ⟨w.heap.size, 3, none⟩ = some (.slice a3 es.length c3))
      (first | exact BX.out _ l0 | exact BX.out _ l1 | exact BX.out _ (gr_al l0 _) | exact BX.out _ (set4z l0 (Nat.le_refl _)) | exact BX.out _ (set4z l0 hge) | go_keep)
      (first
        | (refine step_append_any rfl (.const (.slice none 0 0)) (.tmp 9) 22 rfl W.heap.size 101 i0 (.agg #[.string ⟨#[]⟩, .string ⟨#[]⟩]) 2 32 Try.underlying22 HI.out HZ0.out HZ1.out HZ2.out rfl (by decide) (.slice none 0 0) 0 [] rfl (World.ownsRow_nil _ _ _ _) a1 ps.length c1 (ps.map propCells).flatten (by simp [Act.eval]) U1.out U2.out (U3.out _ l0) O1.out H5.out H6.out l0.size ?_; intro v1 w1 hown hgrow; obtain ⟨⟨x1, y1, d1, rfl⟩, ho1, l0, m1⟩ := props_own hown rfl HB1.out hgrow l0; have tok : True := trivial)
        | (refine step_append_any rfl (.const (.slice none 0 0)) (.tmp 9) 22 rfl W.heap.size 101 i0 (.agg #[.string ⟨#[]⟩, .string ⟨#[]⟩]) 2 32 Try.underlying22 HI.out HZ0.out HZ1.out HZ2.out rfl (by decide) (.slice none 0 0) 0 [] rfl (World.ownsRow_nil _ _ _ _) a1 ps.length c1 (ps.map propCells).flatten (by simp [Act.eval]) U1.out U2.out (U3.out _ l1) O1.out H5.out H6.out l1.size ?_; intro v1 w1 hown hgrow; obtain ⟨⟨x1, y1, d1, rfl⟩, ho1, l0, m1⟩ := props_own hown rfl HB1.out hgrow l1; have Z2 := Lib.hid (blk_below Z1.out m1))
        | (go_at_call 94; have Z3 := Z2; refine (HT.out _ l0).mono ?_; rintro e w2 ⟨x2, y2, d2, rfl, ho2, l0, m2⟩; have Z4 := Lib.hid (blk_below Z2.out m2); obtain ⟨⟨q0, q1, q2, q3⟩, ⟨r0, r1, r2, r3⟩⟩ := four_facts Z4.out)
        | (go_at_call 94; refine (HT.out _ l0).mono ?_; rintro e w2 ⟨x2, y2, d2, rfl, ho2, l0, m2⟩)
        | (go_at_call 94; refine (HT.out _ (gr_al l0 _)).mono ?_; have hge := l0.size; rintro e w2 ⟨x2, y2, d2, rfl, ho2, l0, m2⟩; have Z4 := Lib.hid (blk_below (heap_alloc_new w1 (.cells #[.bool false, .slice none 0 0, .slice none 0 0, .slice none 0 0] 26)) m2); obtain ⟨⟨q0, q1, q2, q3⟩, ⟨r0, r1, r2, r3⟩⟩ := four_facts Z4.out))
    all_goals go_wp2_with fail
    all_goals go_meet
    · exact rcut_of HB.out HX1.out HX2.out (gr_al l0 _) (heap_alloc_new w2 _) l0.size ((ho1.later m2 (Nat.le_refl _)).later (gr_al (gr_refl w2) _) (Nat.le_refl _)) (ho2.later (gr_al (gr_refl w2) _) (Nat.le_refl _))
    · exact rcut_set HB.out HX1.out HX2.out l0 Z4.out hge (ho1.later (gr_tr (gr_al (gr_refl w1) _) m2) (Nat.le_refl _)) ho2
    · exact rcut_set HB.out HX1.out HX2.out l0 Z4.out (Nat.le_refl _) (ho1.later m2 (Nat.le_refl _)) ho2
  case rest =>
    obtain ⟨g, x1, y1, d1, x2, y2, d2, rfl, hg, hx2, ho1, ho2, hgW, hbw, hnb⟩ := hcut
    obtain ⟨⟨k0, k1, k2, k3⟩, _⟩ := four_facts hnb
    have hI : RInv w wc.heap.size g l ps xs ks (.slice x1 y1 d1) (.slice x2 y2 d2) 0 wc :=
      ⟨.slice none 0 0, [], fun _ _ => False, hg, hx2, ho1, ho2, OwnSl.nil _ _ _ _ _, rfl, fun i hi => by omega, fun i b hi => by omega, fun i j b hi => by omega, (fun b hb => by cases hb), Nat.le_refl _, hbw⟩
    have HI1 := Lib.hid hI
    have HP1 := Lib.hid (fun b hb => (ho1.lt b hb).2)
    have HP2 := Lib.hid (fun b hb => (ho2.lt b hb).2)
    have HG := Lib.hid (lt_of_block hg)
    have hkl := HL.out
    generalize hN : es.length = n3 at *
    have HLN := Lib.hid hN
    have HKL := Lib.hid hkl
    obtain ⟨Bz, hBz⟩ : ∃ B, wc.heap.size = B := ⟨_, rfl⟩
    rw [hBz] at HI1 HP1 HP2 HG
    clear hI hg hx2 ho1 ho2 hbw hnb hBz hN hkl HI HZ0 HZ1 HZ2 HT HP U1 U2 U3 O1 O2 H5 H6 l0 HL
    go_wp2_with fail
    clear k0 k1 k2 k3
    go_loopw [18] (fun i wr => ∃ k : Nat, k ≤ n3 ∧ i = .int .i64 k ∧ RInv w Bz g l ps xs ks (.slice x1 y1 d1) (.slice x2 y2 d2) k wr) (fun i _ => n3 - (intOf i).toNat)
    case atStart => exact ⟨0, Nat.zero_le _, rfl, HI1.out⟩
    case round =>
      obtain ⟨k, hk, rfl, kv, es', Fi, hb0, hb1, ho1, ho2, ho3, hle, h1, h2, h3, h4, hBw, hbw⟩ := hrel
      clear HI1
      by_cases hlt : k < n3
      · obtain ⟨b, off, l', p1, q1, r1, p2, q2, r2, p3, q3, r3, rfl, hc3, hn, hmem, e0, e1, e2, e3⟩ := kid_at (HK.out.later hbw (Nat.le_refl _)) (HLN.out.trans HKL.out) (fun i hi => (HA.out i hi).later hbw (Nat.le_refl _)) k hlt
        obtain ⟨ka, kc, hkv⟩ := (ho3.sl (by decide)).slice
        rw [hle] at hkv
        subst hkv
        have hbV := gr_al (gr_refl wr) (.cells #[.bool l', .slice p1 q1 r1, .slice p2 q2 r2, .slice p3 q3 r3] 26)
        have hvb := heap_alloc_new wr (.cells #[.bool l', .slice p1 q1 r1, .slice p2 q2 r2, .slice p3 q3 r3] 26)
        have hgV := blk_below hb0 hbV
        have hc := rcopied_of (V := World.drew (wr.alloc (.cells #[.bool l', .slice p1 q1 r1, .slice p2 q2 r2, .slice p3 q3 r3] 26))) (four_facts (blk_below hgV (gr_dr (gr_refl _)))).1.2.2.2 (IH.out _ hmem _ _ (World.drew (wr.alloc (.cells #[.bool l', .slice p1 q1 r1, .slice p2 q2 r2, .slice p3 q3 r3] 26))) ((hn.later hbV (Nat.le_refl _)).later (gr_dr (gr_refl _)) (Nat.le_refl _)))
        obtain ⟨⟨y0, y1', y2', y3⟩, _⟩ := four_facts hvb
        have k3 := (four_facts hgV).1.2.2.2
        have f3 := (four_facts hgV).2.2.2.2
        have HC := Lib.hid hc; have HV := Lib.hid hbV
        have J0 := Lib.hid hb0; have J1 := Lib.hid hb1; have J2 := Lib.hid ho1; have J3 := Lib.hid ho2; have J4 := Lib.hid ho3; have J5 := Lib.hid hle; have J6 := Lib.hid h1; have J7 := Lib.hid h2; have J8 := Lib.hid h3; have J9 := Lib.hid h4; have K0 := Lib.hid hBw; have K1 := Lib.hid hbw
        obtain ⟨i1, hi, hz0, hz1, hz2⟩ := info_parts info_nodes
        have GI := Lib.hid hi; have GZ0 := Lib.hid hz0; have GZ1 := Lib.hid hz1; have GZ2 := Lib.hid hz2
        have H5 : Hid (k + 1 ≤ maxLen) := by show _ ≤ _; unfold maxLen; omega
        have H6 : Hid ((k + 1) * 80 ≤ 140737488355328) := by show _ ≤ _; omega
        have H7 : Hid ((k + 1) * 80 ≤ 140737488351232) := by show _ ≤ _; omega
        clear hc hbV hvb hgV hb0 hb1 ho1 ho2 ho3 hle h1 h2 h3 h4 hBw hbw hn hmem hi hz0 hz1 hz2
        go_wp2_with fail
        clear e0 e1 e2 e3
        generalize wr.alloc _ = V at *
        have hrow := fun w2 (hb : Below V.drew.heap.size V.drew w2) => row_below J4.out.1 (gr_tr (gr_dr HV.out) hb) (Nat.le_refl _)
        rw [J5.out] at hrow
        have HR := Lib.hid hrow
        clear hrow
        go_region_law (first
          | (go_simp; go_at_call 53; refine HC.out.mono ?_; clear k3 f3; rintro e w2 ⟨lk, a1', n1', c1', a2', n2', c2', a3', n3', c3', rfl, ht, hb2, k3, k3'⟩)
          | (refine step_append_lies _ rfl (.tmp 23) (.tmp 26) 24 rfl Bz 26 i1 (.agg #[.bool false, .slice none 0 0, .slice none 0 0, .slice none 0 0]) 4 80 Try.underlying24 GI.out GZ0.out GZ1.out GZ2.out rfl (by decide) (.slice ka k kc) k es'.flatten (by simp [Act.eval]) ((HR.out _ hb2).alloc _) ⟨w2.heap.size, 0, none⟩ 1 1 [.bool lk, .slice a1' n1' c1', .slice a2' n2' c2', .slice a3' n3' c3'] (by simp [Act.eval]) rfl (four_news w2 lk a1' n1' c1' a2' n2' c2' a3' n3' c3' _) (four_one _ _ _ _ _ _ _ _ _ _) (by decide) H5.out H6.out (by have h8 := K0.out; have h9 := HV.out.size; have h10 : V.heap.size ≤ w2.heap.size := hb2.size; simp; omega) _ rfl ?_; intro g' cap w3 hown hgr hat hlt3; obtain ⟨k3, f3⟩ := g_after J0.out J4.out HG.out (gr_tr (gr_dr HV.out) hb2) hgr))
        all_goals
          have hN := rc_next (V := World.drew V) J0.out J1.out J2.out J3.out J4.out J5.out J6.out J7.out J8.out J9.out K0.out K1.out HG.out hgW (gr_dr HV.out) hb2 ht rfl H7.out hown hgr (fun b hb => by simp only [Value.ownBlock, Option.some.injEq] at hb; subst hb; exact hat)
          have HN2 := Lib.hid hN
          clear hN ht hb2 hown hgr hat hlt3
          go_wp2_with fail
          go_roundw
          case rel => exact ⟨k + 1, by omega, by go_num, HN2.out⟩
          case measure => simp [intOf]; omega
      · have hkn : k = n3 := by omega
        subst hkn
        obtain ⟨⟨k0, k1, k2, k3⟩, ⟨m0, m1, m2, m3⟩⟩ := four_facts hb0
        obtain ⟨⟨k0', k1', k2', k3'⟩, ⟨m0', m1', m2', m3'⟩⟩ := four_facts hb1
        obtain ⟨ka, kc, rfl⟩ := (ho3.sl (by decide)).slice
        have hfs := four_stored (w' := wr) (g := w.heap.size + 1) (u0 := .bool l) (u1 := .slice x1 y1 d1) (u2 := .slice x2 y2 d2) (u3 := .slice ka es'.length kc)
        have hfb := four_block (u0 := .bool l) (u1 := .slice x1 y1 d1) (u2 := .slice x2 y2 d2) (u3 := .slice ka es'.length kc) hb1
        have hfw : Below w.heap.size w _ := set4z (g := w.heap.size + 1) (u0 := .bool l) (u1 := .slice x1 y1 d1) (u2 := .slice x2 y2 d2) (u3 := .slice ka es'.length kc) hbw (by omega)
        have hkl : k = ks.length := HKL.out
        have htr : Tr ((((wr.setCell ⟨w.heap.size + 1, 0, none⟩ (.bool l)).setCell ⟨w.heap.size + 1, 1, none⟩ (.slice x1 y1 d1)).setCell ⟨w.heap.size + 1, 2, none⟩ (.slice x2 y2 d2)).setCell ⟨w.heap.size + 1, 3, none⟩ (.slice ka es'.length kc)) (fun b => w.heap.size ≤ b) [.bool l, .slice x1 y1 d1, .slice x2 y2 d2, .slice ka es'.length kc] (.mk l ps xs ks) := by
          have hgB := HG.out
          refine rcopy_end (B := Bz) ho1 ho2 ho3 (hle.trans hkl) (fun i hi => h1 i (by omega)) (fun i b hi => h2 i b (by omega)) (fun i j b hi hj => h3 i j b (by omega) (by omega)) (fun b hb i hi => h4 b hb i (by omega)) HP1.out HP2.out (by omega) hfs
        have HF := Lib.hid hfb; have HW := Lib.hid hfw; have HT2 := Lib.hid htr
        clear hfs hfb hfw htr hb0 hb1 ho1 ho2 ho3 h1 h2 h3 h4 hBw hbw hkl hle
        go_wp2_with fail
        have hfb := HF.out; have hfw := HW.out; have htr := HT2.out
        obtain ⟨⟨j0, j1, j2, j3⟩, _⟩ := four_facts hfb
        generalize World.setCell (World.setCell (World.setCell (World.setCell wr _ _) _ _) _ _) _ _ = wf at *
        exact bodyPost_ret (v := .agg #[.bool l, .slice x1 y1 d1, .slice x2 y2 d2, .slice ka es'.length kc]) (by simp [results, Try.results53, go_sem, j0, j1, j2, j3]) rfl ⟨[.bool l, .slice x1 y1 d1, .slice x2 y2 d2, .slice ka es'.length kc], rfl, htr, hfw⟩
end Go.Proofs.Ytdcpoeaddhbjbaa
