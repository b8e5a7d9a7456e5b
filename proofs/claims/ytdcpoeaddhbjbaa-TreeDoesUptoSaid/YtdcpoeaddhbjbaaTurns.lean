/- Words on memory: a node whose row of children is another one. No program in sight. Plain Lean: a tree without the node at a path. No program in sight. -/
import Derived.Test.YtdcpoeaddhbjbaaChd
import Derived.Test.YtdcpoeaddhbjbaaTrails
namespace Go.Proofs.Ytdcpoeaddhbjbaa
set_option maxRecDepth 100000
open Go.RowKit

/- Words on memory: a node whose row of children is another one. No program in sight. -/
theorem kids_box {W w1 w2 : World} {F Fp : Nat → Prop} {Fi : Nat → Nat → Prop} {b o : Nat} {l : Bool} {ps : List (ByteArray × ByteArray)} {xs : List Int} {ks' : List Tree} {pv tv kv kv' : Value} {es' : List (List Value)}
    (hr : W.rangeAt b o [.bool l, pv, tv, kv]) (hth : W.there b o 4) (hFb : ¬ F b) (hF : ∀ x, F x → x < W.heap.size) (hbl : b < W.heap.size)
    (hp : PropsAt Fp W pv ps) (ht : TextAt Fp W tv xs) (hpF : ∀ x, Fp x → F x) (hfr : ∀ x, x < W.heap.size → kv.ownBlock ≠ some x → w1.heap[x]? = W.heap[x]?)
    (hg : ∀ g, kv.ownBlock = some g → F g ∧ ¬ Fp g) (hk : OwnSl w1 0 26 4 80 kv' es') (hl : es'.length = ks'.length)
    (hg' : ∀ g, kv'.ownBlock = some g → orNew W F g ∧ ¬ Fp g ∧ ∀ i, i < ks'.length → ¬ Fi i g) (hiF : ∀ i x, i < ks'.length → Fi i x → orNew W F x ∧ ¬ Fp x)
    (hd : ∀ i j x, i < ks'.length → j < ks'.length → i ≠ j → Fi i x → ¬ Fi j x) (hall : ∀ i, i < ks'.length → Tr w1 (Fi i) (es'.getD i []) (ks'.getD i default)) (hw2 : w2 = w1.setCell ⟨b, o + 3, none⟩ kv') :
    Box w2 (orNew W F) b o (.mk l ps xs ks') ∧ Framed W w2 b F ∧ Wrote W w2 b o := by
  have ho : ∀ x, x ≠ b → w2.heap[x]? = w1.heap[x]? := fun x hx => by rw [hw2]; exact Below.heap_setCell _ _ _ _ hx
  have hkb : kv.ownBlock ≠ some b := fun h => hFb (hg b h).1
  have hb1 : w1.heap[b]? = W.heap[b]? := hfr b hbl hkb
  have hnb : ¬ orNew W F b := by rintro (h | h); exact hFb h; omega
  have hth1 := there_keep hth hb1
  have hr1 := range_keep hr hb1
  have hkey : ∀ x, Fp x → w2.heap[x]? = W.heap[x]? := fun x hx => by
    rw [ho x (fun h => hFb (h ▸ hpF x hx))]
    exact hfr x (hF x (hpF x hx)) (fun h => (hg x h).2 hx)
  refine ⟨⟨[.bool l, pv, tv, kv'], fun j v hj => ?_, fun j hj => ?_, .mk (Fp := Fp) (Fi := Fi) (hp.keep hkey) (ht.keep hkey) (hk.keep fun g h => ho g (fun e => hnb (e ▸ (hg' g h).1))) hl hg' (fun x hx => .inl (hpF x hx)) hiF hd (fun i hi => (hall i hi).keep fun x hx => ho x (fun e => hnb (e ▸ (hiF i x hi hx).1))), hnb⟩, fun x hx hxb hxF => ?_, ?_⟩
  · rw [hw2]
    have hj4 : j < 4 := by simpa using (List.getElem?_eq_some_iff.1 hj).1
    by_cases h3 : j = 3
    · subst h3
      obtain ⟨u, hu⟩ := Option.isSome_iff_exists.1 (hth1 3 (by omega)).1
      rw [World.cell?_setCell_same _ _ _ hu]
      simpa using hj
    · rw [World.cell?_setCell_other _ _ _ _ (by simp <;> omega)]
      refine hr1 j v ?_
      obtain rfl | rfl | rfl : j = 0 ∨ j = 1 ∨ j = 2 := by omega
      all_goals simpa using hj
  · rw [hw2]
    have := hth1 j hj
    refine ⟨?_, by rw [World.frozen?_setCell]; exact this.2⟩
    obtain ⟨u, hu⟩ := Option.isSome_iff_exists.1 this.1
    by_cases h3 : j = 3
    · subst h3
      rw [World.cell?_setCell_same _ _ _ hu]; exact rfl
    · rw [World.cell?_setCell_other _ _ _ _ (by simp <;> omega)]; exact this.1
  · rw [ho x hxb]
    exact hfr x hx (fun h => hxF (hg x h).1)
  · rw [hw2]
    exact (Wrote.same o hb1).trans (Wrote.set (o + 3) kv' (by omega))

/-- A child taken out. -/
def cutK (i : Int) (s : Tree) : Int × Tree := (0, .mk s.leaf s.props s.text (s.kids.eraseIdx i.toNat))
/-- A child put in. -/
def addK (i : Int) (m : Tree) (s : Tree) : Int × Tree := if s.leaf then (7, s) else if i < 0 ∨ (s.kids.length : Int) < i then (8, s) else (0, .mk s.leaf s.props s.text (s.kids.insertIdx i.toNat m))

theorem getD_erase {α : Type} (L : List α) (i j : Nat) (d : α) : (L.eraseIdx i).getD j d = L.getD (if j < i then j else j + 1) d := by
  simp only [List.getD, List.getElem?_eraseIdx]
  split <;> rfl
theorem getD_insert {α : Type} (L : List α) (i j : Nat) (x d : α) (hi : i ≤ L.length) : (L.insertIdx i x).getD j d = if j < i then L.getD j d else if j = i then x else L.getD (j - 1) d := by
  simp only [List.getD, List.getElem?_insertIdx]
  by_cases h1 : j < i
  · simp [h1]
  · by_cases h2 : j = i
    · subst h2; simp [hi]
    · simp [h1, h2]

theorem cut_box {W w1 w2 : World} {F Fp : Nat → Prop} {Fi : Nat → Nat → Prop} {b o g n c k : Nat} {l : Bool} {ps : List (ByteArray × ByteArray)} {xs : List Int} {ks : List Tree} {pv tv : Value} {es : List (List Value)}
    (hr : W.rangeAt b o [.bool l, pv, tv, .slice (some ⟨g, 0, none⟩) n c]) (hth : W.there b o 4) (hFb : ¬ F b) (hF : ∀ x, F x → x < W.heap.size) (hbl : b < W.heap.size)
    (hp : PropsAt Fp W pv ps) (ht : TextAt Fp W tv xs) (hl : es.length = ks.length) (hg : F g ∧ ¬ Fp g ∧ ∀ i, i < ks.length → ¬ Fi i g) (hpF : ∀ x, Fp x → F x) (hiF : ∀ i x, i < ks.length → Fi i x → F x ∧ ¬ Fp x)
    (hd : ∀ i j x, i < ks.length → j < ks.length → i ≠ j → Fi i x → ¬ Fi j x) (hall : ∀ i, i < ks.length → Tr W (Fi i) (es.getD i []) (ks.getD i default)) (hk : k < ks.length)
    (hfr : ∀ x, x ≠ g → w1.heap[x]? = W.heap[x]?) (ho : OwnSl w1 0 26 4 80 (.slice (some ⟨g, 0, none⟩) (n - 1) c) (es.eraseIdx k)) (hw2 : w2 = w1.setCell ⟨b, o + 3, none⟩ (.slice (some ⟨g, 0, none⟩) (n - 1) c)) :
    Box w2 (orNew W F) b o (.mk l ps xs (ks.eraseIdx k)) ∧ Framed W w2 b F ∧ Wrote W w2 b o := by
  have hlen : (ks.eraseIdx k).length = ks.length - 1 := by rw [List.length_eraseIdx, if_pos hk]
  have key : ∀ i, i < (ks.eraseIdx k).length → (if i < k then i else i + 1) < ks.length := fun i hi => by split <;> omega
  refine kids_box (Fi := fun i => Fi (if i < k then i else i + 1)) hr hth hFb hF hbl hp ht hpF (fun x _ hx => hfr x (fun e => hx (by rw [e]; rfl))) (fun g' h => ?_) ho ?_ (fun g' h => ?_) (fun i x hi hx => ?_) (fun i j x hi hj hij hx => ?_) (fun i hi => ?_) hw2
  · simp only [Value.ownBlock, Option.some.injEq] at h
    subst h
    exact ⟨hg.1, hg.2.1⟩
  · rw [hlen, List.length_eraseIdx, if_pos (by omega), hl]
  · simp only [Value.ownBlock, Option.some.injEq] at h
    subst h
    exact ⟨.inl hg.1, hg.2.1, fun i hi => hg.2.2 _ (key i hi)⟩
  · have := hiF _ x (key i hi) hx
    exact ⟨.inl this.1, this.2⟩
  · exact hd _ _ x (key i hi) (key j hj) (by split <;> split <;> omega) hx
  · rw [getD_erase, getD_erase]
    refine (hall _ (key i hi)).keep fun x hx => hfr x ?_
    rintro rfl
    exact hg.2.2 _ (key i hi) hx

theorem add_box {W wc w1 w2 : World} {F Fp Fn : Nat → Prop} {Fi : Nat → Nat → Prop} {b o k : Nat} {l : Bool} {ps : List (ByteArray × ByteArray)} {xs : List Int} {ks : List Tree} {m : Tree} {pv tv kv kv' : Value} {es : List (List Value)} {cs : List Value}
    (hr : W.rangeAt b o [.bool l, pv, tv, kv]) (hth : W.there b o 4) (hFb : ¬ F b) (hF : ∀ x, F x → x < W.heap.size) (hbl : b < W.heap.size)
    (hp : PropsAt Fp W pv ps) (ht : TextAt Fp W tv xs) (hl : es.length = ks.length) (hg : ∀ g, kv.ownBlock = some g → F g ∧ ¬ Fp g ∧ ∀ i, i < ks.length → ¬ Fi i g) (hpF : ∀ x, Fp x → F x) (hiF : ∀ i x, i < ks.length → Fi i x → F x ∧ ¬ Fp x)
    (hd : ∀ i j x, i < ks.length → j < ks.length → i ≠ j → Fi i x → ¬ Fi j x) (hall : ∀ i, i < ks.length → Tr W (Fi i) (es.getD i []) (ks.getD i default)) (hk : k ≤ ks.length)
    (hm : Tr wc Fn cs m) (hFn : ∀ x, Fn x → W.heap.size ≤ x ∧ x < wc.heap.size) (hwc : W.heap.size ≤ wc.heap.size) (hfc : ∀ x, x < wc.heap.size → kv.ownBlock ≠ some x → w1.heap[x]? = wc.heap[x]?) (hfW : ∀ x, x < W.heap.size → wc.heap[x]? = W.heap[x]?)
    (ho : OwnSl w1 0 26 4 80 kv' (es.insertIdx k cs)) (hat : ∀ g, kv'.ownBlock = some g → kv.ownBlock = some g ∨ wc.heap.size ≤ g) (hw2 : w2 = w1.setCell ⟨b, o + 3, none⟩ kv') :
    Box w2 (orNew W F) b o (.mk l ps xs (ks.insertIdx k m)) ∧ Framed W w2 b F ∧ Wrote W w2 b o := by
  have hlen : (ks.insertIdx k m).length = ks.length + 1 := by rw [List.length_insertIdx, if_pos hk]
  have hfr : ∀ x, x < W.heap.size → kv.ownBlock ≠ some x → w1.heap[x]? = W.heap[x]? := fun x hx hne => (hfc x (by omega) hne).trans (hfW x hx)
  have hPs : ∀ x, Fp x → x < W.heap.size := fun x hx => hF x (hpF x hx)
  refine kids_box (Fi := fun i => if i < k then Fi i else if i = k then Fn else Fi (i - 1)) hr hth hFb hF hbl hp ht hpF hfr (fun g h => ⟨(hg g h).1, (hg g h).2.1⟩) ho ?_ (fun g h => ?_) (fun i x hi hx => ?_) (fun i j x hi hj hij hx => ?_) (fun i hi => ?_) hw2
  · rw [hlen, List.length_insertIdx, if_pos (by omega), hl]
  · rcases hat g h with h0 | h0
    · obtain ⟨h1, h2, h3⟩ := hg g h0
      refine ⟨.inl h1, h2, fun i hi => ?_⟩
      by_cases i1 : i < k
      · simp only [i1, if_true]; exact h3 i (by omega)
      · by_cases i2 : i = k
        · simp only [i2, if_false, if_true, Nat.lt_irrefl]
          intro h; have := hFn g h; have := hF g h1; omega
        · simp only [i1, i2, if_false]; exact h3 _ (by omega)
    · refine ⟨.inr (by omega), fun h => by have := hPs g h; omega, fun i hi => ?_⟩
      by_cases i1 : i < k
      · simp only [i1, if_true]; intro h; have := hF g (hiF i g (by omega) h).1; omega
      · by_cases i2 : i = k
        · simp only [i2, if_false, if_true, Nat.lt_irrefl]
          intro h; have := hFn g h; omega
        · simp only [i1, i2, if_false]; intro h; have := hF g (hiF _ g (by omega) h).1; omega
  · by_cases i1 : i < k
    · simp only [i1, if_true] at hx
      have := hiF i x (by omega) hx
      exact ⟨.inl this.1, this.2⟩
    · by_cases i2 : i = k
      · simp only [i2, if_false, if_true, Nat.lt_irrefl] at hx
        have := hFn x hx
        exact ⟨.inr this.1, fun h => by have := hPs x h; omega⟩
      · simp only [i1, i2, if_false] at hx
        have := hiF (i - 1) x (by omega) hx
        exact ⟨.inl this.1, this.2⟩
  · have old : ∀ i', i' < ks.length → Fi i' x → ¬ Fn x := fun i' hi' h h2 => by have := hF x (hiF i' x hi' h).1; have := hFn x h2; omega
    by_cases i1 : i < k
    · simp only [i1, if_true] at hx
      by_cases j1 : j < k
      · simp only [j1, if_true]; exact hd i j x (by omega) (by omega) hij hx
      · by_cases j2 : j = k
        · simp only [j2, if_false, if_true, Nat.lt_irrefl]; exact old i (by omega) hx
        · simp only [j1, j2, if_false]; exact hd i (j - 1) x (by omega) (by omega) (by omega) hx
    · by_cases i2 : i = k
      · simp only [i2, if_false, if_true, Nat.lt_irrefl] at hx
        by_cases j1 : j < k
        · simp only [j1, if_true]; exact fun h => old j (by omega) h hx
        · have j2 : j ≠ k := by omega
          simp only [j1, j2, if_false]; exact fun h => old (j - 1) (by omega) h hx
      · simp only [i1, i2, if_false] at hx
        by_cases j1 : j < k
        · simp only [j1, if_true]; exact hd (i - 1) j x (by omega) (by omega) (by omega) hx
        · by_cases j2 : j = k
          · simp only [j2, if_false, if_true, Nat.lt_irrefl]; exact old (i - 1) (by omega) hx
          · simp only [j1, j2, if_false]; exact hd (i - 1) (j - 1) x (by omega) (by omega) (by omega) hx
  · have keep : ∀ i', i' < ks.length → Tr w1 (Fi i') (es.getD i' []) (ks.getD i' default) := fun i' hi' => (hall i' hi').keep fun x hx => hfr x (hF x (hiF i' x hi' hx).1) (fun h => (hg x h).2.2 i' hi' hx)
    rw [getD_insert _ _ _ _ _ (by omega), getD_insert _ _ _ _ _ hk]
    by_cases i1 : i < k
    · simp only [i1, if_true]; exact keep i (by omega)
    · by_cases i2 : i = k
      · simp only [i2, if_false, if_true, Nat.lt_irrefl]
        exact hm.keep fun x hx => hfc x (hFn x hx).2 (fun h => by have := hF x (hg x h).1; have := hFn x hx; omega)
      · simp only [i1, i2, if_false]; exact keep _ (by omega)

/- Plain Lean: a tree without the node at a path. No program in sight. -/
theorem split_last {p : List Int} (h : 0 < p.length) : p.take (p.length - 1) ++ [lastI p] = p := by
  apply List.ext_getElem
  · simp; omega
  · intro i h1 h2
    by_cases hi : i < p.length - 1
    · rw [List.getElem_append_left (by simp; omega)]
      simp
    · have : i = p.length - 1 := by omega
      subst this
      rw [List.getElem_append_right (by simp)]
      simp [lastI, h2]
theorem get_last {t m : Tree} {p : List Int} (h : 0 < p.length) (hg : getT t p = some m) :
    ∃ s, getT t (p.take (p.length - 1)) = some s ∧ 0 ≤ lastI p ∧ (lastI p).toNat < s.kids.length ∧ s.kids.getD (lastI p).toNat default = m := by
  rw [← split_last h, getT_append] at hg
  cases hs : getT t (p.take (p.length - 1)) with
  | none => rw [hs] at hg; cases hg
  | some s =>
    rw [hs] at hg
    replace hg : getT s [lastI p] = some m := hg
    rw [getT_cons] at hg
    split at hg
    · rename_i hc
      exact ⟨s, rfl, hc.1, hc.2, by simpa [getT] using hg⟩
    · cases hg
theorem get_last_none {t : Tree} {p : List Int} (h : 0 < p.length) (s : Tree) (hs : getT t (p.take (p.length - 1)) = some s) : getT t p = if 0 ≤ lastI p ∧ (lastI p).toNat < s.kids.length then some (s.kids.getD (lastI p).toNat default) else none := by
  rw [← split_last h, getT_append]
  simp only [split_last h, hs, Option.bind_some, getT_cons, getT_nil]
theorem get_up_none {t : Tree} {p : List Int} (h : 0 < p.length) (hs : getT t (p.take (p.length - 1)) = none) : getT t p = none := by
  rw [← split_last h, getT_append, hs]
  rfl
/-- The tree without the node at a path. -/
def cutT (t : Tree) (p : List Int) : Tree := match getT t (p.take (p.length - 1)) with | some s => putT t (p.take (p.length - 1)) (cutK (lastI p) s).2 | none => t
theorem cutT_eq {t s : Tree} {p : List Int} (h : getT t (p.take (p.length - 1)) = some s) : cutT t p = putT t (p.take (p.length - 1)) (cutK (lastI p) s).2 := by simp only [cutT, h]
/-- The error. -/
def cutE (t : Tree) (p : List Int) : Int := if p.length = 0 then 6 else match getT t p with | none => 5 | some _ => 0
/-- What tree.Cut hands back. -/
abbrev zeroNV : Value := .agg #[.bool false, .slice none 0 0, .slice none 0 0, .slice none 0 0]
def CutPost (t : Tree) (p : List Int) (w : World) (e : Ending) (w' : World) : Prop :=
  Below w.heap.size w w' ∧ ((cutE t p ≠ 0 ∧ e = .returned (.tuple #[zeroNV, zeroNV, .int .i64 (cutE t p)])) ∨
    ∃ cs ds m, 0 < p.length ∧ getT t p = some m ∧ e = .returned (.tuple #[.agg (Array.mk cs), .agg (Array.mk ds), .int .i64 0]) ∧ Tr w' (fun b => w.heap.size ≤ b) cs (cutT t p) ∧ Tr w' (fun b => w.heap.size ≤ b) ds m)
theorem I64.take {p : List Int} (h : I64 p) (k : Nat) : I64 (p.take k) := fun x hx => h x (List.mem_of_mem_take hx)
theorem last_i64 {p : List Int} (h : I64 p) (h0 : 0 < p.length) : -9223372036854775808 ≤ lastI p ∧ lastI p ≤ 9223372036854775807 := h _ (by unfold lastI; rw [List.getD_eq_getElem?_getD, List.getElem?_eq_getElem (by omega)]; exact List.getElem_mem _)
/-- Two boxes of nodes, both stored into. -/
theorem two_stores {w : World} {b1 b2 : Nat} {x0 x1 x2 x3 y0 y1 y2 y3 u0 u1 u2 u3 v0 v1 v2 v3 : Value} (h1 : w.heap[b1]? = some (.cells #[x0, x1, x2, x3] 26 (0, 0))) (h2 : w.heap[b2]? = some (.cells #[y0, y1, y2, y3] 26 (0, 0))) (hne : b1 ≠ b2) :
    (set4 (set4 w b1 0 u0 u1 u2 u3) b2 0 v0 v1 v2 v3).heap[b1]? = some (.cells #[u0, u1, u2, u3] 26 (0, 0)) ∧ (set4 (set4 w b1 0 u0 u1 u2 u3) b2 0 v0 v1 v2 v3).heap[b2]? = some (.cells #[v0, v1, v2, v3] 26 (0, 0)) := by
  refine ⟨?_, ?_⟩
  · rw [set4_heap b1 hne]
    exact four_block h1
  · exact four_block (by rw [set4_heap b2 (Ne.symm hne)]; exact h2)
end Go.Proofs.Ytdcpoeaddhbjbaa
