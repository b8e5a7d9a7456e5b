/- Words on memory: a node whose cells may be written; what a change of one node in place makes of the tree above it. No program in sight. -/
import Derived.Test.YtdcpoeaddhbjbaaTreeP
namespace Go.Proofs.Ytdcpoeaddhbjbaa
set_option maxRecDepth 100000
open Go.RowKit

/-- A tree in which the node at a path is another one. -/
def putT : Tree → List Int → Tree → Tree
  | _, [], s => s
  | t, i :: p, s => .mk t.leaf t.props t.text (t.kids.set i.toNat (putT (t.kids.getD i.toNat default) p s))

/-- A node's four cells lie at b, o and may be written; its slices lie in blocks of its own, of those that F names; b is none of these. -/
def Box (w : World) (F : Nat → Prop) (b o : Nat) (t : Tree) : Prop := ∃ cs, w.rangeAt b o cs ∧ w.there b o 4 ∧ Tr w F cs t ∧ ¬ F b

/-- Of block b four cells, from o on, may have turned. -/
def Wrote (w w' : World) (b o : Nat) : Prop := ∀ cur ty fr, w.heap[b]? = some (.cells cur ty fr) → ∃ cur' : Array Value, w'.heap[b]? = some (.cells cur' ty fr) ∧ cur'.size = cur.size ∧ ∀ j, (j < o ∨ o + 4 ≤ j) → cur'.toList[j]? = cur.toList[j]?
/-- Of the blocks that were there only block b and those of F may have turned. -/
def Framed (w w' : World) (b : Nat) (F : Nat → Prop) : Prop := ∀ x, x < w.heap.size → x ≠ b → ¬ F x → w'.heap[x]? = w.heap[x]?
/-- F, or new. -/
abbrev orNew (w : World) (F : Nat → Prop) : Nat → Prop := fun x => F x ∨ w.heap.size ≤ x

theorem Wrote.same {w w' : World} {b : Nat} (o : Nat) (h : w'.heap[b]? = w.heap[b]?) : Wrote w w' b o := fun cur ty fr hc => ⟨cur, by rw [h, hc], rfl, fun _ _ => rfl⟩
theorem Wrote.trans {a b c : World} {g o : Nat} (h : Wrote a b g o) (k : Wrote b c g o) : Wrote a c g o := fun cur ty fr hc => by
  obtain ⟨cur1, h1, h2, h3⟩ := h cur ty fr hc
  obtain ⟨cur2, k1, k2, k3⟩ := k cur1 ty fr h1
  exact ⟨cur2, k1, k2.trans h2, fun j hj => (k3 j hj).trans (h3 j hj)⟩
theorem Wrote.set {w : World} {g o : Nat} (i : Nat) (u : Value) (hi : o ≤ i ∧ i < o + 4) : Wrote w (w.setCell ⟨g, i, none⟩ u) g o := fun cur ty fr hc => by
  refine ⟨cur.setIfInBounds i u, ?_, by simp, fun j hj => ?_⟩
  · have hl := lt_of_block hc
    have h' : w.heap[g] = .cells cur ty fr := by simpa [Array.getElem?_eq_getElem hl] using hc
    show (w.heap.modify g _)[g]? = _
    rw [Array.getElem?_eq_getElem (by simpa using hl), Array.getElem_modify_self, h']
    rfl
  · rw [Array.toList_setIfInBounds, List.getElem?_set_ne (by omega)]

theorem range_det {w : World} {b o : Nat} {xs ys : List Value} (h : w.rangeAt b o xs) (k : w.rangeAt b o ys) (hl : xs.length = ys.length) : xs = ys := by
  apply List.ext_getElem hl
  intro i h1 h2
  have a := h i xs[i] (by simp [h1])
  have c := k i ys[i] (by simp [h2])
  rw [a] at c
  exact Option.some.inj c
theorem there_keep {w w' : World} {b o n : Nat} (h : w.there b o n) (hk : w'.heap[b]? = w.heap[b]?) : w'.there b o n := fun j hj => by
  have h1 := World.cell?_of_block (w := w) (w' := w') (a := ⟨b, o + j, none⟩) hk
  have h2 : w'.frozen? ⟨b, o + j, none⟩ = w.frozen? ⟨b, o + j, none⟩ := by simp only [World.frozen?, hk]
  rw [h1, h2]
  exact h j hj
theorem Box.lt {w : World} {F : Nat → Prop} {b o : Nat} {t : Tree} (h : Box w F b o t) : b < w.heap.size := by
  obtain ⟨cs, hr, _, ht, _⟩ := h
  have := ht.cells
  exact World.block_lt_of_cell? w ⟨b, o + 0, none⟩ (hr 0 cs[0] (by simp))
theorem Box.there_ {w : World} {F : Nat → Prop} {b o : Nat} {t : Tree} (h : Box w F b o t) : Box w (fun x => F x ∧ x < w.heap.size) b o t := by
  obtain ⟨cs, hr, hh, ht, hb⟩ := h
  exact ⟨cs, hr, hh, ht.there, fun h => hb h.1⟩
theorem Box.weaken {w : World} {F G : Nat → Prop} {b o : Nat} {t : Tree} (h : Box w F b o t) (hFG : ∀ x, F x → G x) (hG : ¬ G b) : Box w G b o t := by
  obtain ⟨cs, hr, hh, ht, hb⟩ := h
  exact ⟨cs, hr, hh, ht.weaken hFG, hG⟩
theorem Box.keep {w w' : World} {F : Nat → Prop} {b o : Nat} {t : Tree} (h : Box w F b o t) (hb : w'.heap[b]? = w.heap[b]?) (hF : ∀ x, F x → w'.heap[x]? = w.heap[x]?) : Box w' F b o t := by
  obtain ⟨cs, hr, hh, ht, hn⟩ := h
  exact ⟨cs, range_keep hr hb, there_keep hh hb, ht.keep hF, hn⟩
theorem Box.here {w : World} {F : Nat → Prop} {b o : Nat} {t : Tree} (h : Box w F b o t) : Here F w b o t := by
  obtain ⟨cs, hr, _, ht, _⟩ := h
  exact ⟨cs, hr, ht.nodeAt⟩

/-- A row of elements of four cells, of which one has turned in place. -/
theorem OwnSl.turned {w w' : World} {B g n c i : Nat} {e : TypeId} {bytes : Nat} {es : List (List Value)} {cs : List Value} (h : OwnSl w B e 4 bytes (.slice (some ⟨g, 0, none⟩) n c) es) (hi : i < n) (hw : Wrote w w' g (i * 4)) (hc : w'.rangeAt g (i * 4) cs) (hl : cs.length = 4) :
    OwnSl w' B e 4 bytes (.slice (some ⟨g, 0, none⟩) n c) (es.set i cs) := by
  have hlen : es.length = n := by obtain ⟨a', c', he⟩ := (h.sl (by decide)).slice; simp only [Value.slice.injEq] at he; omega
  obtain ⟨⟨hl1, h1⟩, h2, h3⟩ := h
  have h3' : ∀ x ∈ es.set i cs, x.length = 4 := fun x hx => by
    rcases List.mem_or_eq_of_mem_set hx with h' | rfl
    · exact h3 x h'
    · exact hl
  obtain ⟨f1, f2⟩ := flat_get (size := 4) (by decide) es h3
  obtain ⟨f1', f2'⟩ := flat_get (size := 4) (by decide) (es.set i cs) h3'
  rw [List.length_set] at f1'
  refine ⟨⟨by rw [f1', List.length_set], ?_⟩, by simpa using h2, h3'⟩
  rcases h1 with ⟨h0, _⟩ | ⟨g', cap, cur, hv, hB, hg, hn, hm, hs, ht⟩
  · cases h0
  · simp only [Value.slice.injEq, Option.some.injEq, Addr.mk.injEq] at hv
    obtain ⟨⟨rfl, -⟩, -, rfl⟩ := hv
    obtain ⟨cur', k1, k2, k3⟩ := hw _ _ _ hg
    refine .inr ⟨g, c, cur', by rw [List.length_set, hlen], hB, k1, by simpa using hn, hm, by rw [k2]; exact hs, ?_⟩
    rw [List.length_set]
    apply List.ext_getElem?
    intro j
    by_cases hj : j < es.length * 4
    · rw [List.getElem?_take, if_pos hj, f2']
      have dm := Nat.div_add_mod j 4
      have ml := Nat.mod_lt j (show 0 < 4 by decide)
      rw [Nat.mul_comm] at dm
      by_cases hji : j / 4 = i
      · have hg2 : (es.set i cs).getD (j / 4) [] = cs := by simp [hji, hlen, hi]
        rw [hg2]
        have hm4 : j % 4 < cs.length := by omega
        have := hc (j % 4) cs[j % 4] (by simp [hm4])
        rw [cell_of_row w' g (i * 4 + j % 4) cur' _ _ k1] at this
        rw [hji] at dm
        rw [dm] at this
        rw [List.getElem?_eq_getElem hm4, ← this]
        simp
      · have hout : j < i * 4 ∨ i * 4 + 4 ≤ j := by omega
        rw [k3 j hout]
        have : (es.set i cs).getD (j / 4) [] = es.getD (j / 4) [] := by simp [List.getElem?_set_ne (Ne.symm hji)]
        rw [this, ← f2, ← ht, List.getElem?_take, if_pos hj]
    · rw [List.getElem?_eq_none (by rw [List.length_take]; omega), List.getElem?_eq_none (by rw [f1']; omega)]

/-- What a change in place of the node at a path makes of the tree above it. -/
theorem focus_put {w : World} {b o : Nat} {t : Tree} {p : List Int} {b' o' : Nat} {s : Tree} (hf : Focus w b o t p b' o' s) : ∀ {F : Nat → Prop}, Box w F b o t → (∀ x, F x → x < w.heap.size) →
    ∃ Fs : Nat → Prop, Box w Fs b' o' s ∧ (∀ x, Fs x → F x) ∧ (b' = b ∨ F b') ∧ ∀ w' s', w.heap.size ≤ w'.heap.size → Box w' (orNew w Fs) b' o' s' → Wrote w w' b' o' → Framed w w' b' Fs →
      Box w' (orNew w F) b o (putT t p s') ∧ Wrote w w' b o ∧ Framed w w' b F := by
  induction hf with
  | nil b o t => exact fun {F} hb hF => ⟨F, hb, fun _ h => h, .inl rfl, fun w' s' _ h1 h2 h3 => ⟨h1, h2, h3⟩⟩
  | @cons b o g off n c b' o' l pv tv t s i p hr h0 hi hn hf' ih =>
    intro F hbx hF
    have hbl := hbx.lt
    obtain ⟨cs, hcs, hth, htr, hFb⟩ := hbx
    cases htr with
    | @mk _ l ps xs ks pv tv kv es Fp Fi hp ht hk hl hg hpF hiF hd hall =>
      have hdet := range_det hr hcs rfl
      simp only [List.cons.injEq] at hdet
      obtain ⟨-, -, -, rfl, -⟩ := hdet
      replace hn : n = ks.length := hn
      obtain ⟨g', he, hnc, -, hgl, hel, hrg, htg, hcl⟩ := hk.at_ (by decide) i.toNat hi
      simp only [Option.some.injEq, Addr.mk.injEq] at he
      obtain ⟨rfl, rfl, -⟩ := he
      have hik : i.toNat < ks.length := by omega
      obtain ⟨hgF, hgP, hgI⟩ := hg g rfl
      have hbg : b ≠ g := by rintro rfl; exact hFb hgF
      have hbox : Box w (Fi i.toNat) g (0 + i.toNat * 4) (ks.getD i.toNat default) := ⟨_, by rw [Nat.zero_add]; exact hrg, by rw [Nat.zero_add]; exact htg, hall _ hik, hgI _ hik⟩
      obtain ⟨Fs, b1, b2, b3, b4⟩ := ih hbox (fun x hx => hF x (hiF _ _ hik hx).1)
      refine ⟨Fs, b1, fun x hx => (hiF _ _ hik (b2 x hx)).1, .inr ?_, fun w' s' hsz h1 h2 h3 => ?_⟩
      · rcases b3 with rfl | h
        · exact hgF
        · exact (hiF _ _ hik h).1
      obtain ⟨c1, c2, c3⟩ := b4 w' s' hsz h1 h2 h3
      rw [Nat.zero_add] at c1 c2
      have hFib : ¬ Fi i.toNat b := fun h => hFb (hiF _ _ hik h).1
      have hkb : w'.heap[b]? = w.heap[b]? := c3 b hbl hbg hFib
      obtain ⟨cs', d1, d2, d3, d4⟩ := c1
      refine ⟨⟨_, range_keep hcs hkb, there_keep hth hkb, ?_, ?_⟩, Wrote.same o hkb, fun x hx hxb hxF => c3 x hx ?_ ?_⟩
      · refine .mk (Fp := Fp) (Fi := fun j => if j = i.toNat then orNew w (Fi i.toNat) else Fi j) (hp.keep fun x hx => c3 x (hF x (hpF x hx)) ?_ ?_) (ht.keep fun x hx => c3 x (hF x (hpF x hx)) ?_ ?_) (hk.turned (cs := cs') hi c2 d1 d3.cells) ?_ ?_ ?_ ?_ ?_ ?_
        · rintro rfl; exact hgP hx
        · exact fun h => (hiF _ _ hik h).2 hx
        · rintro rfl; exact hgP hx
        · exact fun h => (hiF _ _ hik h).2 hx
        · simpa [Tree.kids] using hl
        · intro g2 hg2
          simp only [Value.ownBlock, Option.some.injEq] at hg2
          subst hg2
          refine ⟨.inl hgF, hgP, fun j hj => ?_⟩
          by_cases hji : j = i.toNat
          · simp only [hji, if_true]
            rintro (h | h)
            · exact hgI _ hik h
            · omega
          · simp only [hji, if_false]
            exact hgI j (by simpa [Tree.kids] using hj)
        · exact fun x hx => .inl (hpF x hx)
        · intro j x hj hx
          by_cases hji : j = i.toNat
          · simp only [hji, if_true] at hx
            rcases hx with h | h
            · exact ⟨.inl (hiF _ _ hik h).1, (hiF _ _ hik h).2⟩
            · exact ⟨.inr h, fun hP => by have := hF x (hpF x hP); omega⟩
          · simp only [hji, if_false] at hx
            have := hiF j x (by simpa [Tree.kids] using hj) hx
            exact ⟨.inl this.1, this.2⟩
        · intro j k x hj hk' hjk hx hx2
          have hj' : j < ks.length := by simpa [Tree.kids] using hj
          have hk2 : k < ks.length := by simpa [Tree.kids] using hk'
          by_cases hji : j = i.toNat
          · have hki : k ≠ i.toNat := by omega
            simp only [hji, if_true] at hx
            simp only [hki, if_false] at hx2
            rcases hx with h | h
            · exact hd _ _ x hik hk2 (by omega) h hx2
            · have := hF x (hiF _ _ hk2 hx2).1; omega
          · simp only [hji, if_false] at hx
            by_cases hki : k = i.toNat
            · simp only [hki, if_true] at hx2
              rcases hx2 with h | h
              · exact hd _ _ x hj' hik (by omega) hx h
              · have := hF x (hiF _ _ hj' hx).1; omega
            · simp only [hki, if_false] at hx2
              exact hd _ _ x hj' hk2 hjk hx hx2
        · intro j hj
          have hj' : j < ks.length := by simpa [Tree.kids] using hj
          by_cases hji : j = i.toNat
          · subst hji
            have e1 : (es.set i.toNat cs').getD i.toNat [] = cs' := by simp [hel, hi]
            have e2 : (ks.set i.toNat (putT (ks.getD i.toNat default) p s')).getD i.toNat default = putT (ks.getD i.toNat default) p s' := by simp [hik]
            show Tr w' (if i.toNat = i.toNat then orNew w (Fi i.toNat) else Fi i.toNat) ((es.set i.toNat cs').getD i.toNat []) ((ks.set i.toNat (putT (ks.getD i.toNat default) p s')).getD i.toNat default)
            rw [if_pos rfl, e1, e2]
            exact d3
          · have e1 : (es.set i.toNat cs').getD j [] = es.getD j [] := by simp [List.getElem?_set_ne (Ne.symm hji)]
            have e2 : (ks.set i.toNat (putT (ks.getD i.toNat default) p s')).getD j default = ks.getD j default := by simp [List.getElem?_set_ne (Ne.symm hji)]
            show Tr w' (if j = i.toNat then orNew w (Fi i.toNat) else Fi j) ((es.set i.toNat cs').getD j []) ((ks.set i.toNat (putT (ks.getD i.toNat default) p s')).getD j default)
            rw [if_neg hji, e1, e2]
            refine (hall j hj').keep fun x hx => c3 x (hF x (hiF _ _ hj' hx).1) ?_ ?_
            · rintro rfl; exact hgI j hj' hx
            · exact fun h => hd _ _ x hj' hik hji hx h
      · rintro (h | h)
        · exact hFb h
        · omega
      · rintro rfl; exact hxF hgF
      · exact fun h => hxF (hiF _ _ hik h).1
end Go.Proofs.Ytdcpoeaddhbjbaa
