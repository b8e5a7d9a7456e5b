/- Words on memory for trees that a call has made: every slice of it lies in blocks of its own. -/
import Derived.Test.YtcbljiiomnhbjaaClones
import Derived.Laws.OwnMore
namespace Go.Proofs.Ytcbljiiomnhbjaa
set_option maxRecDepth 100000
open Go.RowKit

theorem row_keep {w w' : World} {B : Nat} {e : TypeId} {size : Nat} {v : Value} {n : Nat} {xs : List Value} (h : w.ownsRow B e size v n xs) (hk : ∀ g, v.ownBlock = some g → w'.heap[g]? = w.heap[g]?) : w'.ownsRow B e size v n xs := by
  refine ⟨h.1, ?_⟩
  rcases h.2 with h2 | ⟨g, cap, cur, hv, hg, hh, r⟩
  · exact .inl h2
  · exact .inr ⟨g, cap, cur, hv, hg, by rw [hk g (by rw [hv]; rfl)]; exact hh, r⟩
theorem OwnSl.keep {w w' : World} {B : Nat} {e : TypeId} {size bytes : Nat} {v : Value} {es : List (List Value)} (h : OwnSl w B e size bytes v es) (hk : ∀ g, v.ownBlock = some g → w'.heap[g]? = w.heap[g]?) : OwnSl w' B e size bytes v es := ⟨row_keep h.1 hk, h.2⟩
theorem OwnSl.lt {w : World} {B : Nat} {e : TypeId} {size bytes : Nat} {v : Value} {es : List (List Value)} (h : OwnSl w B e size bytes v es) : ∀ g, v.ownBlock = some g → B ≤ g ∧ g < w.heap.size := h.1.lt

/-- An element of a row of a call's own: its cells, and that it may be written. -/
theorem OwnSl.at_ {w : World} {B : Nat} {e : TypeId} {size bytes : Nat} {a : Option Addr} {n c : Nat} {es : List (List Value)} (h : OwnSl w B e size bytes (.slice a n c) es) (hs : 0 < size) (i : Nat) (hi : i < n) :
    ∃ g, a = some ⟨g, 0, none⟩ ∧ n ≤ c ∧ B ≤ g ∧ g < w.heap.size ∧ es.length = n ∧ w.rangeAt g (i * size) (es.getD i []) ∧ w.there g (i * size) size ∧ (es.getD i []).length = size := by
  have hsl := h.sl hs
  have hlen : es.length = n := by obtain ⟨a', c', he⟩ := hsl.slice; simp only [Value.slice.injEq] at he; omega
  obtain ⟨b, off, he, hc, hS, hr, hl⟩ := hsl.at_ i hi
  subst he
  obtain ⟨⟨hl1, h2⟩, hb, hsz⟩ := h
  rcases h2 with ⟨h0, _⟩ | ⟨g, cap, cur, hv, hgB, hg, hn, hm, hcs, ht⟩
  · cases h0
  · simp only [Value.slice.injEq, Option.some.injEq, Addr.mk.injEq] at hv
    obtain ⟨⟨rfl, rfl, _⟩, _, rfl⟩ := hv
    refine ⟨b, rfl, hc, hS, lt_of_block hg, hlen, by simpa using hr, fun j hj => ⟨?_, ?_⟩, hl⟩
    · have := hr j ((es.getD i [])[j]'(by omega)) (by simp)
      rw [Nat.zero_add] at this
      rw [this]
      rfl
    · simp [World.frozen?, hg]

/-- A node's four cells read as a tree of which every slice lies in blocks of its own, of those that F names. -/
inductive Tr (w : World) : (Nat → Prop) → List Value → Tree → Prop
  | mk {F : Nat → Prop} {l : Bool} {ps : List (ByteArray × ByteArray)} {xs : List Int} {ks : List Tree} {pv tv kv : Value} {es : List (List Value)} {Fp : Nat → Prop} {Fi : Nat → Nat → Prop}
      (hp : PropsAt Fp w pv ps) (ht : TextAt Fp w tv xs) (hk : OwnSl w 0 27 4 80 kv es) (hl : es.length = ks.length)
      (hg : ∀ g, kv.ownBlock = some g → F g ∧ ¬ Fp g ∧ ∀ i, i < ks.length → ¬ Fi i g)
      (hpF : ∀ b, Fp b → F b) (hiF : ∀ i b, i < ks.length → Fi i b → F b ∧ ¬ Fp b)
      (hd : ∀ i j b, i < ks.length → j < ks.length → i ≠ j → Fi i b → ¬ Fi j b)
      (hall : ∀ i, i < ks.length → Tr w (Fi i) (es.getD i []) (ks.getD i default)) : Tr w F [.bool l, pv, tv, kv] (.mk l ps xs ks)

theorem Sl.block {S : Nat → Prop} {w : World} {size bytes : Nat} {v : Value} {es : List (List Value)} (h : Sl S w size bytes v es) (T : Nat → Prop) (hT : ∀ b, v.ownBlock = some b → T b) : Sl T w size bytes v es := by
  obtain ⟨a, cap, rfl, h2, h3, h4, h5, h6⟩ := h
  refine ⟨a, cap, rfl, h2, h3, h4, h5, fun hp => ?_⟩
  obtain ⟨b, off, rfl, hc⟩ := h6 hp
  exact ⟨b, off, rfl, fun j hj => ⟨hT b rfl, (hc j hj).2⟩⟩

theorem Tr.nodeAt {w : World} {F : Nat → Prop} {cs : List Value} {t : Tree} (h : Tr w F cs t) : NodeAt F w cs t := by
  induction h with
  | mk hp ht hk hl hg hpF hiF _ _ ih =>
    exact .mk (hp.weaken hpF) (ht.weaken hpF) ((hk.sl (by decide)).block _ fun b hb => (hg b hb).1) hl fun i hi => (ih i hi).weaken fun b hb => (hiF i b hi hb).1
theorem Tr.keep {w w' : World} {F : Nat → Prop} {cs : List Value} {t : Tree} (h : Tr w F cs t) (hw : ∀ b, F b → w'.heap[b]? = w.heap[b]?) : Tr w' F cs t := by
  induction h with
  | mk hp ht hk hl hg hpF hiF hd _ ih =>
    exact .mk (hp.keep fun b hb => hw b (hpF b hb)) (ht.keep fun b hb => hw b (hpF b hb)) (hk.keep fun g h => hw g (hg g h).1) hl hg hpF hiF hd fun i hi => ih i hi fun b hb => hw b (hiF i b hi hb).1
theorem Tr.weaken {w : World} {F G : Nat → Prop} {cs : List Value} {t : Tree} (h : Tr w F cs t) (hFG : ∀ b, F b → G b) : Tr w G cs t := by
  cases h with
  | mk hp ht hk hl hg hpF hiF hd hall =>
    exact .mk hp ht hk hl (fun g h => ⟨hFG g (hg g h).1, (hg g h).2⟩) (fun b hb => hFG b (hpF b hb)) (fun i b hi hb => ⟨hFG b (hiF i b hi hb).1, (hiF i b hi hb).2⟩) hd hall
theorem Tr.there {w : World} {F : Nat → Prop} {cs : List Value} {t : Tree} (h : Tr w F cs t) : Tr w (fun b => F b ∧ b < w.heap.size) cs t := by
  induction h with
  | @mk F l ps xs ks pv tv kv es Fp Fi hp ht hk hl hg hpF hiF hd _ ih =>
    exact .mk (Fp := fun b => Fp b ∧ b < w.heap.size) (Fi := fun i b => Fi i b ∧ b < w.heap.size) (hp.there (by decide)) (ht.there (by decide)) hk hl
      (fun g h => ⟨⟨(hg g h).1, (hk.lt g h).2⟩, fun h2 => (hg g h).2.1 h2.1, fun i hi h2 => (hg g h).2.2 i hi h2.1⟩)
      (fun b hb => ⟨hpF b hb.1, hb.2⟩) (fun i b hi hb => ⟨⟨(hiF i b hi hb.1).1, hb.2⟩, fun h2 => (hiF i b hi hb.1).2 h2.1⟩)
      (fun i j b hi hj hij h1 h2 => hd i j b hi hj hij h1.1 h2.1) ih
theorem Tr.later {w w' : World} {F : Nat → Prop} {cs : List Value} {t : Tree} (h : Tr w F cs t) (hb : Below w.heap.size w w') : Tr w' F cs t :=
  (h.there.keep fun b hF => hb.block b hF.2).weaken fun _ h => h.1

theorem Tr.cells {w : World} {F : Nat → Prop} {cs : List Value} {t : Tree} (h : Tr w F cs t) : cs.length = 4 := by cases h; rfl
theorem NodeAt.cells {w : World} {S : Nat → Prop} {cs : List Value} {t : Tree} (h : NodeAt S w cs t) : cs.length = 4 := by cases h; rfl
theorem NodeAt.form {w : World} {S : Nat → Prop} {cs : List Value} {t : Tree} (h : NodeAt S w cs t) : ∃ a1 n1 c1 a2 n2 c2 a3 n3 c3, cs = [.bool t.leaf, .slice a1 n1 c1, .slice a2 n2 c2, .slice a3 n3 c3] := by
  cases h with
  | mk hp ht hk hl hall =>
    obtain ⟨_, _, rfl⟩ := hp.slice
    obtain ⟨_, _, rfl⟩ := ht.slice
    obtain ⟨_, _, rfl⟩ := hk.slice
    exact ⟨_, _, _, _, _, _, _, _, _, rfl⟩
/-- Four cells, one by one. -/
theorem range4 {w : World} {b o : Nat} {x0 x1 x2 x3 : Value} (h : w.rangeAt b o [x0, x1, x2, x3]) : w.cell? ⟨b, o, none⟩ = some x0 ∧ w.cell? ⟨b, o + 1, none⟩ = some x1 ∧ w.cell? ⟨b, o + 2, none⟩ = some x2 ∧ w.cell? ⟨b, o + 3, none⟩ = some x3 :=
  ⟨h 0 _ rfl, h 1 _ rfl, h 2 _ rfl, h 3 _ rfl⟩
theorem there4 {w : World} {b o : Nat} (h : w.there b o 4) : w.frozen? ⟨b, o, none⟩ = false ∧ w.frozen? ⟨b, o + 1, none⟩ = false ∧ w.frozen? ⟨b, o + 2, none⟩ = false ∧ w.frozen? ⟨b, o + 3, none⟩ = false :=
  ⟨(h 0 (by omega)).2, (h 1 (by omega)).2, (h 2 (by omega)).2, (h 3 (by omega)).2⟩
theorem NodeAt.one {w : World} {S : Nat → Prop} {cs : List Value} {t : Tree} (h : NodeAt S w cs t) : ∀ u ∈ cs, u.oneCell' = true := by
  cases h with
  | mk hp ht hk hl hall =>
    obtain ⟨_, _, rfl⟩ := hp.slice
    obtain ⟨_, _, rfl⟩ := ht.slice
    obtain ⟨_, _, rfl⟩ := hk.slice
    simp [Value.oneCell']

/-- The children of a node under copying: the first k are copies, in blocks of their own from B on; the others read as they did. -/
def Kids (S : Nat → Prop) (w : World) (B k : Nat) (es : List (List Value)) (ks : List Tree) : Prop :=
  ∃ Fi : Nat → Nat → Prop, (∀ i, i < k → Tr w (Fi i) (es.getD i []) (ks.getD i default)) ∧ (∀ i b, i < k → Fi i b → B ≤ b ∧ b < w.heap.size) ∧
    (∀ i j b, i < k → j < k → i ≠ j → Fi i b → ¬ Fi j b) ∧ ∀ i, k ≤ i → i < ks.length → NodeAt S w (es.getD i []) (ks.getD i default)

theorem Kids.rest {S : Nat → Prop} {w : World} {B k : Nat} {es : List (List Value)} {ks : List Tree} (h : Kids S w B k es ks) : ∀ i, k ≤ i → i < ks.length → NodeAt S w (es.getD i []) (ks.getD i default) := by
  obtain ⟨Fi, h1, h2, h3, h4⟩ := h
  exact h4
theorem Kids.start {S : Nat → Prop} {w : World} {B : Nat} {es : List (List Value)} {ks : List Tree} (h : ∀ i, i < ks.length → NodeAt S w (es.getD i []) (ks.getD i default)) : Kids S w B 0 es ks :=
  ⟨fun _ _ => False, fun i hi => by omega, fun i b hi => by omega, fun i j b hi => by omega, fun i _ hi => h i hi⟩
/-- One more: w1 is the world behind the copy, w2 that behind the store in block g. -/
theorem Kids.next {S : Nat → Prop} {w w1 w2 : World} {B k g : Nat} {es : List (List Value)} {ks : List Tree} {cs : List Value} (h : Kids S w B k es ks) (hk : k < ks.length) (hl : es.length = ks.length)
    (hB : B ≤ w.heap.size) (hb : Below w.heap.size w w1) (hc : Tr w1 (fun b => w.heap.size ≤ b) cs (ks.getD k default)) (hw : ∀ b, b ≠ g → w2.heap[b]? = w1.heap[b]?) (hsz : w2.heap.size = w1.heap.size)
    (hgB : g < B) (hS : ∀ b, S b → b ≠ g ∧ b < w.heap.size) : Kids S w2 B (k + 1) (es.set k cs) ks := by
  obtain ⟨Fi, h1, h2, h3, h4⟩ := h
  have hs1 := hb.size
  refine ⟨fun i b => if i = k then w.heap.size ≤ b ∧ b < w1.heap.size else Fi i b, fun i hi => ?_, fun i b hi hF => ?_, fun i j b hi hj hij hF hF2 => ?_, fun i hi hi2 => ?_⟩
  · by_cases hik : i = k
    · subst hik
      simp only [if_true]
      have : (es.set i cs).getD i [] = cs := by simp [hl, hk]
      rw [this]
      exact (hc.there.keep fun b hb => hw b (by omega))
    · simp only [hik, if_false]
      have : (es.set k cs).getD i [] = es.getD i [] := by simp [List.getElem?_set_ne (Ne.symm hik)]
      rw [this]
      have hik2 : i < k := by omega
      refine (h1 i hik2).keep fun b hF => ?_
      have := h2 i b hik2 hF
      rw [hw b (by omega), hb.block b this.2]
  · by_cases hik : i = k
    · subst hik
      simp only [if_true] at hF
      omega
    · simp only [hik, if_false] at hF
      have := h2 i b (by omega) hF
      omega
  · by_cases hik : i = k
    · have hjk : j ≠ k := by omega
      simp only [hik, if_true] at hF
      simp only [hjk, if_false] at hF2
      have := h2 j b (by omega) hF2
      omega
    · simp only [hik, if_false] at hF
      by_cases hjk : j = k
      · simp only [hjk, if_true] at hF2
        have := h2 i b (by omega) hF
        omega
      · simp only [hjk, if_false] at hF2
        exact h3 i j b (by omega) (by omega) hij hF hF2
  · have : (es.set k cs).getD i [] = es.getD i [] := by simp [List.getElem?_set_ne (show k ≠ i by omega)]
    rw [this]
    refine (h4 i (by omega) hi2).keep fun b hb' => ?_
    rw [hw b (hS b hb').1, hb.block b (hS b hb').2]
theorem Kids.later {S : Nat → Prop} {w w1 : World} {B k : Nat} {es : List (List Value)} {ks : List Tree} (h : Kids S w B k es ks) (hb : Below w.heap.size w w1) : Kids S w1 B k es ks := by
  obtain ⟨Fi, h1, h2, h3, h4⟩ := h
  exact ⟨Fi, fun i hi => (h1 i hi).later hb, fun i b hi hF => ⟨(h2 i b hi hF).1, Nat.lt_of_lt_of_le (h2 i b hi hF).2 hb.size⟩, h3, fun i hi hi2 => (h4 i hi hi2).later hb (Nat.le_refl _)⟩

/-- Four cells of an element, stored in a row of a call's own. -/
theorem flatten_set {size : Nat} (hs : 0 < size) (es : List (List Value)) (k : Nat) (cs : List Value) (hk : k < es.length) (h : ∀ e ∈ es, e.length = size) (hc : cs.length = size) :
    (es.set k cs).flatten = es.flatten.take (k * size) ++ cs ++ es.flatten.drop (k * size + size) := by
  have h2 : ∀ e ∈ es.set k cs, e.length = size := fun e he => by
    rcases List.mem_or_eq_of_mem_set he with h' | rfl
    · exact h e h'
    · exact hc
  obtain ⟨l1, g1⟩ := flat_get hs es h
  obtain ⟨l2, g2⟩ := flat_get hs _ h2
  have hks : k * size + size ≤ es.length * size := by
    have : (k + 1) * size ≤ es.length * size := Nat.mul_le_mul_right _ hk
    rwa [Nat.succ_mul] at this
  apply List.ext_getElem?
  intro j
  rw [g2]
  have dm := Nat.div_add_mod j size
  have ml := Nat.mod_lt j hs
  rw [Nat.mul_comm] at dm
  by_cases hj1 : j / size = k
  · rw [hj1] at dm ⊢
    have hm : min (k * size) (es.length * size) = k * size := Nat.min_eq_left (by omega)
    rw [List.append_assoc, List.getElem?_append_right (by rw [List.length_take, l1]; omega), List.getElem?_append_left (by rw [List.length_take, l1]; omega)]
    rw [List.length_take, l1, hm, show j - k * size = j % size by omega]
    simp [hk]
  · have : (es.set k cs).getD (j / size) [] = es.getD (j / size) [] := by simp [List.getElem?_set_ne (Ne.symm hj1)]
    rw [this, ← g1]
    rcases Nat.lt_or_ge (j / size) k with hlt | hge
    · have : (j / size + 1) * size ≤ k * size := Nat.mul_le_mul_right _ hlt
      rw [Nat.succ_mul] at this
      rw [List.append_assoc, List.getElem?_append_left (by rw [List.length_take, l1]; omega), List.getElem?_take, if_pos (by omega)]
    · have hgt : k + 1 ≤ j / size := by omega
      have : (k + 1) * size ≤ j / size * size := Nat.mul_le_mul_right _ hgt
      rw [Nat.succ_mul] at this
      rw [List.getElem?_append_right (by rw [List.length_append, List.length_take, l1]; omega), List.getElem?_drop]
      congr 1
      rw [List.length_append, List.length_take, l1]
      omega
theorem sets4 {α : Type} (L : List α) (j : Nat) (a b c d : α) (h : j + 4 ≤ L.length) : (((L.set j a).set (j + 1) b).set (j + 2) c).set (j + 3) d = L.take j ++ [a, b, c, d] ++ L.drop (j + 4) := by
  apply List.ext_getElem?
  intro i
  rcases Nat.lt_or_ge i j with h1 | h1
  · rw [List.getElem?_set_ne (by omega), List.getElem?_set_ne (by omega), List.getElem?_set_ne (by omega), List.getElem?_set_ne (by omega), List.append_assoc, List.getElem?_append_left (by rw [List.length_take]; omega), List.getElem?_take, if_pos h1]
  · rw [List.append_assoc, List.getElem?_append_right (by rw [List.length_take]; omega), List.length_take, Nat.min_eq_left (by omega)]
    rcases Nat.lt_or_ge i (j + 4) with h2 | h2
    · rw [List.getElem?_append_left (by simp; omega)]
      obtain rfl | rfl | rfl | rfl : i = j ∨ i = j + 1 ∨ i = j + 2 ∨ i = j + 3 := by omega
      · rw [List.getElem?_set_ne (by omega), List.getElem?_set_ne (by omega), List.getElem?_set_ne (by omega), List.getElem?_set_self (by omega)]
        simp
      · rw [List.getElem?_set_ne (by omega), List.getElem?_set_ne (by omega), List.getElem?_set_self (by simp; omega), Nat.add_sub_cancel_left]
        rfl
      · rw [List.getElem?_set_ne (by omega), List.getElem?_set_self (by simp; omega), Nat.add_sub_cancel_left]
        rfl
      · rw [List.getElem?_set_self (by simp; omega), Nat.add_sub_cancel_left]
        rfl
    · rw [List.getElem?_append_right (by simp; omega), List.getElem?_drop]
      rw [List.getElem?_set_ne (by omega), List.getElem?_set_ne (by omega), List.getElem?_set_ne (by omega), List.getElem?_set_ne (by omega)]
      congr 1
      simp
      omega
/-- Four cells, one behind the other. -/
abbrev set4 (w : World) (g o : Nat) (u0 u1 u2 u3 : Value) : World := (((w.setCell ⟨g, o, none⟩ u0).setCell ⟨g, o + 1, none⟩ u1).setCell ⟨g, o + 2, none⟩ u2).setCell ⟨g, o + 3, none⟩ u3
theorem OwnSl.set4 {w : World} {B : Nat} {e : TypeId} {bytes g n c : Nat} {es : List (List Value)} (h : OwnSl w B e 4 bytes (.slice (some ⟨g, 0, none⟩) n c) es) (k : Nat) (hk : k < n) (u0 u1 u2 u3 : Value) :
    OwnSl (set4 w g (k * 4) u0 u1 u2 u3) B e 4 bytes (.slice (some ⟨g, 0, none⟩) n c) (es.set k [u0, u1, u2, u3]) := by
  have hlen : es.length = n := by obtain ⟨a', c', he⟩ := (h.sl (by decide)).slice; simp only [Value.slice.injEq] at he; omega
  obtain ⟨h1, h2, h3⟩ := h
  rw [hlen] at h1
  have f := (flat_get (size := 4) (by decide) es h3).1
  have hs := ((((h1.stored (k * 4) u0).1.stored (k * 4 + 1) u1).1.stored (k * 4 + 2) u2).1.stored (k * 4 + 3) u3).1
  rw [sets4 _ _ _ _ _ _ (by omega), ← flatten_set (by decide) es k [u0, u1, u2, u3] (by omega) h3 rfl] at hs
  refine ⟨by simpa [hlen] using hs, by simpa using h2, fun x hx => ?_⟩
  rcases List.mem_or_eq_of_mem_set hx with h' | rfl
  · exact h3 x h'
  · rfl
theorem set4_heap {w : World} {g o : Nat} {u0 u1 u2 u3 : Value} : ∀ b, b ≠ g → (set4 w g o u0 u1 u2 u3).heap[b]? = w.heap[b]? := by
  intro b hb
  simp [World.setCell, Array.getElem?_modify, Ne.symm hb]
theorem set4_size {w : World} {g o : Nat} {u0 u1 u2 u3 : Value} : (set4 w g o u0 u1 u2 u3).heap.size = w.heap.size := by simp [World.setCell]
theorem set4_below {B : Nat} {w w' : World} {g o : Nat} {u0 u1 u2 u3 : Value} (h : Below B w w') (hg : B ≤ g) : Below B w (set4 w' g o u0 u1 u2 u3) :=
  (((h.setCell (p := ⟨g, o, none⟩) hg _).setCell (p := ⟨g, o + 1, none⟩) hg _).setCell (p := ⟨g, o + 2, none⟩) hg _).setCell (p := ⟨g, o + 3, none⟩) hg _
end Go.Proofs.Ytcbljiiomnhbjaa
