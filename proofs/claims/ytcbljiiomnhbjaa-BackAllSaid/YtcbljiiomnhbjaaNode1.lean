/- Words on memory for trees: a slice of cells; a node's cells read as a tree. -/
import Derived.Test.YtcbljiiomnhbjaaRow
import Derived.Deep.MidRow
namespace Go.Proofs.Ytcbljiiomnhbjaa
set_option maxRecDepth 100000
open Go.RowKit

theorem range_below {B : Nat} {w w' : World} {b o : Nat} {cs : List Value} (h : w.rangeAt b o cs) (hb : Below B w w') (hB : w.heap.size ≤ B) : w'.rangeAt b o cs := fun j v hj => by
  have h1 := h j v hj
  exact (hb.cell (p := ⟨b, o + j, none⟩) (Nat.lt_of_lt_of_le (World.block_lt_of_cell? w _ h1) hB)).trans h1

/-- A slice whose elements have 'size' cells, and 'bytes' bytes, each; where it has elements they lie in a block that S allows. -/
def Sl (S : Nat → Prop) (w : World) (size bytes : Nat) (v : Value) (es : List (List Value)) : Prop :=
  ∃ (a : Option Addr) (cap : Nat), v = .slice a es.length cap ∧ es.length ≤ cap ∧ cap ≤ maxLen ∧ es.length * bytes ≤ 140737488351232 ∧ (∀ e ∈ es, e.length = size) ∧
    (0 < cap → ∃ b off, a = some ⟨b, off, none⟩ ∧ ∀ j, j < es.length → S b ∧ w.rangeAt b (off + j * size) (es.getD j []))
/-- Any block. -/
abbrev Any : Nat → Prop := fun _ => True

theorem Sl.later {S : Nat → Prop} {B : Nat} {w w' : World} {size bytes : Nat} {v : Value} {es : List (List Value)} (h : Sl S w size bytes v es) (hb : Below B w w') (hB : w.heap.size ≤ B) : Sl S w' size bytes v es := by
  obtain ⟨a, cap, h1, h2, h3, h4, h5, h6⟩ := h
  refine ⟨a, cap, h1, h2, h3, h4, h5, fun hp => ?_⟩
  obtain ⟨b, off, ha, hc⟩ := h6 hp
  exact ⟨b, off, ha, fun j hj => ⟨(hc j hj).1, range_below (hc j hj).2 hb hB⟩⟩
theorem range_keep {w w' : World} {b o : Nat} {cs : List Value} (h : w.rangeAt b o cs) (hk : w'.heap[b]? = w.heap[b]?) : w'.rangeAt b o cs := fun j v hj =>
  (World.cell?_of_block (w := w) (a := ⟨b, o + j, none⟩) hk).trans (h j v hj)
theorem Sl.keep {S : Nat → Prop} {w w' : World} {size bytes : Nat} {v : Value} {es : List (List Value)} (h : Sl S w size bytes v es) (hk : ∀ b, S b → w'.heap[b]? = w.heap[b]?) : Sl S w' size bytes v es := by
  obtain ⟨a, cap, h1, h2, h3, h4, h5, h6⟩ := h
  refine ⟨a, cap, h1, h2, h3, h4, h5, fun hp => ?_⟩
  obtain ⟨b, off, ha, hc⟩ := h6 hp
  exact ⟨b, off, ha, fun j hj => ⟨(hc j hj).1, range_keep (hc j hj).2 (hk b (hc j hj).1)⟩⟩
theorem Sl.weaken {S T : Nat → Prop} {w : World} {size bytes : Nat} {v : Value} {es : List (List Value)} (h : Sl S w size bytes v es) (hst : ∀ b, S b → T b) : Sl T w size bytes v es := by
  obtain ⟨a, cap, h1, h2, h3, h4, h5, h6⟩ := h
  refine ⟨a, cap, h1, h2, h3, h4, h5, fun hp => ?_⟩
  obtain ⟨b, off, ha, hc⟩ := h6 hp
  exact ⟨b, off, ha, fun j hj => ⟨hst b (hc j hj).1, (hc j hj).2⟩⟩
/-- The blocks are there. -/
theorem Sl.there {S : Nat → Prop} {w : World} {size bytes : Nat} {v : Value} {es : List (List Value)} (h : Sl S w size bytes v es) (hs : 0 < size) : Sl (fun b => S b ∧ b < w.heap.size) w size bytes v es := by
  obtain ⟨a, cap, h1, h2, h3, h4, h5, h6⟩ := h
  refine ⟨a, cap, h1, h2, h3, h4, h5, fun hp => ?_⟩
  obtain ⟨b, off, ha, hc⟩ := h6 hp
  refine ⟨b, off, ha, fun j hj => ⟨⟨(hc j hj).1, ?_⟩, (hc j hj).2⟩⟩
  have hl : (es.getD j []).length = size := h5 _ (by simp [hj])
  obtain ⟨c, hc0⟩ : ∃ c, (es.getD j [])[0]? = some c := ⟨(es.getD j [])[0]'(by omega), by simp⟩
  exact World.block_lt_of_cell? w ⟨b, off + j * size + 0, none⟩ ((hc j hj).2 0 c hc0)
theorem Sl.nil (S : Nat → Prop) (w : World) (size bytes : Nat) : Sl S w size bytes (.slice none 0 0) [] := ⟨none, 0, rfl, Nat.le_refl _, by unfold maxLen; omega, by simp, by simp, fun h => by omega⟩
theorem Sl.slice {S : Nat → Prop} {w : World} {size bytes : Nat} {v : Value} {es : List (List Value)} (h : Sl S w size bytes v es) : ∃ a cap, v = .slice a es.length cap := by
  obtain ⟨a, cap, rfl, _⟩ := h
  exact ⟨a, cap, rfl⟩
theorem Sl.slice3 {S : Nat → Prop} {w : World} {size bytes : Nat} {v : Value} {es : List (List Value)} (h : Sl S w size bytes v es) : ∃ a n cap, v = .slice a n cap := by
  obtain ⟨a, cap, rfl, _⟩ := h
  exact ⟨a, _, cap, rfl⟩
theorem Sl.len {S : Nat → Prop} {w : World} {size bytes : Nat} {v : Value} {es : List (List Value)} (h : Sl S w size bytes v es) : es.length * bytes ≤ 140737488351232 := by
  obtain ⟨_, _, _, _, _, h, _⟩ := h
  exact h
/-- An element. -/
theorem Sl.at_ {S : Nat → Prop} {w : World} {size bytes : Nat} {a : Option Addr} {n cap : Nat} {es : List (List Value)} (h : Sl S w size bytes (.slice a n cap) es) (i : Nat) (hi : i < n) :
    ∃ b off, a = some ⟨b, off, none⟩ ∧ n ≤ cap ∧ S b ∧ w.rangeAt b (off + i * size) (es.getD i []) ∧ (es.getD i []).length = size := by
  obtain ⟨a', cap', he, h2, h3, h4, h5, h6⟩ := h
  simp only [Value.slice.injEq] at he
  obtain ⟨rfl, rfl, rfl⟩ := he
  obtain ⟨b, off, rfl, hc⟩ := h6 (by omega)
  refine ⟨b, off, rfl, h2, (hc i hi).1, (hc i hi).2, h5 _ ?_⟩
  simp [hi]

/-- As what is appended: all cells, one behind the other. -/
theorem flat_get {size : Nat} (hs : 0 < size) : ∀ (es : List (List Value)), (∀ e ∈ es, e.length = size) → es.flatten.length = es.length * size ∧ ∀ j, es.flatten[j]? = (es.getD (j / size) [])[j % size]?
  | [], _ => ⟨by simp, fun j => by simp⟩
  | e :: es, h => by
    have he : e.length = size := h e (by simp)
    obtain ⟨i1, i2⟩ := flat_get hs es (fun x hx => h x (by simp [hx]))
    refine ⟨by simp [i1, he, Nat.succ_mul]; omega, fun j => ?_⟩
    rw [List.flatten_cons, List.getElem?_append]
    split
    · rename_i hj
      rw [he] at hj
      rw [Nat.div_eq_of_lt hj, Nat.mod_eq_of_lt hj]
      rfl
    · rename_i hj
      rw [he] at hj ⊢
      have hj' : size ≤ j := by omega
      rw [i2, ← Nat.mod_eq_sub_mod hj']
      have : j / size = (j - size) / size + 1 := by rw [Nat.div_eq_sub_div hs hj']
      rw [this]
      rfl
theorem Sl.src {S : Nat → Prop} {w : World} {size bytes : Nat} {a : Option Addr} {n cap : Nat} {es : List (List Value)} (h : Sl S w size bytes (.slice a n cap) es) (hs : 0 < size) :
    es.length = n ∧ es.flatten.length = n * size ∧ (a = none → n = 0 ∧ cap = 0) ∧ ∀ ad, a = some ad → ∀ j u, es.flatten[j]? = some u → w.cell? (ad.add j) = some u := by
  obtain ⟨a', cap', he, h2, h3, h4, h5, h6⟩ := h
  simp only [Value.slice.injEq] at he
  obtain ⟨rfl, rfl, rfl⟩ := he
  obtain ⟨f1, f2⟩ := flat_get hs es h5
  refine ⟨rfl, f1, fun hn => ?_, fun ad had j u hu => ?_⟩
  · subst hn
    rcases Nat.eq_zero_or_pos cap with h0 | hp
    · exact ⟨by omega, h0⟩
    · obtain ⟨b, off, hbo, _⟩ := h6 hp
      cases hbo
  · have hj : j < es.length * size := by rw [← f1]; exact (List.getElem?_eq_some_iff.1 hu).1
    have hd : j / size < es.length := Nat.div_lt_of_lt_mul (by rw [Nat.mul_comm]; exact hj)
    have hz : 0 < es.length := Nat.lt_of_le_of_lt (Nat.zero_le _) hd
    obtain ⟨b, off, rfl, hc⟩ := h6 (by omega)
    obtain rfl := Option.some.inj had
    rw [f2] at hu
    have := (hc (j / size) hd).2 (j % size) u hu
    rw [Addr.add_lit, ← this]
    congr 2
    have := Nat.div_add_mod j size
    rw [Nat.mul_comm] at this
    omega

/-- A tree. -/
inductive Tree where
  | mk (leaf : Bool) (props : List (ByteArray × ByteArray)) (text : List Int) (kids : List Tree)
instance : Inhabited Tree := ⟨.mk false [] [] []⟩
def Tree.leaf : Tree → Bool | .mk l _ _ _ => l
def Tree.props : Tree → List (ByteArray × ByteArray) | .mk _ p _ _ => p
def Tree.text : Tree → List Int | .mk _ _ t _ => t
def Tree.kids : Tree → List Tree | .mk _ _ _ k => k
theorem Tree.eta (t : Tree) : t = .mk t.leaf t.props t.text t.kids := by cases t; rfl

def propCells (p : ByteArray × ByteArray) : List Value := [.string p.1, .string p.2]
def runeCells (x : Int) : List Value := [.int .i32 x]
abbrev PropsAt (S : Nat → Prop) (w : World) (v : Value) (ps : List (ByteArray × ByteArray)) : Prop := Sl S w 2 32 v (ps.map propCells)
abbrev TextAt (S : Nat → Prop) (w : World) (v : Value) (xs : List Int) : Prop := Sl S w 1 4 v (xs.map runeCells)

/-- A node's four cells read as a tree, whose slices lie in blocks that S allows. -/
inductive NodeAt (S : Nat → Prop) (w : World) : List Value → Tree → Prop
  | mk {l : Bool} {ps : List (ByteArray × ByteArray)} {xs : List Int} {ks : List Tree} {pv tv kv : Value} {es : List (List Value)}
      (hp : PropsAt S w pv ps) (ht : TextAt S w tv xs) (hk : Sl S w 4 80 kv es) (hl : es.length = ks.length) (hall : ∀ i, i < ks.length → NodeAt S w (es.getD i []) (ks.getD i default)) :
      NodeAt S w [.bool l, pv, tv, kv] (.mk l ps xs ks)

theorem NodeAt.later {S : Nat → Prop} {B : Nat} {w w' : World} {cs : List Value} {t : Tree} (h : NodeAt S w cs t) (hb : Below B w w') (hB : w.heap.size ≤ B) : NodeAt S w' cs t := by
  induction h with
  | mk hp ht hk hl _ ih => exact .mk (hp.later hb hB) (ht.later hb hB) (hk.later hb hB) hl ih
theorem NodeAt.keep {S : Nat → Prop} {w w' : World} {cs : List Value} {t : Tree} (h : NodeAt S w cs t) (hk : ∀ b, S b → w'.heap[b]? = w.heap[b]?) : NodeAt S w' cs t := by
  induction h with
  | mk hp ht hs hl _ ih => exact .mk (hp.keep hk) (ht.keep hk) (hs.keep hk) hl ih
theorem NodeAt.weaken {S T : Nat → Prop} {w : World} {cs : List Value} {t : Tree} (h : NodeAt S w cs t) (hst : ∀ b, S b → T b) : NodeAt T w cs t := by
  induction h with
  | mk hp ht hs hl _ ih => exact .mk (hp.weaken hst) (ht.weaken hst) (hs.weaken hst) hl ih
theorem NodeAt.there {S : Nat → Prop} {w : World} {cs : List Value} {t : Tree} (h : NodeAt S w cs t) : NodeAt (fun b => S b ∧ b < w.heap.size) w cs t := by
  induction h with
  | mk hp ht hs hl _ ih => exact .mk (hp.there (by decide)) (ht.there (by decide)) (hs.there (by decide)) hl ih
theorem NodeAt.same {S : Nat → Prop} {w w' : World} {cs : List Value} {t : Tree} (h : NodeAt S w cs t) (hs : Same w w') : NodeAt S w' cs t := h.later (hs.below _) (Nat.le_refl _)
theorem NodeAt.alloc {S : Nat → Prop} {w : World} {cs : List Value} {t : Tree} (h : NodeAt S w cs t) (o : Obj) : NodeAt S (w.alloc o) cs t := h.later (gr_al (gr_refl w) o) (Nat.le_refl _)
theorem NodeAt.open_ {S : Nat → Prop} {w : World} {cs : List Value} {t : Tree} (h : NodeAt S w cs t) : ∃ pv tv kv es, cs = [.bool t.leaf, pv, tv, kv] ∧ PropsAt S w pv t.props ∧ TextAt S w tv t.text ∧ Sl S w 4 80 kv es ∧ es.length = t.kids.length ∧ ∀ i, i < t.kids.length → NodeAt S w (es.getD i []) (t.kids.getD i default) := by
  cases h with
  | mk hp ht hk hl hall => exact ⟨_, _, _, _, rfl, hp, ht, hk, hl, hall⟩
theorem NodeAt.mk' {S : Nat → Prop} {w : World} {l : Bool} {pv tv kv : Value} {t : Tree} {es : List (List Value)} (hb : l = t.leaf) (hp : PropsAt S w pv t.props) (ht : TextAt S w tv t.text) (hk : Sl S w 4 80 kv es) (hl : es.length = t.kids.length)
    (hall : ∀ i, i < t.kids.length → NodeAt S w (es.getD i []) (t.kids.getD i default)) : NodeAt S w [.bool l, pv, tv, kv] t := by
  subst hb
  cases t
  exact .mk hp ht hk hl hall

/-- Trees, by induction. -/
theorem Tree.ind {P : Tree → Prop} (h : ∀ l ps xs ks, (∀ k ∈ ks, P k) → P (.mk l ps xs ks)) : ∀ t, P t := fun t =>
  Tree.rec (motive_1 := P) (motive_2 := fun ks => ∀ k ∈ ks, P k) (fun l ps xs ks ih => h l ps xs ks ih) (by simp) (fun k ks h1 h2 => by
    intro x hx
    rcases List.mem_cons.1 hx with rfl | hx
    · exact h1
    · exact h2 x hx) t
end Go.Proofs.Ytcbljiiomnhbjaa
