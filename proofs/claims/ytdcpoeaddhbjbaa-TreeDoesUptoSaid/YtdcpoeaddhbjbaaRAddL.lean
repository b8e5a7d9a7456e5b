/- Words on memory: parts of a row of nodes; a row built by three appends; a node with a child put in, or taken out. -/
import Derived.Test.YtdcpoeaddhbjbaaRPut
import Derived.Test.YtdcpoeaddhbjbaaAdd
namespace Go.Proofs.Ytdcpoeaddhbjbaa
set_option maxRecDepth 100000
open Go.RowKit

/-- The front of a row, as Go slices it. -/
theorem Sl.take {S : Nat → Prop} {w : World} {size bytes : Nat} {a : Option Addr} {n cap k : Nat} {es : List (List Value)} (h : Sl S w size bytes (.slice a n cap) es) (hk : k ≤ n) : Sl S w size bytes (.slice a k cap) (es.take k) := by
  obtain ⟨a', cap', he, h2, h3, h4, h5, h6⟩ := h
  simp only [Value.slice.injEq] at he
  obtain ⟨rfl, rfl, rfl⟩ := he
  have hl : (es.take k).length = k := by simp; omega
  refine ⟨a, cap, by rw [hl], by omega, h3, ?_, fun e he => h5 e (List.mem_of_mem_take he), fun hp => ?_⟩
  · rw [hl]; exact Nat.le_trans (Nat.mul_le_mul_right _ hk) h4
  · obtain ⟨b, off, rfl, hc⟩ := h6 hp
    refine ⟨b, off, rfl, fun j hj => ?_⟩
    have := hc j (by omega)
    have e : (es.take k).getD j [] = es.getD j [] := by simp [show j < k by omega]
    rwa [e]
/-- The end of a row, as Go slices it. -/
theorem Sl.drop {S : Nat → Prop} {w : World} {size bytes b off n cap k : Nat} {es : List (List Value)} (h : Sl S w size bytes (.slice (some ⟨b, off, none⟩) n cap) es) (hk : k ≤ n) : Sl S w size bytes (.slice (some ⟨b, off + k * size, none⟩) (n - k) (cap - k)) (es.drop k) := by
  obtain ⟨a', cap', he, h2, h3, h4, h5, h6⟩ := h
  simp only [Value.slice.injEq] at he
  obtain ⟨rfl, rfl, rfl⟩ := he
  have hl : (es.drop k).length = es.length - k := by simp
  refine ⟨_, cap - k, by rw [hl], by omega, by omega, ?_, fun e he => h5 e (List.mem_of_mem_drop he), fun hp => ?_⟩
  · rw [hl]; exact Nat.le_trans (Nat.mul_le_mul_right _ (Nat.sub_le _ _)) h4
  · obtain ⟨b', off', e, hc⟩ := h6 (by omega)
    simp only [Option.some.injEq, Addr.mk.injEq] at e
    obtain ⟨rfl, rfl, -⟩ := e
    refine ⟨b, off + k * size, rfl, fun j hj => ?_⟩
    have := hc (k + j) (by omega)
    have e : (es.drop k).getD j [] = es.getD (k + j) [] := by simp
    rw [e, show off + k * size + j * size = off + (k + j) * size by rw [Nat.add_mul]; omega]
    exact this
theorem Sl.drop_end {S : Nat → Prop} {w : World} {size bytes : Nat} {a : Option Addr} {n cap k : Nat} {es : List (List Value)} (h : Sl S w size bytes (.slice a n cap) es) (hk : n ≤ k) : Sl S w size bytes (.slice a 0 0) (es.drop k) := by
  obtain ⟨a', cap', he, h2, h3, h4, h5, h6⟩ := h
  simp only [Value.slice.injEq] at he
  obtain ⟨rfl, rfl, rfl⟩ := he
  rw [List.drop_of_length_le hk]
  exact ⟨a, 0, rfl, Nat.le_refl _, by unfold maxLen; omega, by simp, by simp, fun h => by omega⟩
/-- The end of a row wherever it is cut: the slice that Go makes. -/
theorem Sl.tail {S : Nat → Prop} {w : World} {size bytes : Nat} {a : Option Addr} {n cap k : Nat} {es : List (List Value)} (h : Sl S w size bytes (.slice a n cap) es) (hk : k ≤ n) :
    (k < cap → ∃ b off, a = some ⟨b, off, none⟩ ∧ Sl S w size bytes (.slice (some ⟨b, off + k * size, none⟩) (n - k) (cap - k)) (es.drop k)) ∧ (k = cap → n = k ∧ Sl S w size bytes (.slice a 0 0) (es.drop k)) := by
  have hc : n ≤ cap ∧ (0 < cap → ∃ b off, a = some ⟨b, off, none⟩) := by
    obtain ⟨a', cap', he, h2, h3, h4, h5, h6⟩ := id h
    simp only [Value.slice.injEq] at he
    obtain ⟨rfl, rfl, rfl⟩ := he
    exact ⟨h2, fun hp => by obtain ⟨b, off, e, _⟩ := h6 hp; exact ⟨b, off, e⟩⟩
  refine ⟨fun hlt => ?_, fun he => ⟨by omega, h.drop_end (by omega)⟩⟩
  obtain ⟨b, off, rfl⟩ := hc.2 (by omega)
  exact ⟨b, off, rfl, h.drop hk⟩

/-- What an append leaves. -/
theorem own_app {W w0 w1 : World} {v0 v1 : Value} {n m : Nat} {es fs : List (List Value)} (ho : OwnSl w0 W.heap.size 26 4 80 v0 es) (hl : Below W.heap.size W w0) (hg : w0.grownBy w1 v0.ownBlock)
    (hown : w1.ownsRow W.heap.size 26 4 v1 (n + m) (es.flatten ++ fs.flatten)) (hn : es.length = n) (hm : fs.length = m) (hb : (n + m) * 80 ≤ 140737488351232) (hf : ∀ x ∈ fs, x.length = 4) :
    OwnSl w1 W.heap.size 26 4 80 v1 (es ++ fs) ∧ Below W.heap.size W w1 := by
  subst hn hm
  refine ⟨⟨by simpa using hown, by simpa using hb, fun x hx => ?_⟩, hl.grown hg hl.size fun g h => (ho.lt g h).1⟩
  rcases List.mem_append.1 hx with h | h
  · exact ho.2.2 x h
  · exact hf x h

/-- A node whose row of children is one of the call's own. -/
theorem kids_node {S : Nat → Prop} {w : World} {B : Nat} {l : Bool} {pv tv kv kv' : Value} {s : Tree} {es' : List (List Value)} {ks' : List Tree} (h : NodeAt S w [.bool l, pv, tv, kv] s) (ho : OwnSl w B 26 4 80 kv' es') (hB : ∀ b, B ≤ b → S b) (hl : es'.length = ks'.length)
    (hall : ∀ i, i < ks'.length → NodeAt S w (es'.getD i []) (ks'.getD i default)) : NodeAt S w [.bool l, pv, tv, kv'] (.mk s.leaf s.props s.text ks') := by
  obtain ⟨pv', tv', kv2, es, he, h1, h2, h3, _, _⟩ := h.open_
  simp only [List.cons.injEq, Value.bool.injEq, and_true] at he
  obtain ⟨rfl, rfl, rfl, rfl⟩ := he
  exact NodeAt.mk' rfl h1 h2 ((ho.sl (by decide)).weaken hB) hl hall
theorem ins_eq {α : Type} (L : List α) (i : Nat) (x : α) (hi : i ≤ L.length) : L.take i ++ [x] ++ L.drop i = L.insertIdx i x := by
  induction i generalizing L with
  | zero => simp
  | succ i ih =>
    cases L with
    | nil => simp at hi
    | cons y L =>
      simp only [List.length_cons, Nat.add_le_add_iff_right] at hi
      simpa using ih L hi
theorem ins_nodes_at {S : Nat → Prop} {w : World} {es : List (List Value)} {ks : List Tree} {cs : List Value} {m : Tree} {k : Nat} (hl : es.length = ks.length) (hk : k ≤ ks.length) (hall : ∀ i, i < ks.length → NodeAt S w (es.getD i []) (ks.getD i default)) (hm : NodeAt S w cs m) :
    ∀ i, i < (ks.insertIdx k m).length → NodeAt S w ((es.insertIdx k cs).getD i []) ((ks.insertIdx k m).getD i default) := by
  intro i hi
  rw [List.length_insertIdx, if_pos hk] at hi
  rw [getD_insert _ _ _ _ _ (by omega), getD_insert _ _ _ _ _ hk]
  split
  · exact hall i (by omega)
  · split
    · exact hm
    · exact hall _ (by omega)
theorem cut_nodes_at {S : Nat → Prop} {w : World} {es : List (List Value)} {ks : List Tree} {k : Nat} (hk : k < ks.length) (hall : ∀ i, i < ks.length → NodeAt S w (es.getD i []) (ks.getD i default)) :
    ∀ i, i < (ks.eraseIdx k).length → NodeAt S w ((es.eraseIdx k).getD i []) ((ks.eraseIdx k).getD i default) := by
  intro i hi
  rw [List.length_eraseIdx, if_pos hk] at hi
  rw [getD_erase, getD_erase]
  split <;> exact hall _ (by omega)
theorem cut_eq {α : Type} (L : List α) (i : Nat) : L.take i ++ L.drop (i + 1) = L.eraseIdx i := (List.eraseIdx_eq_take_drop_succ L i).symm
theorem set3_block {w' : World} {g : Nat} {x0 x1 x2 x3 : Value} {t : TypeId} {fr : Nat × Nat} (h : w'.heap[g]? = some (.cells #[x0, x1, x2, x3] t fr)) (u : Value) : (w'.setCell ⟨g, 3, none⟩ u).heap[g]? = some (.cells #[x0, x1, x2, u] t fr) := by
  simp [World.setCell, Array.getElem?_modify, h]
/-- The node with a child put in, where its box has been stored into. -/
theorem radd_node {V w6 : World} {g k : Nat} {l : Bool} {pv tv kv v3 : Value} {s m : Tree} {es : List (List Value)} {cs : List Value} {F : Nat → Prop} (hN : NodeAt (fun b => b ≠ g) V [.bool l, pv, tv, kv] s) (hl : es.length = s.kids.length) (hk : k ≤ s.kids.length)
    (hall : ∀ i, i < s.kids.length → NodeAt (fun b => b ≠ g) V (es.getD i []) (s.kids.getD i default)) (hm : NodeAt F w6 cs m) (hF : ∀ b, F b → b ≠ g) (ho : OwnSl w6 V.heap.size 26 4 80 v3 (es.insertIdx k cs)) (h6 : Below V.heap.size V w6) (hg : g < V.heap.size) :
    NodeAt (fun b => b ≠ g) (w6.setCell ⟨g, 3, none⟩ v3) [.bool l, pv, tv, v3] (.mk s.leaf s.props s.text (s.kids.insertIdx k m)) := by
  have hs : ∀ b, b ≠ g → (w6.setCell ⟨g, 3, none⟩ v3).heap[b]? = w6.heap[b]? := fun b hb => Below.heap_setCell _ _ _ _ hb
  refine kids_node ((hN.later h6 (Nat.le_refl _)).keep hs) (ho.keep fun b hb => hs b (by have := (ho.lt b hb).1; omega)) (fun b hb => by omega) (by rw [List.length_insertIdx, List.length_insertIdx, hl]) (ins_nodes_at hl hk (fun i hi => ((hall i hi).later h6 (Nat.le_refl _)).keep hs) ((hm.weaken hF).keep hs))
/-- The node with a child taken out. -/
theorem rcut_node {V w6 : World} {g k : Nat} {l : Bool} {pv tv kv v3 : Value} {s : Tree} {es : List (List Value)} (hN : NodeAt (fun b => b ≠ g) V [.bool l, pv, tv, kv] s) (hl : es.length = s.kids.length) (hk : k < s.kids.length)
    (hall : ∀ i, i < s.kids.length → NodeAt (fun b => b ≠ g) V (es.getD i []) (s.kids.getD i default)) (ho : OwnSl w6 V.heap.size 26 4 80 v3 (es.eraseIdx k)) (h6 : Below V.heap.size V w6) (hg : g < V.heap.size) :
    NodeAt (fun b => b ≠ g) (w6.setCell ⟨g, 3, none⟩ v3) [.bool l, pv, tv, v3] (.mk s.leaf s.props s.text (s.kids.eraseIdx k)) := by
  have hs : ∀ b, b ≠ g → (w6.setCell ⟨g, 3, none⟩ v3).heap[b]? = w6.heap[b]? := fun b hb => Below.heap_setCell _ _ _ _ hb
  refine kids_node ((hN.later h6 (Nat.le_refl _)).keep hs) (ho.keep fun b hb => hs b (by have := (ho.lt b hb).1; omega)) (fun b hb => by omega) (by rw [List.length_eraseIdx, List.length_eraseIdx, hl]) (cut_nodes_at hk fun i hi => ((hall i hi).later h6 (Nat.le_refl _)).keep hs)
end Go.Proofs.Ytdcpoeaddhbjbaa
