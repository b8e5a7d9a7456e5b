/- Walk of slices.Insert at []api.Node: one element into a row of the call's own. -/
import Derived.Test.YtdcpoeaddhbjbaaMem4
import Derived.Deep.AppendLies
import Derived.Deep.RegionLaw
import Derived.Lib.AppendZerosOnto
import Derived.Lib.Overlaps
import Derived.Laws.Externs
import Derived.Laws.NewBlocks
namespace Go.Proofs.Ytdcpoeaddhbjbaa
set_option maxRecDepth 100000
open Go.RowKit

/-- 'copy' where its run is known by an equation, in a plain region and in one that draws. -/
theorem wpList_copy_eq {P : Program} (w : World) {ops : Array Oper} {rest : List Oper} {o : Oper} {a : Act} {Q : Exit → Act → World → Prop} (hgd : o.guard = none) (d s : Operand) (t t' : TypeId)
    (ho : o.op = .call { callee := .builtin .copy, args := #[d, s], argTypes := #[t, t'] }) (v u : Value) (hd : a.eval d = v) (hs : a.eval s = u) {v' : Value} {w' : World}
    (hr : (Builtin.copy_ #[t, t'] o.type #[v, u]).run P w = .ok v' w') (h : wpList P ops Q rest (a.put o.dst v') w') : wpList P ops Q (o :: rest) a w :=
  wpList_plain hgd fun K hK => by
    unfold Oper.wp execOp
    simp only [ho, resolve, invoke, builtin, Sem.run_bind, Sem.run_pure, Result.andThen_ok, List.map_toArray, List.map_cons, List.map_nil, hd, hs, hr]
    exact hK _ _ h
theorem step_copy_eq {P : Program} {ops : Array Oper} {o : Oper} {a : Act} {w : World} {K : Act → World → Prop} {Q : Exit → Act → World → Prop} {E : Prop}
    (hg : o.guard = none) (d x : Operand) (dT sT : TypeId) (hop : o.op = Op.call { callee := Callee.builtin Builtin.copy, args := #[d, x], argTypes := #[dT, sT] })
    (v u : Value) (hd : a.eval d = v) (hx : a.eval x = u) {v' : Value} {w' : World} (hr : (Builtin.copy_ #[dT, sT] o.type #[v, u]).run P w = .ok v' w') (hK : K (a.put o.dst v') w') :
    if Region.wanted o (yielded ops a.tmps) = true then Oper.wp P o a w K Q else E := by
  have hw : Region.wanted o (yielded ops a.tmps) = true := by simp [Region.wanted, hg]
  rw [if_pos hw]
  unfold Oper.wp
  simp [execOp, hop, resolve, invoke, builtin, hd, hx, hr, Result.andThen]
  exact hK

theorem insertIdx_eq {α : Type} : ∀ (i : Nat) (es : List α) (c : α), i ≤ es.length → es.insertIdx i c = es.take i ++ c :: es.drop i
  | 0, es, c, _ => by simp
  | i + 1, [], c, h => by simp at h
  | i + 1, e :: es, c, h => by simp [List.insertIdx_succ_cons, insertIdx_eq i es c (by simpa using h)]
/-- A row whose first elements are a list's, with one put in: the cells. -/
theorem ins_flat {es : List (List Value)} {cs : List Value} {n i : Nat} (h3 : ∀ x ∈ es, x.length = 4) (hlen : es.length = n) (hi : i ≤ n) (hc : cs.length = 4) :
    (es.insertIdx i cs).length = n + 1 ∧ (es.insertIdx i cs).flatten = (es.take i).flatten ++ (cs ++ (es.drop i).flatten) ∧ (∀ x ∈ es.insertIdx i cs, x.length = 4) ∧ (es.take i).flatten.length = i * 4 ∧ (es.drop i).flatten.length = (n - i) * 4 ∧
      es.flatten = (es.take i).flatten ++ (es.drop i).flatten := by
  have e : es.insertIdx i cs = es.take i ++ cs :: es.drop i := insertIdx_eq i es cs (by omega)
  refine ⟨by rw [List.length_insertIdx, if_pos (by omega), hlen], by rw [e, List.flatten_append, List.flatten_cons], fun x hx => ?_, ?_, ?_, by rw [← List.flatten_append, List.take_append_drop]⟩
  · rw [e] at hx
    rcases List.mem_append.1 hx with h | h
    · exact h3 x (List.mem_of_mem_take h)
    · rcases List.mem_cons.1 h with rfl | h
      · exact hc
      · exact h3 x (List.mem_of_mem_drop h)
  · rw [(flat_get (size := 4) (by decide) _ (fun x hx => h3 x (List.mem_of_mem_take hx))).1, List.length_take, hlen, Nat.min_eq_left hi]
  · rw [(flat_get (size := 4) (by decide) _ (fun x hx => h3 x (List.mem_of_mem_drop hx))).1, List.length_drop, hlen]

/-- What the insert in place leaves. -/
theorem ins_row {w : World} {B g n c i : Nat} {e : TypeId} {es : List (List Value)} {cs : List Value} (h : OwnSl w B e 4 80 (.slice (some ⟨g, 0, none⟩) n c) es) (hi : i ≤ n) (hc : cs.length = 4) (hroom : n + 1 ≤ c) (hb : (n + 1) * 80 ≤ 140737488351232) :
    OwnSl ((w.setCells g ((i + 1) * 4) (es.drop i).flatten).setCells g (i * 4) cs) B e 4 80 (.slice (some ⟨g, 0, none⟩) (n + 1) c) (es.insertIdx i cs) := by
  have hlen : es.length = n := by obtain ⟨a', c', he⟩ := (h.sl (by decide)).slice; simp only [Value.slice.injEq] at he; omega
  obtain ⟨⟨hl1, h1⟩, h2, h3⟩ := h
  obtain ⟨q1, q2, q3, q4, q5, q6⟩ := ins_flat (cs := cs) h3 hlen hi hc
  rcases h1 with ⟨h0, _⟩ | ⟨g', cap, cur, hv, hB, hg, hn, hm, hs, ht⟩
  · cases h0
  · simp only [Value.slice.injEq, Option.some.injEq, Addr.mk.injEq] at hv
    obtain ⟨⟨rfl, -⟩, -, rfl⟩ := hv
    rw [hlen] at ht hn
    have hcs : (n + 1) * 4 ≤ cur.size := by rw [hs]; exact Nat.mul_le_mul_right _ hroom
    obtain ⟨cur1, a1, a2, a3⟩ := setCells_block g (es.drop i).flatten ((i + 1) * 4) w cur e (0, 0) hg (by rw [q5]; omega)
    obtain ⟨cur2, b1, b2, b3⟩ := setCells_block g cs (i * 4) _ cur1 e (0, 0) a1 (by omega)
    refine ⟨⟨by rw [q1, q2]; simp only [List.length_append]; omega, .inr ⟨g, c, cur2, by rw [q1], hB, b1, by rw [q1]; omega, hm, by omega, ?_⟩⟩, by rw [q1]; exact hb, q3⟩
    rw [q1, q2]
    apply List.ext_getElem?
    intro j
    by_cases hj : j < (n + 1) * 4
    · rw [List.getElem?_take, if_pos hj, b3]
      by_cases h4 : i * 4 ≤ j ∧ j < i * 4 + cs.length
      · rw [if_pos h4, List.getElem?_append_right (by omega), q4, List.getElem?_append_left (by omega)]
      · rw [if_neg h4, a3]
        by_cases hji : j < i * 4
        · rw [if_neg (by omega), List.getElem?_append_left (by omega)]
          have e2 : (cur.toList.take (n * 4))[j]? = es.flatten[j]? := by rw [ht]
          rw [List.getElem?_take, if_pos (by omega), q6, List.getElem?_append_left (by omega)] at e2
          exact e2
        · rw [if_pos (by omega), List.getElem?_append_right (by omega), q4, List.getElem?_append_right (by omega)]
          congr 1
          omega
    · rw [List.getElem?_eq_none (by rw [List.length_take]; omega), List.getElem?_eq_none (by simp only [List.length_append]; omega)]

/-- What the insert leaves. -/
def Inserted (B : Nat) (es : List (List Value)) (i : Nat) (cs : List Value) (v : Value) (w : World) (e : Ending) (w' : World) : Prop :=
  ∃ v', e = .returned v' ∧ OwnSl w' B 26 4 80 v' (es.insertIdx i cs) ∧ w.heap.size ≤ w'.heap.size ∧ (∀ x, x < w.heap.size → v.ownBlock ≠ some x → w'.heap[x]? = w.heap[x]?) ∧ (∀ C, C ≤ w.heap.size → (∀ g, v.ownBlock = some g → C ≤ g) → Below C w w') ∧
    ∀ g, v'.ownBlock = some g → v.ownBlock = some g ∨ w.heap.size ≤ g

theorem inserted_of {B n g cap : Nat} {es : List (List Value)} {cs : List Value} {v : Value} {w w' : World} {xs : List Value} (hlen : es.length = n) (h3 : ∀ x ∈ es, x.length = 4) (hc : cs.length = 4) (hb : (n + 1) * 80 ≤ 140737488351232)
    (hx : xs = es.flatten ++ cs) (hown : w'.ownsRow B 26 4 (.slice (some ⟨g, 0, none⟩) (n + 1) cap) (n + 1) xs) (hg : w.grownBy w' v.ownBlock) (hat : v.ownBlock = some g ∨ g = w.heap.size) :
    Inserted B es n cs v w (.returned (.slice (some ⟨g, 0, none⟩) (n + 1) cap)) w' := by
  obtain ⟨q1, q2, q3, q4, q5, q6⟩ := ins_flat (cs := cs) h3 hlen (Nat.le_refl n) hc
  have e : (es.insertIdx n cs).flatten = es.flatten ++ cs := by
    rw [q2]
    rw [List.take_of_length_le (by omega), List.drop_of_length_le (by omega)]
    simp
  refine ⟨_, rfl, ⟨by rw [q1, e, ← hx]; exact hown, by rw [q1]; exact hb, q3⟩, hg.size, fun x hx' hne => hg.block x hx' (Ne.symm hne), fun C hC hCg => (Below.refl C w).grown hg hC hCg, fun g' hg' => ?_⟩
  simp only [Value.ownBlock, Option.some.injEq] at hg'
  subst hg'
  rcases hat with h | h
  · exact .inl h
  · exact .inr (by omega)

set_option maxHeartbeats 4000000 in
set_option maxRecDepth 100000 in
/-- At the end. -/
theorem ins_end (es : List (List Value)) (cs : List Value) (B vb n c : Nat) (a : Option Addr) (x : Int) (w : World) (h : OwnSl w B 26 4 80 (.slice a n c) es) (hx : x = n) (hB : B ≤ w.heap.size) (hcl : cs.length = 4)
    (hv : w.rangeAt vb 0 cs) (h1v : ∀ u ∈ cs, u.oneCell' = true) (hb : (n + 1) * 80 ≤ 140737488351232) :
    Calls Try.prog 96 #[.slice a n c, .int .i64 x, .slice (some ⟨vb, 0, none⟩) 1 1] w (Inserted B es n cs (.slice a n c) w) := by
  subst hx
  have hlen : es.length = n := by obtain ⟨a', c', he⟩ := (h.sl (by decide)).slice; simp only [Value.slice.injEq] at he; omega
  have h3 := h.2.2
  have hrow := h.1
  rw [hlen] at hrow
  have hnc : n ≤ c ∧ c ≤ maxLen := by
    rcases hrow.2 with ⟨h0, h1⟩ | ⟨g', cap, cur, hv, hB, hg, hn, hm, hs, ht⟩
    · simp only [Value.slice.injEq] at h0
      unfold maxLen
      omega
    · simp only [Value.slice.injEq] at hv
      omega
  obtain ⟨hnc, hcm⟩ := hnc
  unfold maxLen at hcm
  have HR := Lib.hid hrow; have HV : Hid (∀ j u, cs[j]? = some u → w.cell? ((⟨vb, 0, none⟩ : Addr).add j) = some u) := Lib.hid (fun j u hj => by rw [Addr.add_lit]; exact hv j u hj)
  have H1 := Lib.hid h1v; have HL := Lib.hid hlen; have H3 := Lib.hid h3; have HC : Hid (cs.length = 1 * 4) := Lib.hid hcl
  have HM : Hid (n + 1 ≤ maxLen) := Lib.hid (by unfold maxLen; omega)
  have HBY : Hid ((n + 1) * 80 ≤ 140737488355328) := Lib.hid (by omega)
  obtain ⟨i0, hiI, hz0, hz1, hz2⟩ := info_parts info_nodes
  have HI := Lib.hid hiI; have HZ0 := Lib.hid hz0; have HZ1 := Lib.hid hz1; have HZ2 := Lib.hid hz2
  have hz1' : ¬ ((1 : Int) = 0) := by decide
  clear h hrow hv h1v hlen h3 hcl hiI hz0 hz1 hz2
  by_cases hcn : c = n
  all_goals
    first | subst hcn | skip
    go_enter Try.func96, Try.ntmps96
    go_wp2_with (at_builtin; refine wpList_append_lies _ rfl _ _ 24 rfl B 26 i0 _ 4 80 Try.underlying24 HI.out HZ0.out HZ1.out HZ2.out rfl (by decide) _ _ es.flatten rfl HR.out ⟨vb, 0, none⟩ 1 1 cs rfl HC.out HV.out H1.out (by decide) HM.out HBY.out hB w.heap.size rfl ?_)
    intro g cap w1 hown hgrow hat hlt
    have HO := Lib.hid hown; have HG := Lib.hid hgrow; have HAT := Lib.hid hat
    clear hown hgrow hat
    go_wp2
    go_ret
    exact inserted_of HL.out H3.out HC.out hb rfl HO.out HG.out HAT.out
end Go.Proofs.Ytdcpoeaddhbjbaa
