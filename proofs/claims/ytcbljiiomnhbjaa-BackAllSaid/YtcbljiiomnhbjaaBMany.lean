/- Plain Lean: the inverse of an inverse is the operation; the inverses of many. Words on memory for a list of operations that a call makes: its row is its own, and its operations lie elsewhere. slices.Backward at operations, as what a loop ranges over: for whatever body. Steps inside a fence. Walk of back.All: the inverses of many. -/
import Derived.Shelf.Abstract
import Derived.Test.YtcbljiiomnhbjaaFormZ
import Derived.Test.YtcbljiiomnhbjaaOpsL
import Derived.Maps.AppendAt
import Derived.RangeFuncBox
import Derived.Great.BuildSlice
import Derived.RangeFuncNested
import Derived.RangeFuncBound
import Derived.RangeFuncCalls
import Derived.RangeFuncLeaves
import Derived.Shelf.RegionOpen
import Derived.OwnWalkIn
import Derived.TacticsInMore
import Derived.LoopNIn
import Derived.LoopIn
import Derived.Maps.OwnIn
import Derived.Sort.CutIn
namespace Go.Proofs.Ytcbljiiomnhbjaa
set_option maxRecDepth 100000
open Go.RowKit Go.Shelf

/- Plain Lean: the inverse of an inverse is the operation; the inverses of many. -/
theorem check_nonneg {xs : List Int} (h : checkE xs = 0) : ∀ x ∈ xs, 0 ≤ x := by
  intro x hx
  by_cases hn : x < 0
  · rw [checkE, if_pos (List.any_eq_true.2 ⟨x, hx, by simpa using hn⟩)] at h
    cases h
  · omega
theorem last_mem {xs : List Int} (h : 0 < xs.length) : lastI xs ∈ xs := by
  have hl : xs.length - 1 < xs.length := by omega
  have : lastI xs = xs[xs.length - 1] := by simp [lastI, hl]
  rw [this]
  exact List.getElem_mem _
theorem set_last (xs : List Int) (h : 0 < xs.length) (a : Int) : lastI (xs.set (xs.length - 1) a) = a := by
  have h2 : xs.length - 1 < xs.length := by omega
  simp [lastI, h2]
theorem set_last2 (xs : List Int) (h : 0 < xs.length) (a : Int) : (xs.set (xs.length - 1) a).set (xs.length - 1) (lastI xs) = xs := by
  have hl : xs.length - 1 < xs.length := by omega
  rw [List.set_set]
  have : lastI xs = xs[xs.length - 1] := by simp [lastI, hl]
  rw [this]
  exact List.set_getElem_self hl
theorem back_next {xs : List Int} (hn : nextE xs = 0) (h0 : ∀ x ∈ xs, 0 ≤ x) : backE (nextL xs) = 0 ∧ backL (nextL xs) = xs := by
  have hl : 0 < xs.length := by
    rcases Nat.eq_zero_or_pos xs.length with h | h
    · rw [nextE, if_pos h] at hn; cases hn
    · exact h
  have hm : lastI xs ≠ maxI := fun h => by rw [nextE, if_neg (by omega), if_pos h] at hn; cases hn
  have e : nextL xs = xs.set (xs.length - 1) (lastI xs + 1) := by rw [nextL, if_neg (by omega), if_neg hm]
  have hlen : (nextL xs).length = xs.length := by rw [e, List.length_set]
  have hp := h0 _ (last_mem hl)
  have h1 : lastI (nextL xs) = lastI xs + 1 := by rw [e, set_last xs hl]
  refine ⟨by rw [backE, if_neg (by omega), if_neg (by omega)], ?_⟩
  rw [backL, if_neg (by omega), if_neg (by omega), h1, hlen, e, show lastI xs + 1 - 1 = lastI xs by omega]
  exact set_last2 xs hl _
theorem next_back {xs : List Int} (hn : backE xs = 0) (hi : I64 xs) : nextE (backL xs) = 0 ∧ nextL (backL xs) = xs := by
  have hl : 0 < xs.length := by
    rcases Nat.eq_zero_or_pos xs.length with h | h
    · rw [backE, if_pos h] at hn; cases hn
    · exact h
  have hm : ¬ lastI xs ≤ 0 := fun h => by rw [backE, if_neg (by omega), if_pos h] at hn; cases hn
  have e : backL xs = xs.set (xs.length - 1) (lastI xs - 1) := by rw [backL, if_neg (by omega), if_neg hm]
  have hlen : (backL xs).length = xs.length := by rw [e, List.length_set]
  have hp := hi _ (last_mem hl)
  have h1 : lastI (backL xs) = lastI xs - 1 := by rw [e, set_last xs hl]
  have hx : lastI (backL xs) ≠ maxI := by unfold maxI; omega
  refine ⟨by rw [nextE, if_neg (by omega), if_neg hx], ?_⟩
  rw [nextL, if_neg (by omega), if_neg hx, h1, hlen, e, show lastI xs - 1 + 1 = lastI xs by omega]
  exact set_last2 xs hl _
theorem ok_form {o : OpF} (h : invE o = 0) : FormZ o := by
  by_cases hf : formX o = 0
  · exact form_zero.1 hf
  · rw [(inv_bad hf).1] at h
    exact absurd h hf
theorem no_inv {o : OpF} (h : invE o ≠ 0) : invO o = zeroO := by rw [invO, if_pos h]
/-- The inverse of an inverse. -/
theorem inv_inv {o : OpF} (he : invE o = 0) (hc : checkE o.path = 0) (hi : I64 o.path) : invE (invO o) = 0 ∧ invO (invO o) = o ∧ formX (invO o) = 0 := by
  have z := ok_form he
  have hk := z.k
  obtain ⟨k, p, d, i, n, ol, nw, t, f, s⟩ := o
  dsimp only at *
  have h9 : k = 1 ∨ k = 2 ∨ k = 3 ∨ k = 4 ∨ k = 5 ∨ k = 6 ∨ k = 7 ∨ k = 8 ∨ k = 9 := by omega
  rcases h9 with rfl | rfl | rfl | rfl | rfl | rfl | rfl | rfl | rfl
  · rw [inv_1 z rfl]
    have y : FormZ ⟨2, p, d, i, n, ol, nw, t, f, s⟩ := ⟨by dsimp only; decide, fun h => absurd h (by dsimp only; decide), fun _ => z.dest (by dsimp only; decide), fun _ _ _ _ => z.pos (by dsimp only; decide) (by dsimp only; decide) (by dsimp only; decide) (by dsimp only; decide), fun _ h => absurd rfl h, fun _ _ => z.old (by dsimp only; decide) (by dsimp only; decide), fun _ _ => z.new (by dsimp only; decide) (by dsimp only; decide), fun _ _ => z.text (by dsimp only; decide) (by dsimp only; decide), fun _ => z.from_ (by dsimp only; decide), fun _ => z.into (by dsimp only; decide)⟩
    exact ⟨(inv_plain y (by dsimp only; decide) (by dsimp only; decide)).1, inv_2 y rfl, form_zero.2 y⟩
  · rw [inv_2 z rfl]
    have y : FormZ ⟨1, p, d, i, n, ol, nw, t, f, s⟩ := ⟨by dsimp only; decide, fun h => absurd h (by dsimp only; decide), fun _ => z.dest (by dsimp only; decide), fun _ _ _ _ => z.pos (by dsimp only; decide) (by dsimp only; decide) (by dsimp only; decide) (by dsimp only; decide), fun h => absurd rfl h, fun _ _ => z.old (by dsimp only; decide) (by dsimp only; decide), fun _ _ => z.new (by dsimp only; decide) (by dsimp only; decide), fun _ _ => z.text (by dsimp only; decide) (by dsimp only; decide), fun _ => z.from_ (by dsimp only; decide), fun _ => z.into (by dsimp only; decide)⟩
    exact ⟨(inv_plain y (by dsimp only; decide) (by dsimp only; decide)).1, inv_1 y rfl, form_zero.2 y⟩
  · obtain ⟨e1, e2, -⟩ := inv_3 z rfl
    dsimp only at e1 e2
    have hb : backE p = 0 := by rw [← e1, he]
    obtain ⟨n1, n2⟩ := next_back hb hi
    rw [e2 hb]
    have y : FormZ { kO 4 with path := backL p, pos := i, new := ol } := ⟨(by decide : (1 : Int) ≤ 4 ∧ (4 : Int) ≤ 9), fun h => absurd h (by decide : ¬ (4 : Int) = 9), fun _ => rfl, fun _ h => absurd rfl h, fun _ _ => rfl, fun _ _ => rfl, fun h => absurd rfl h, fun _ _ => rfl, fun _ => rfl, fun _ => rfl⟩
    obtain ⟨f1, f2, -⟩ := inv_4 y rfl
    dsimp only at f1 f2
    refine ⟨by rw [f1, n1], ?_, form_zero.2 y⟩
    have a1 : d = [] := z.dest (by dsimp only; decide)
    have a2 : n = noT := z.node (by dsimp only; decide) (by dsimp only; decide)
    have a3 : nw = [] := z.new (by dsimp only; decide) (by dsimp only; decide)
    have a4 : t = [] := z.text (by dsimp only; decide) (by dsimp only; decide)
    have a5 : f = noSel := z.from_ (by dsimp only; decide)
    have a6 : s = noSel := z.into (by dsimp only; decide)
    rw [f2 n1, n2, a1, a2, a3, a4, a5, a6]
    rfl
  · obtain ⟨e1, e2, -⟩ := inv_4 z rfl
    dsimp only at e1 e2
    have hb : nextE p = 0 := by rw [← e1, he]
    obtain ⟨n1, n2⟩ := back_next hb (check_nonneg hc)
    rw [e2 hb]
    have y : FormZ { kO 3 with path := nextL p, pos := i, old := nw } := ⟨(by decide : (1 : Int) ≤ 3 ∧ (3 : Int) ≤ 9), fun h => absurd h (by decide : ¬ (3 : Int) = 9), fun _ => rfl, fun h => absurd rfl h, fun _ _ => rfl, fun h => absurd rfl h, fun _ _ => rfl, fun _ _ => rfl, fun _ => rfl, fun _ => rfl⟩
    obtain ⟨f1, f2, -⟩ := inv_3 y rfl
    dsimp only at f1 f2
    refine ⟨by rw [f1, n1], ?_, form_zero.2 y⟩
    have a1 : d = [] := z.dest (by dsimp only; decide)
    have a2 : n = noT := z.node (by dsimp only; decide) (by dsimp only; decide)
    have a3 : ol = [] := z.old (by dsimp only; decide) (by dsimp only; decide)
    have a4 : t = [] := z.text (by dsimp only; decide) (by dsimp only; decide)
    have a5 : f = noSel := z.from_ (by dsimp only; decide)
    have a6 : s = noSel := z.into (by dsimp only; decide)
    rw [f2 n1, n2, a1, a2, a3, a4, a5, a6]
    rfl
  · rw [inv_5 z rfl]
    have y : FormZ ⟨5, d, p, i, n, ol, nw, t, f, s⟩ := ⟨by dsimp only; decide, fun h => absurd h (by dsimp only; decide), fun h => absurd rfl h, fun _ _ _ _ => z.pos (by dsimp only; decide) (by dsimp only; decide) (by dsimp only; decide) (by dsimp only; decide), fun _ _ => z.node (by dsimp only; decide) (by dsimp only; decide), fun _ _ => z.old (by dsimp only; decide) (by dsimp only; decide), fun _ _ => z.new (by dsimp only; decide) (by dsimp only; decide), fun _ _ => z.text (by dsimp only; decide) (by dsimp only; decide), fun _ => z.from_ (by dsimp only; decide), fun _ => z.into (by dsimp only; decide)⟩
    exact ⟨(inv_plain y (by dsimp only; decide) (by dsimp only; decide)).1, inv_5 y rfl, form_zero.2 y⟩
  · rw [inv_6 z rfl]
    have y : FormZ ⟨6, p, d, i, n, nw, ol, t, f, s⟩ := ⟨by dsimp only; decide, fun h => absurd h (by dsimp only; decide), fun _ => z.dest (by dsimp only; decide), fun _ _ _ _ => z.pos (by dsimp only; decide) (by dsimp only; decide) (by dsimp only; decide) (by dsimp only; decide), fun _ _ => z.node (by dsimp only; decide) (by dsimp only; decide), fun _ h => absurd rfl h, fun _ h => absurd rfl h, fun _ _ => z.text (by dsimp only; decide) (by dsimp only; decide), fun _ => z.from_ (by dsimp only; decide), fun _ => z.into (by dsimp only; decide)⟩
    exact ⟨(inv_plain y (by dsimp only; decide) (by dsimp only; decide)).1, inv_6 y rfl, form_zero.2 y⟩
  · rw [inv_7 z rfl]
    have y : FormZ ⟨8, p, d, i, n, ol, nw, t, f, s⟩ := ⟨by dsimp only; decide, fun h => absurd h (by dsimp only; decide), fun _ => z.dest (by dsimp only; decide), fun _ _ _ h => absurd rfl h, fun _ _ => z.node (by dsimp only; decide) (by dsimp only; decide), fun _ _ => z.old (by dsimp only; decide) (by dsimp only; decide), fun _ _ => z.new (by dsimp only; decide) (by dsimp only; decide), fun _ h => absurd rfl h, fun _ => z.from_ (by dsimp only; decide), fun _ => z.into (by dsimp only; decide)⟩
    exact ⟨(inv_plain y (by dsimp only; decide) (by dsimp only; decide)).1, inv_8 y rfl, form_zero.2 y⟩
  · rw [inv_8 z rfl]
    have y : FormZ ⟨7, p, d, i, n, ol, nw, t, f, s⟩ := ⟨by dsimp only; decide, fun h => absurd h (by dsimp only; decide), fun _ => z.dest (by dsimp only; decide), fun _ _ h => absurd rfl h, fun _ _ => z.node (by dsimp only; decide) (by dsimp only; decide), fun _ _ => z.old (by dsimp only; decide) (by dsimp only; decide), fun _ _ => z.new (by dsimp only; decide) (by dsimp only; decide), fun h => absurd rfl h, fun _ => z.from_ (by dsimp only; decide), fun _ => z.into (by dsimp only; decide)⟩
    exact ⟨(inv_plain y (by dsimp only; decide) (by dsimp only; decide)).1, inv_7 y rfl, form_zero.2 y⟩
  · rw [inv_9 z rfl]
    have y : FormZ ⟨9, p, d, i, n, ol, nw, t, s, f⟩ := ⟨by dsimp only; decide, fun _ => z.path rfl, fun _ => z.dest (by dsimp only; decide), fun _ _ _ _ => z.pos (by dsimp only; decide) (by dsimp only; decide) (by dsimp only; decide) (by dsimp only; decide), fun _ _ => z.node (by dsimp only; decide) (by dsimp only; decide), fun _ _ => z.old (by dsimp only; decide) (by dsimp only; decide), fun _ _ => z.new (by dsimp only; decide) (by dsimp only; decide), fun _ _ => z.text (by dsimp only; decide) (by dsimp only; decide), fun h => absurd rfl h, fun h => absurd rfl h⟩
    exact ⟨(inv_plain y (by dsimp only; decide) (by dsimp only; decide)).1, inv_9 y rfl, form_zero.2 y⟩

/-- The first that is not zero, or zero. -/
def firstE (l : List Int) : Int := (l.find? (· != 0)).getD 0
theorem firstE_app (a b : List Int) : firstE (a ++ b) = if firstE a = 0 then firstE b else firstE a := by
  unfold firstE
  rw [List.find?_append]
  cases h : a.find? (· != 0) with
  | none => simp
  | some x =>
    have := List.find?_some h
    simp at this
    simp [this]
theorem firstE_zero {l : List Int} : firstE l = 0 ↔ ∀ x ∈ l, x = 0 := by
  unfold firstE
  cases h : l.find? (· != 0) with
  | none => simpa using h
  | some x =>
    have h1 := List.find?_some h
    have h2 := List.mem_of_find?_eq_some h
    simp at h1
    simp only [Option.getD_some]
    exact ⟨fun e => absurd e h1, fun e => absurd (e x h2) h1⟩
/-- Why many have no inverses: the last one's reason that has none. -/
noncomputable def allE (os : List OpF) : Int := firstE (os.reverse.map invE)
/-- The inverses of many. -/
noncomputable def allR (os : List OpF) : List OpF := if allE os = 0 then os.reverse.map invO else []
theorem allE_zero {os : List OpF} : allE os = 0 ↔ ∀ o ∈ os, invE o = 0 := by
  rw [allE, firstE_zero]
  simp
theorem allE_app (l m : List OpF) : allE (l ++ m) = if allE m = 0 then allE l else allE m := by
  rw [allE, List.reverse_append, List.map_append, firstE_app]
  rfl
theorem allR_app {l m : List OpF} (h1 : allE l = 0) (h2 : allE m = 0) : allR (l ++ m) = allR m ++ allR l := by
  have h : allE (l ++ m) = 0 := by rw [allE_app, if_pos h2, h1]
  rw [allR, allR, allR, if_pos h, if_pos h1, if_pos h2, List.reverse_append, List.map_append]
theorem all_all {os : List OpF} (h : allE os = 0) (hc : ∀ o ∈ os, checkE o.path = 0 ∧ I64 o.path) : allE (allR os) = 0 ∧ allR (allR os) = os := by
  have h0 := allE_zero.1 h
  have e : allR os = os.reverse.map invO := by rw [allR, if_pos h]
  have h2 : allE (allR os) = 0 := by
    rw [allE_zero, e]
    intro o ho
    obtain ⟨x, hx, rfl⟩ := List.mem_map.1 ho
    have hx' := List.mem_reverse.1 hx
    exact (inv_inv (h0 x hx') (hc x hx').1 (hc x hx').2).1
  refine ⟨h2, ?_⟩
  rw [allR, if_pos h2, e, ← List.map_reverse, List.reverse_reverse, List.map_map]
  refine (List.map_congr_left fun o ho => ?_).trans (List.map_id os)
  exact (inv_inv (h0 o ho) (hc o ho).1 (hc o ho).2).2.1
/-- What is known of an operation's numbers. -/
def OpK (o : OpF) : Prop := (-9223372036854775808 ≤ o.kind ∧ o.kind ≤ 9223372036854775807) ∧ I64 o.path ∧ I64 o.dest
theorem i64_set {xs : List Int} (h : I64 xs) (i : Nat) (a : Int) (ha : -9223372036854775808 ≤ a ∧ a ≤ 9223372036854775807) : I64 (xs.set i a) := by
  intro x hx
  rcases List.mem_or_eq_of_mem_set hx with h' | rfl
  · exact h x h'
  · exact ha
theorem i64_nil : I64 [] := by intro x hx; simp at hx
theorem opK_zero : OpK zeroO := ⟨⟨by decide, by decide⟩, i64_nil, i64_nil⟩
theorem opK_inv {o : OpF} (h : OpK o) : OpK (invO o) := by
  by_cases he : invE o = 0
  case neg => rw [no_inv he]; exact opK_zero
  have z := ok_form he
  have hk := z.k
  obtain ⟨k, p, d, i, n, ol, nw, t, f, s⟩ := o
  obtain ⟨h1, h2, h3⟩ := h
  dsimp only at *
  have h9 : k = 1 ∨ k = 2 ∨ k = 3 ∨ k = 4 ∨ k = 5 ∨ k = 6 ∨ k = 7 ∨ k = 8 ∨ k = 9 := by omega
  rcases h9 with rfl | rfl | rfl | rfl | rfl | rfl | rfl | rfl | rfl
  · rw [inv_1 z rfl]; exact ⟨⟨by dsimp only; decide, by dsimp only; decide⟩, h2, h3⟩
  · rw [inv_2 z rfl]; exact ⟨⟨by dsimp only; decide, by dsimp only; decide⟩, h2, h3⟩
  · obtain ⟨e1, e2, -⟩ := inv_3 z rfl
    dsimp only at e1 e2
    have hb : backE p = 0 := by rw [← e1, he]
    rw [e2 hb]
    refine ⟨⟨(by decide : (-9223372036854775808 : Int) ≤ 4), (by decide : (4 : Int) ≤ 9223372036854775807)⟩, ?_, i64_nil⟩
    show I64 (backL p)
    unfold backL
    split
    · exact i64_nil
    · split
      · exact i64_nil
      · rename_i g1 g2
        have := h2 _ (last_mem (xs := p) (by omega))
        exact i64_set h2 _ _ (by omega)
  · obtain ⟨e1, e2, -⟩ := inv_4 z rfl
    dsimp only at e1 e2
    have hb : nextE p = 0 := by rw [← e1, he]
    rw [e2 hb]
    refine ⟨⟨(by decide : (-9223372036854775808 : Int) ≤ 3), (by decide : (3 : Int) ≤ 9223372036854775807)⟩, ?_, i64_nil⟩
    show I64 (nextL p)
    unfold nextL
    split
    · exact i64_nil
    · split
      · exact i64_nil
      · rename_i g1 g2
        have := h2 _ (last_mem (xs := p) (by omega))
        exact i64_set h2 _ _ (by unfold maxI at g2; omega)
  · rw [inv_5 z rfl]; exact ⟨⟨by dsimp only; decide, by dsimp only; decide⟩, h3, h2⟩
  · rw [inv_6 z rfl]; exact ⟨⟨by dsimp only; decide, by dsimp only; decide⟩, h2, h3⟩
  · rw [inv_7 z rfl]; exact ⟨⟨by dsimp only; decide, by dsimp only; decide⟩, h2, h3⟩
  · rw [inv_8 z rfl]; exact ⟨⟨by dsimp only; decide, by dsimp only; decide⟩, h2, h3⟩
  · rw [inv_9 z rfl]; exact ⟨⟨by dsimp only; decide, by dsimp only; decide⟩, h2, h3⟩
theorem opK_all {os : List OpF} (h : ∀ o ∈ os, OpK o) : ∀ o ∈ allR os, OpK o := by
  intro o ho
  unfold allR at ho
  split at ho
  · obtain ⟨x, hx, rfl⟩ := List.mem_map.1 ho
    exact opK_inv (h x (List.mem_reverse.1 hx))
  · simp at ho

/- Words on memory for a list of operations that a call makes: its row is its own, and its operations lie elsewhere. -/
/-- What is read in w is read where w's cells are still as they were. -/
theorem ints_cells {w w' : World} {v : Value} {xs : List Int} (h : Ints w v xs) (hk : ∀ a u, w.cell? a = some u → w'.cell? a = some u) : Ints w' v xs := by
  obtain ⟨a, cap, h1, h2, hm, h3, h5⟩ := h
  refine ⟨a, cap, h1, h2, hm, h3, fun hp => ?_⟩
  obtain ⟨b, off, rfl, hc⟩ := h5 hp
  exact ⟨b, off, rfl, fun j hj => hk _ _ (hc j hj)⟩
theorem sl_cells {S : Nat → Prop} {w w' : World} {size bytes : Nat} {v : Value} {es : List (List Value)} (h : Sl S w size bytes v es) (hk : ∀ a u, w.cell? a = some u → w'.cell? a = some u) : Sl S w' size bytes v es := by
  obtain ⟨a, cap, h1, h2, h3, h4, h5, h6⟩ := h
  refine ⟨a, cap, h1, h2, h3, h4, h5, fun hp => ?_⟩
  obtain ⟨b, off, ha, hc⟩ := h6 hp
  exact ⟨b, off, ha, fun j hj => ⟨(hc j hj).1, fun i u hi => hk _ _ ((hc j hj).2 i u hi)⟩⟩
theorem nodeAt_cells {S : Nat → Prop} {w w' : World} {cs : List Value} {t : Tree} (h : NodeAt S w cs t) (hk : ∀ a u, w.cell? a = some u → w'.cell? a = some u) : NodeAt S w' cs t := by
  induction h with
  | mk hp ht hs hl _ ih => exact .mk (sl_cells hp hk) (sl_cells ht hk) (sl_cells hs hk) hl ih
theorem OpV.cells {w w' : World} {v : Value} {o : OpF} (h : OpV w v o) (hk : ∀ a u, w.cell? a = some u → w'.cell? a = some u) : OpV w' v o := by
  obtain ⟨a1, c1, a2, c2, p1, m1, d1, p2, m2, d2, p3, m3, d3, a5, c5, a6, c6, a7, c7, f1, g1, h1, f2, g2, h2, i1, j1, k1, i2, j2, k2, rfl, hr⟩ := h
  exact ⟨a1, c1, a2, c2, p1, m1, d1, p2, m2, d2, p3, m3, d3, a5, c5, a6, c6, a7, c7, f1, g1, h1, f2, g2, h2, i1, j1, k1, i2, j2, k2, rfl,
    ⟨ints_cells hr.path hk, ints_cells hr.dest hk, nodeAt_cells hr.node hk, sl_cells hr.old hk, sl_cells hr.new hk, sl_cells hr.text hk, ints_cells hr.fa hk, ints_cells hr.fb hk, ints_cells hr.ia hk, ints_cells hr.ib hk⟩⟩

/-- An operation none of whose slices lies in one of the blocks G. -/
def OpH (w : World) (G : Nat → Prop) (v : Value) (o : OpF) : Prop := ∃ w0 : World, (∀ a u, w0.cell? a = some u → ¬ G a.block ∧ w.cell? a = some u) ∧ OpV w0 v o
theorem OpH.opV {w : World} {G : Nat → Prop} {v : Value} {o : OpF} (h : OpH w G v o) : OpV w v o := by
  obtain ⟨w0, h1, h2⟩ := h
  exact h2.cells fun a u ha => (h1 a u ha).2
theorem OpH.step {w w' : World} {G H : Nat → Prop} {v : Value} {o : OpF} (h : OpH w G v o) (hk : ∀ a u, w.cell? a = some u → ¬ G a.block → ¬ H a.block ∧ w'.cell? a = some u) : OpH w' H v o := by
  obtain ⟨w0, h1, h2⟩ := h
  exact ⟨w0, fun a u ha => hk a u (h1 a u ha).2 (h1 a u ha).1, h2⟩
/-- The world without its blocks below B. -/
def hideW (w : World) (B : Nat) : World := { w with heap := w.heap.mapIdx fun i o => if i < B then .deferred none else o }
theorem hideW_get (w : World) (B k : Nat) : (hideW w B).heap[k]? = w.heap[k]?.map fun o => if k < B then .deferred none else o := Array.getElem?_mapIdx
theorem hideW_cell {w : World} {B : Nat} {a : Addr} {u : Value} (h : (hideW w B).cell? a = some u) : ¬ a.block < B ∧ w.cell? a = some u := by
  by_cases hb : a.block < B
  · simp only [World.cell?, hideW_get, if_pos hb] at h
    cases hw : w.heap[a.block]? <;> rw [hw] at h <;> cases h
  · refine ⟨hb, ?_⟩
    rw [← h]
    refine (World.cell?_of_block ?_).symm
    rw [hideW_get]
    cases w.heap[a.block]? <;> simp [hb]
/-- All its slices are of a call's own. -/
theorem OpH.ofN {w : World} {B : Nat} {v : Value} {o : OpF} (h : OpN w B v o) : OpH w (fun b => b < B) v o := by
  refine ⟨hideW w B, fun a u ha => hideW_cell ha, ?_⟩
  obtain ⟨a1, c1, a2, c2, p1, m1, d1, p2, m2, d2, p3, m3, d3, a5, c5, a6, c6, a7, c7, f1, g1, h1, f2, g2, h2, i1, j1, k1, i2, j2, k2, rfl, hr⟩ := h
  exact ⟨a1, c1, a2, c2, p1, m1, d1, p2, m2, d2, p3, m3, d3, a5, c5, a6, c6, a7, c7, f1, g1, h1, f2, g2, h2, i1, j1, k1, i2, j2, k2, rfl, (hr.keep fun b hb _ => by
    rw [hideW_get]
    cases w.heap[b]? <;> simp [Nat.not_lt.2 hb]).rd⟩

/-- A list of operations in a row of a call's own, in blocks from B on; the operations' slices lie from E on, and not in that row. -/
def OpsO (w : World) (B E : Nat) (v : Value) (os : List OpF) : Prop :=
  ∃ es, OwnSl w B 35 21 360 v es ∧ es.length = os.length ∧ ∀ i, i < os.length → OpH w (fun b => b < E ∨ v.ownBlock = some b) (.agg (es.getD i []).toArray) (os.getD i zeroO)
theorem OpsO.ops {w : World} {B E : Nat} {v : Value} {os : List OpF} (h : OpsO w B E v os) : OpsV w v os := by
  obtain ⟨es, h1, h2, h3⟩ := h
  exact ⟨es, (h1.sl (by decide)).weaken fun _ _ => trivial, h2, fun i hi => (h3 i hi).opV⟩
/-- Kept where all blocks of cells are. -/
theorem OpsO.kept {w w' : World} {B E : Nat} {v : Value} {os : List OpF} (h : OpsO w B E v os) (hk : ∀ (b : Nat) (c : Array Value) (t : TypeId) (f : Nat × Nat), w.heap[b]? = some (Obj.cells c t f) → w'.heap[b]? = some (Obj.cells c t f)) : OpsO w' B E v os := by
  obtain ⟨es, ⟨⟨hl, h1⟩, h1'⟩, h2, h3⟩ := h
  refine ⟨es, ⟨⟨hl, ?_⟩, h1'⟩, h2, fun i hi => (h3 i hi).step fun a u ha hg => ⟨hg, ?_⟩⟩
  · rcases h1 with h0 | ⟨g, cap, cur, hv, hg, hh, r⟩
    · exact .inl h0
    · exact .inr ⟨g, cap, cur, hv, hg, hk _ _ _ _ hh, r⟩
  · rw [← ha]
    refine World.cell?_of_block ?_
    simp only [World.cell?] at ha
    split at ha
    · rename_i c t f hb
      rw [hb]
      exact hk _ _ _ _ hb
    · cases ha
theorem OpsO.later {w w' : World} {B E : Nat} {v : Value} {os : List OpF} (h : OpsO w B E v os) (hb : Below w.heap.size w w') : OpsO w' B E v os :=
  h.kept fun b _ _ _ hh => (hb.block b (lt_of_block hh)).trans hh
theorem OpsO.own {β : Type} (B E n : Nat) (t : TypeId) (f : β → List OpF) : Go.Own (fun s W => ∃ v, Boxed W n t v ∧ OpsO W B E v (f s)) := by
  rintro s X Y row ⟨v, hv, hr⟩ hg hrow
  have hk : ∀ (b : Nat) (c : Array Value) (t : TypeId) (f : Nat × Nat), X.heap[b]? = some (Obj.cells c t f) → Y.heap[b]? = some (Obj.cells c t f) := fun b c t f hh => by
    refine (hg.block b (lt_of_block hh) fun e => ?_).trans hh
    obtain ⟨o, ho, hc⟩ := hrow b e.symm
    rw [hh] at ho
    cases ho
    cases hc
  exact ⟨v, hk _ _ _ _ hv, hr.kept hk⟩
/-- A store into a block below E that is not the row. -/
theorem OpsO.set {w : World} {B E : Nat} {v : Value} {os : List OpF} (h : OpsO w B E v os) (b : Nat) (u : Value) (hE : b < E) (hb : v.ownBlock ≠ some b) : OpsO (w.setCell ⟨b, 0, none⟩ u) B E v os := by
  have hk : ∀ k, k ≠ b → (w.setCell ⟨b, 0, none⟩ u).heap[k]? = w.heap[k]? := fun k hk => Below.heap_setCell _ _ _ k hk
  obtain ⟨es, h1, h2, h3⟩ := h
  refine ⟨es, h1.keep fun g hg => hk g fun e => hb (by rw [hg, e]), h2, fun i hi => (h3 i hi).step fun a x ha hg => ⟨hg, ?_⟩⟩
  rw [← ha]
  refine World.cell?_of_block (hk _ fun e => hg (.inl (by rw [e]; exact hE)))
theorem flatten_snoc {α : Type} (es : List (List α)) (c : List α) : (es ++ [c]).flatten = es.flatten ++ c := by simp
/-- Behind an append of an operation of the call's own: w2 is where it was handed back, u the world in which it is appended. -/
theorem OpsO.push2 {w w2 u w1 : World} {B E : Nat} {H : Nat → Prop} {v v' : Value} {os : List OpF} {o : OpF} {cs : List Value} (h : OpsO w B E v os) (hn : OpH w2 H (.agg cs.toArray) o) (hcs : cs.length = 21) (hH : ∀ b, v.ownBlock = some b → H b) (hE : ∀ b, b < E → H b) (hb : (os.length + 1) * 360 ≤ 140737488351232)
    (hwu : Below w.heap.size w u) (h2u : ∀ b, b < w2.heap.size → u.heap[b]? = w2.heap[b]?) (hs : w2.heap.size ≤ u.heap.size) (es : List (List Value)) (hes : OwnSl w B 35 21 360 v es) (hel : es.length = os.length)
    (hown : w1.ownsRow B 35 21 v' (es.length + 1) (es.flatten ++ cs)) (hgrow : u.grownBy w1 v.ownBlock) (hat : v'.ownBlock = v.ownBlock ∨ v'.ownBlock = some u.heap.size) : OpsO w1 B E v' (os ++ [o]) := by
  obtain ⟨es', h1, h2, h3⟩ := h
  have heq : es' = es := by
    have l1 := h1.1.1
    have l2 := hes.1.1
    have a1 := h1.1.2
    have a2 := hes.1.2
    have hf : es'.flatten = es.flatten := by
      rcases a1 with ⟨e1, z1⟩ | ⟨g, cap, cur, hv, hg, hh, r1, r2, r3, r4⟩
      · have : es' = [] := List.eq_nil_of_length_eq_zero z1
        have : es = [] := List.eq_nil_of_length_eq_zero (by omega)
        simp [*]
      · rcases a2 with ⟨e2, z2⟩ | ⟨g', cap', cur', hv', hg', hh', s1, s2, s3, s4⟩
        · rw [hv] at e2; cases e2
        · rw [hv] at hv'
          simp only [Value.slice.injEq, Option.some.injEq, Addr.mk.injEq] at hv'
          obtain ⟨⟨rfl, _, _⟩, _, _⟩ := hv'
          rw [hh] at hh'
          simp only [Option.some.injEq, Obj.cells.injEq] at hh'
          obtain ⟨rfl, _, _⟩ := hh'
          rw [← r4, ← s4, h2, hel]
    apply List.ext_getElem (by omega)
    intro i i1 i2
    obtain ⟨f1, f2⟩ := flat_get (size := 21) (by decide) es' h1.2.2
    obtain ⟨f3, f4⟩ := flat_get (size := 21) (by decide) es hes.2.2
    have c1 := h1.2.2 _ (List.getElem_mem i1)
    have c2 := hes.2.2 _ (List.getElem_mem i2)
    apply List.ext_getElem (by omega)
    intro j j1 j2
    have d1 : (i * 21 + j) / 21 = i := by omega
    have d2 : (i * 21 + j) % 21 = j := by omega
    have e1 := f2 (i * 21 + j)
    have e2 := f4 (i * 21 + j)
    rw [hf, e2, d1, d2] at e1
    simpa [i1, i2, j1, j2] using e1.symm
  subst heq
  refine ⟨es' ++ [cs], ⟨by rw [flatten_snoc, List.length_append]; exact hown, by rw [List.length_append, hel]; exact hb, fun e he => ?_⟩, by simp [hel], fun i hi => ?_⟩
  · rcases List.mem_append.1 he with h' | h'
    · exact h1.2.2 e h'
    · rw [List.mem_singleton.1 h']; exact hcs
  · have hno : ∀ k, k < u.heap.size → v.ownBlock ≠ some k → v'.ownBlock ≠ some k := fun k hk hv e => by
      rcases hat with h' | h'
      · exact hv (by rw [← h', e])
      · rw [e] at h'
        cases h'
        omega
    have hgb : ∀ k, k < u.heap.size → v.ownBlock ≠ some k → w1.heap[k]? = u.heap[k]? := fun k hk hv => hgrow.block k hk fun e => hv e.symm
    rcases Nat.lt_or_ge i os.length with hlt | hge
    · have e1 : (os ++ [o]).getD i zeroO = os.getD i zeroO := by simp [List.getElem?_append_left hlt]
      have e2 : (es' ++ [cs]).getD i [] = es'.getD i [] := by simp [List.getElem?_append_left (show i < es'.length by omega)]
      rw [e1, e2]
      refine (h3 i hlt).step fun a x ha hg => ?_
      have hlt' := World.block_lt_of_cell? w a ha
      have hlt2 : a.block < u.heap.size := Nat.lt_of_lt_of_le hlt' hwu.size
      have hv : v.ownBlock ≠ some a.block := fun e => hg (.inr e)
      refine ⟨fun e => ?_, ?_⟩
      · rcases e with e | e
        · exact hg (.inl e)
        · exact hno _ hlt2 hv e
      · rw [← ha]
        exact World.cell?_of_block ((hgb _ hlt2 hv).trans (hwu.block _ hlt'))
    · have hio : i = os.length := by simp at hi; omega
      subst hio
      have g1 : (es' ++ [cs]).getD os.length [] = cs := by rw [← hel]; simp
      have g2 : (os ++ [o]).getD os.length zeroO = o := by simp
      rw [g1, g2]
      refine hn.step fun a x ha hg => ?_
      have hlt' := World.block_lt_of_cell? w2 a ha
      have hlt2 : a.block < u.heap.size := Nat.lt_of_lt_of_le hlt' hs
      have hv : v.ownBlock ≠ some a.block := fun e => hg (hH _ e)
      refine ⟨fun e => ?_, ?_⟩
      · rcases e with e | e
        · exact hg (hE _ e)
        · exact hno _ hlt2 hv e
      · rw [← ha]
        exact World.cell?_of_block ((hgb _ hlt2 hv).trans (h2u _ hlt'))

theorem OpsO.push {w w2 u w1 : World} {B E C : Nat} {v v' : Value} {os : List OpF} {o : OpF} {cs : List Value} (h : OpsO w B E v os) (hn : OpN w2 C (.agg cs.toArray) o) (hcs : cs.length = 21) (hw : w.heap.size ≤ C) (hE : E ≤ C) (hb : (os.length + 1) * 360 ≤ 140737488351232)
    (hwu : Below w.heap.size w u) (h2u : ∀ b, b < w2.heap.size → u.heap[b]? = w2.heap[b]?) (hs : w2.heap.size ≤ u.heap.size) (es : List (List Value)) (hes : OwnSl w B 35 21 360 v es) (hel : es.length = os.length)
    (hown : w1.ownsRow B 35 21 v' (es.length + 1) (es.flatten ++ cs)) (hgrow : u.grownBy w1 v.ownBlock) (hat : v'.ownBlock = v.ownBlock ∨ v'.ownBlock = some u.heap.size) : OpsO w1 B E v' (os ++ [o]) :=
  h.push2 (OpH.ofN hn) hcs (fun b hb => Nat.lt_of_lt_of_le (hes.lt b hb).2 hw) (fun _ hb => Nat.lt_of_lt_of_le hb hE) hb hwu h2u hs es hes hel hown hgrow hat

/-- A list in a row of the call's own whose operations were there before: they stay as they were. -/
def OpsB (w0 w : World) (v : Value) (os : List OpF) : Prop :=
  Below w0.heap.size w0 w ∧ ∃ es, OwnSl w w0.heap.size 35 21 360 v es ∧ es.length = os.length ∧ ∀ i, i < os.length → OpV w0 (.agg (es.getD i []).toArray) (os.getD i zeroO)
theorem OpsB.ops {w0 w : World} {v : Value} {os : List OpF} (h : OpsB w0 w v os) : OpsV w v os := by
  obtain ⟨h0, es, h1, h2, h3⟩ := h
  exact ⟨es, (h1.sl (by decide)).weaken fun _ _ => trivial, h2, fun i hi => (h3 i hi).later h0⟩
theorem OpsB.nil (w : World) : OpsB w w (.slice none 0 0) [] := ⟨gr_refl w, [], OwnSl.nil _ _ _ _ _, rfl, fun i hi => by simp at hi⟩
theorem OpsB.later {w0 w w' : World} {v : Value} {os : List OpF} (h : OpsB w0 w v os) (hb : Below w.heap.size w w') : OpsB w0 w' v os := by
  obtain ⟨h0, es, h1, h2, h3⟩ := h
  exact ⟨gr_tr h0 hb, es, h1.later hb (Nat.le_refl _), h2, h3⟩
theorem info_ops : (Try.prog.info? 35).map (fun i => (i.zero, i.size, i.bytes)) = some (some (.agg #[.int .i64 0, .slice none 0 0, .slice none 0 0, .int .i64 0, .bool false, .slice none 0 0, .slice none 0 0, .slice none 0 0, .slice none 0 0, .slice none 0 0, .slice none 0 0, .bool false, .slice none 0 0, .int .i64 0, .slice none 0 0, .int .i64 0, .bool false, .slice none 0 0, .int .i64 0, .slice none 0 0, .int .i64 0]), 21, 360) := by kernel_rfl
/-- One operation goes into a row of one. -/
theorem fill_one {s : Nat} (hs : 0 < s) (cells cs : Array Value) (hc : cs.size = s) (hz : cells.size = s) : Instr.fill (fun i => some (i * s, s)) cells [(0, .agg cs)] = some cs := by
  obtain ⟨r, h1, h2, h3⟩ := Great.fill_dense hs [.agg cs] 0 cells (by simp [Value.cells, hc]) (by simp; omega)
  have : r = cs := by
    apply Array.ext_getElem?
    intro i
    rw [h3]
    by_cases hi : i < s
    · rw [if_pos (by simp; omega)]
      simp [Nat.div_eq_of_lt hi, Nat.mod_eq_of_lt hi, Value.cells]
    · rw [if_neg (by simp; omega)]
      simp [hc, hz, Nat.not_lt.1 hi]
  rw [this] at h1
  simpa using h1
theorem run_build_op (w : World) (cs : Array Value) (hc : cs.size = 21) : (Instr.buildSlice 46 1 #[(0, .agg cs)]).run Try.prog w = .ok (.slice (some ⟨w.heap.size, 0, none⟩) 1 1) (w.alloc (.cells cs 35)) := by
  obtain ⟨i0, hi, hz0, hz1, hz2⟩ := info_parts info_ops
  refine run_buildSlice w _ _ _ _ cs i0 _ Try.underlying46 hi hz0 (by rw [hz1]; decide) (by rw [hz1]; decide) ?_
  rw [hz1]
  exact fill_one (by decide) _ cs hc (by simp)
theorem wpList_build_op {ops : Array Oper} {rest : List Oper} {o : Oper} {a : Act} {w : World} {Q : Exit → Act → World → Prop} (hgd : o.guard = none) (x : Operand) (ho : o.op = .buildSlice 46 1 #[(0, x)]) (cs : Array Value) (hx : a.eval x = .agg cs) (hc : cs.size = 21)
    (h : wpList Try.prog ops Q rest (a.put o.dst (.slice (some ⟨w.heap.size, 0, none⟩) 1 1)) (w.alloc (.cells cs 35))) : wpList Try.prog ops Q (o :: rest) a w :=
  wpList_plain hgd fun K hK => by
    unfold Oper.wp execOp
    simp [ho, hx, run_build_op w cs hc, Result.andThen]
    exact hK _ _ h
theorem OpsV.form {w : World} {v : Value} {os : List OpF} (h : OpsV w v os) : ∃ a n c, v = .slice a n c ∧ os.length = n := by
  obtain ⟨a, c, rfl⟩ := h.slice
  exact ⟨a, _, c, rfl, rfl⟩
theorem flat_app {α : Type} (xs ys : List (List α)) : (xs ++ ys).flatten = xs.flatten ++ ys.flatten := by simp
/-- An append of operations that were there when the row began. -/
theorem wpList_append_ops {ops : Array Oper} {rest : List Oper} {o : Oper} {a : Act} {w : World} {Q : Exit → Act → World → Prop} (hw : Region.wanted o (yielded ops a.tmps) = true) (s x : Operand)
    (ho : o.op = .call { callee := .builtin .append, args := #[s, x], argTypes := #[46, 46] }) (w0 : World) (v : Value) (os ms : List OpF) (hs : a.eval s = v) (hv : OpsB w0 w v os) (ao : Option Addr) (m c : Nat) (hx : a.eval x = .slice ao m c) (hu : OpsV w0 (.slice ao m c) ms)
    (hb : (os.length + ms.length) * 360 ≤ 140737488351232) (h : ∀ a2 n2 c2 w', OpsB w0 w' (.slice a2 n2 c2) (os ++ ms) → wpList Try.prog ops Q rest (a.put o.dst (.slice a2 n2 c2)) w') : wpList Try.prog ops Q (o :: rest) a w := by
  obtain ⟨h0, es, h1, h2, h3⟩ := hv
  obtain ⟨fs, u1, u2, u3⟩ := hu
  obtain ⟨s0, s1, s2, s3⟩ := u1.src (by decide)
  obtain ⟨i0, hi, hz0, hz1, hz2⟩ := info_parts info_ops
  have hfs : ∀ e ∈ fs, e.length = 21 := by obtain ⟨_, _, _, _, _, _, h5, _⟩ := u1; exact h5
  have hone : ∀ u ∈ fs.flatten, u.oneCell' = true := fun u hu => by
    obtain ⟨e, he, hue⟩ := List.mem_flatten.1 hu
    obtain ⟨i, hi, rfl⟩ := List.getElem_of_mem he
    have := (u3 i (by omega)).one.1
    rw [show fs.getD i [] = fs[i] by simp [hi]] at this
    exact (Array.all_eq_true_iff_forall_mem.1 this) u (by simpa using hue)
  have key : ∀ v' w', w'.ownsRow w0.heap.size 35 21 v' (es.length + m) (es.flatten ++ fs.flatten) → w.grownBy w' v.ownBlock → ∃ a2 n2 c2, v' = .slice a2 n2 c2 ∧ OpsB w0 w' v' (os ++ ms) := fun v' w' hown hg => by
    have hB : OpsB w0 w' v' (os ++ ms) := by
      refine ⟨h0.grown hg h0.size fun k hk => (h1.lt k hk).1, es ++ fs, ⟨by rw [flat_app, List.length_append, s0]; exact hown, by rw [List.length_append, h2, u2]; exact hb, fun e he => ?_⟩, by simp [h2, u2], fun i hi => ?_⟩
      · rcases List.mem_append.1 he with h' | h'
        · exact h1.2.2 e h'
        · exact hfs e h'
      · rcases Nat.lt_or_ge i os.length with hlt | hge
        · have e1 : (os ++ ms).getD i zeroO = os.getD i zeroO := by simp [List.getElem?_append_left hlt]
          have e2 : (es ++ fs).getD i [] = es.getD i [] := by simp [List.getElem?_append_left (show i < es.length by omega)]
          rw [e1, e2]
          exact h3 i hlt
        · have e1 : (os ++ ms).getD i zeroO = ms.getD (i - os.length) zeroO := by simp [List.getElem?_append_right hge]
          have e2 : (es ++ fs).getD i [] = fs.getD (i - os.length) [] := by simp [List.getElem?_append_right (show es.length ≤ i by omega), h2]
          rw [e1, e2]
          exact u3 _ (by simp at hi; omega)
    obtain ⟨a2, n2, c2, rfl, -⟩ := hB.ops.form
    exact ⟨_, _, _, rfl, hB⟩
  refine BigFrame.wpList_want hw fun K hK => ?_
  cases ao with
  | some ad =>
    obtain ⟨v', w', hr, g1, g2, -, -⟩ := run_append_own_at (P := Try.prog) w w0.heap.size 46 o.type 35 i0 _ 21 360 Try.underlying46 hi hz0 hz1 hz2 rfl (by decide) v es.length es.flatten h1.1 ad m c fs.flatten s1
      (fun j u hj => by have := s3 ad rfl j u hj; exact (h0.cell (World.block_lt_of_cell? w0 _ this)).trans this) hone (by unfold maxLen; omega) (by omega) h0.size
    obtain ⟨a2, n2, c2, rfl, hB⟩ := key v' w' g1 g2
    unfold Oper.wp execOp
    simp only [ho, resolve, invoke, builtin, Sem.run_bind, Sem.run_pure, Result.andThen_ok, List.map_toArray, List.map_cons, List.map_nil, hs, hx, hr]
    exact hK _ _ (h a2 n2 c2 w' hB)
  | none =>
    obtain ⟨rfl, rfl⟩ := s2 rfl
    have hn : fs = [] := List.eq_nil_of_length_eq_zero s0
    subst hn
    have hrun := run_append_owned_none (P := Try.prog) w w0.heap.size 46 o.type 35 i0 21 Try.underlying46 hi v es.length es.flatten h1.1
    obtain ⟨a2, n2, c2, rfl, hB⟩ := key v w (by simpa using h1.1) (World.grownBy.refl _ _)
    unfold Oper.wp
    simp [execOp, ho, resolve, invoke, builtin, hs, hx, hrun, Result.andThen]
    exact hK _ _ (h a2 n2 c2 w hB)

/- slices.Backward at operations, as what a loop ranges over: for whatever body. Steps inside a fence. -/
attribute [local go_sem] Oper.semAt_some

theorem wpListIn_load_mid {F : Fence} {k : Nat} {P : Program} {ops : Array Oper} {rest : List Oper} {op : Oper} {a : Act} {w : World} {Q : Exit → Act → World → Prop} (hgd : op.guard = none) (ty : TypeId) (x : Operand) (ho : op.op = .load ty x)
    (b o : Nat) (hx : a.eval x = .pointer (some ⟨b, o, none⟩)) (cs : List Value) (d : TypeDesc) (hc : w.rangeAt b o cs)
    (hu : P.underlying ty = some d) (hd : d.isRow = true) (hi : (P.info? ty).map (·.size) = some cs.length)
    (h : wpListIn F k P ops Q rest (a.put op.dst (.agg cs.toArray)) w) : wpListIn F k P ops Q (op :: rest) a w :=
  wpListIn_plain hgd fun K hK => by
    unfold Oper.wpIn
    refine ⟨?_, ?_⟩
    · simp [Oper.about, ho]
    · rw [Oper.semAt_plain F _ _ (by rw [ho]; intro c hc'; cases hc')]
      simp [execOp, ho, hx, Instr.loadAt, Instr.sureAddr, run_loadVar_mid w b o ty cs d hc hu hd hi, Result.andThen]
      exact hK _ _ h
theorem wpListIn_load_row {F : Fence} {k : Nat} {P : Program} {ops : Array Oper} {rest : List Oper} {op : Oper} {a : Act} {w : World} {Q : Exit → Act → World → Prop} (hgd : op.guard = none) (ty : TypeId) (x : Operand) (ho : op.op = .load ty x)
    (g : Nat) (hx : a.eval x = .pointer (some ⟨g, 0, none⟩)) (t : TypeId) (cs : Array Value) (fz : Nat × Nat) (d : TypeDesc) (hc : w.heap[g]? = some (.cells cs t fz))
    (hu : P.underlying ty = some d) (hd : d.isRow = true) (hi : (P.info? ty).map (·.size) = some cs.size)
    (h : wpListIn F k P ops Q rest (a.put op.dst (.agg cs)) w) : wpListIn F k P ops Q (op :: rest) a w :=
  wpListIn_load_mid hgd ty x ho g 0 hx cs.toList d (fun j v hv => by
    rw [Nat.zero_add, cell_of_row w g j cs t fz hc]
    simpa using hv) hu hd (by simpa using hi) (by simpa using h)
theorem wpListIn_store_row {F : Fence} {k : Nat} {P : Program} {ops : Array Oper} {rest : List Oper} {o : Oper} {a : Act} {w : World} {Q : Exit → Act → World → Prop} (hgd : o.guard = none) (ty : TypeId) (x y : Operand) (ho : o.op = .store ty x y)
    (g : Nat) (cells : Array Value) (hx : a.eval x = .pointer (some ⟨g, 0, none⟩)) (hy : a.eval y = .agg cells)
    (t : TypeId) (old : Array Value) (hg : w.heap[g]? = some (.cells old t (0, 0))) (hi : (P.info? ty).map (·.size) = some cells.size)
    (hold : old.size = cells.size) (h1 : cells.all (·.oneCell') = true)
    (h : wpListIn F k P ops Q rest (a.put o.dst undef) (w.setRow g cells)) : wpListIn F k P ops Q (o :: rest) a w :=
  wpListIn_plain hgd fun K hK => by
    unfold Oper.wpIn
    refine ⟨?_, ?_⟩
    · simp [Oper.about, ho]
    · rw [Oper.semAt_plain F _ _ (by rw [ho]; intro c hc'; cases hc')]
      simp [execOp, ho, hx, hy, Instr.storeAt, Instr.sureAddr, run_storeVar_row w g t ty old cells hg hi hold h1, Result.andThen]
      exact hK _ _ h

theorem wpListIn_build_op {F : Fence} {k : Nat} {ops : Array Oper} {rest : List Oper} {o : Oper} {a : Act} {w : World} {Q : Exit → Act → World → Prop} (hgd : o.guard = none) (x : Operand) (ho : o.op = .buildSlice 46 1 #[(0, x)]) (cs : Array Value) (hx : a.eval x = .agg cs) (hc : cs.size = 21)
    (h : wpListIn F k Try.prog ops Q rest (a.put o.dst (.slice (some ⟨w.heap.size, 0, none⟩) 1 1)) (w.alloc (.cells cs 35))) : wpListIn F k Try.prog ops Q (o :: rest) a w :=
  wpListIn_plain hgd fun K hK => by
    unfold Oper.wpIn
    refine ⟨?_, ?_⟩
    · simp [Oper.about, ho]
    · rw [Oper.semAt_plain F _ _ (by rw [ho]; intro c hc'; cases hc')]
      simp [execOp, ho, hx, run_build_op w cs hc, Result.andThen]
      exact hK _ _ h

/-- The numbers below n from m on, the greatest first. -/
def fromTop (n m : Nat) : List Nat := ((List.range n).drop m).reverse
theorem fromTop_top (n : Nat) : fromTop n n = [] := by simp [fromTop]
theorem fromTop_zero (n : Nat) : fromTop n 0 = (List.range n).reverse := rfl
theorem fromTop_step {n j : Nat} (h : j < n) : fromTop n j = fromTop n (j + 1) ++ [j] := by
  unfold fromTop
  rw [List.drop_eq_getElem_cons (by simpa using h), List.reverse_cons]
  simp
theorem fromTop_len (n m : Nat) : (fromTop n m).length = n - m := by simp [fromTop]
theorem fromTop_pre {n m : Nat} : fromTop n m <+: (List.range n).reverse := by
  unfold fromTop
  rw [List.reverse_prefix]
  exact List.drop_suffix _ _

/-- What a body keeps: what lay below n₀, and the block Bs. -/
def KpB (n₀ Bs : Nat) (W W' : World) : Prop := Below n₀ W W' ∧ ∀ o, W.heap[Bs]? = some o → W'.heap[Bs]? = some o
theorem KpB.refl (n₀ Bs : Nat) (W : World) : KpB n₀ Bs W W := ⟨Below.refl _ _, fun _ h => h⟩
theorem KpB.trans {n₀ Bs : Nat} {A B C : World} (h : KpB n₀ Bs A B) (k : KpB n₀ Bs B C) : KpB n₀ Bs A C := ⟨h.1.trans k.1, fun o ho => k.2 o (h.2 o ho)⟩
theorem KpB.turn {n₀ Bs : Nat} {w : World} (hn : n₀ ≤ w.heap.size) (hB : Bs < w.heap.size) (W : World) (l : Nat) (o o' : Obj) (hl : w.heap.size ≤ l) (h : W.heap[l]? = some o) (h1 : o.isCells = false) (h2 : o.isWalk = false) : KpB n₀ Bs W (W.putObj l o') :=
  ⟨belowK_b hn W l o o' hl h h1 h2, fun x hx => (World.putObj_heap_other (by omega)).trans hx⟩

set_option maxRecDepth 100000 in
set_option maxHeartbeats 4000000 in
/-- slices.Backward's closure, for every body that keeps what lay below n₀, and the slice's box. -/
theorem back1_in (F : Fence) (n : Nat) (h60 : F.fn 60) (hro : F.round = none) (hn : 1 ≤ n) (l Bs n₀ c N : Nat) (a : Option Addr) (es : List (List Value)) (hN : es.length = N) (J Jx : List (Fin N) → World → Prop)
    (hY : ∀ pre x W, J pre W → pre.length < N → YieldAt F (n - 1) Try.prog l #[.int .i64 (x.1 : Int), .agg (es.getD x.1 []).toArray] W fun e W' =>
      (e = .returned (.bool true) ∧ J (pre ++ [x]) W' ∧ KpB n₀ Bs W W') ∨ (e = .returned (.bool false) ∧ Jx (pre ++ [x]) W'))
    (W : World) (hBs : Boxed W Bs 46 (.slice a N c)) (hS : Sl (fun b => b < n₀) W 21 360 (.slice a N c) es) (h0 : J [] W) :
    CallsIn F n Try.prog 60 #[.func (.yield l) #[] #[], .pointer (some ⟨Bs, 0, none⟩)] W fun e W' => (∃ v, e = .returned v) ∧
      ((∃ ys : List (Fin N), ys.map (·.1) = (List.range N).reverse ∧ J ys W') ∨ (∃ pre : List (Fin N), pre.map (·.1) <+: (List.range N).reverse ∧ Jx pre W')) := by
  have hlen := hS.len
  rw [hN] at hlen
  have HS := Lib.hid hS
  have HN := Lib.hid hN
  clear hS hN
  refine callsIn_of_wp Try.func60 rfl h60 ?_ hro
  simp only [Try.ntmps60, List.size_toArray, List.length_cons, List.length_nil, Nat.reduceAdd, Nat.reduceSub, Array.replicate_succ, Array.replicate_zero, List.push_toArray, List.append_toArray, List.nil_append, List.cons_append]
  have hBc := hBs.cell
  gi_wp2
  gi_loopw [3] (fun i wr => ∃ (m : Nat) (pre : List (Fin N)), m ≤ N ∧ i = .int .i64 ((m : Int) - 1) ∧ pre.map (·.1) = fromTop N m ∧ J pre wr ∧ KpB n₀ Bs W wr)
    (fun i _ => (intOf i + 1).toNat)
  case atStart => exact ⟨N, [], Nat.le_refl _, rfl, (fromTop_top N).symm, h0, KpB.refl _ _ _⟩
  case round =>
    obtain ⟨m, pre, hm, rfl, hp, hJ, hb⟩ := hrel
    cases m with
    | zero =>
      have HP := Lib.hid hp
      clear hp
      gi_wp2
      go_end0
      exact ⟨⟨_, rfl⟩, .inl ⟨pre, HP.out, hJ⟩⟩
    | succ j =>
      have hlt : j < N := by omega
      rw [show ((j + 1 : Nat) : Int) - 1 = (j : Int) by omega]
      obtain ⟨b, off, rfl, hc, hbn, hr, hl⟩ := (HS.out.keep fun k hk => hb.1.block k hk).at_ j hlt
      have hpl : pre.length < N := by
        have := congrArg List.length hp
        rw [List.length_map, fromTop_len] at this
        omega
      obtain ⟨fn, tmps, assign, body, hy, hR⟩ := hY pre ⟨j, hlt⟩ wr hJ hpl
      simp only [List.getD_eq_getElem?_getD] at hy
      have HR := Lib.hid hr; have HI := Lib.hid (op_info_l hl); have HP := Lib.hid hp
      have hcb : wr.cell? ⟨Bs, 0, none⟩ = some (.slice (some ⟨b, off, none⟩) N c) := Boxed.cell (hb.2 _ hBs)
      clear hr hl hp hpl
      gi_wp2_with (refine wpListIn_load_mid rfl 35 _ rfl b (off + j * 21) rfl _ _ HR.out Try.underlying35 rfl HI.out ?_)
      refine hR.mono ?_
      rintro e W3 (⟨rfl, hJ3, hk3⟩ | ⟨rfl, hJx3⟩)
      · gi_wp2
        go_roundw
        case rel => exact ⟨j, pre ++ [⟨j, hlt⟩], by omega, by go_num, by rw [List.map_append, HP.out, fromTop_step hlt]; rfl, hJ3, hb.trans hk3⟩
        case measure => simp [intOf]
      · gi_wp2
        refine bodyPost_ret (results_none rfl _ _ _) rfl ?_
        exact ⟨⟨_, rfl⟩, .inr ⟨pre ++ [⟨j, hlt⟩], by rw [List.map_append, HP.out]; exact (by rw [fromTop_step hlt]; rfl : fromTop N (j + 1) ++ [(⟨j, hlt⟩ : Fin N)].map (·.1) = fromTop N j) ▸ fromTop_pre, hJx3⟩⟩

set_option maxHeartbeats 1000000 in
/-- slices.Backward: the slice is boxed; the function value holds the box. -/
theorem backward_in (F : Fence) (n : Nat) (h41 : F.fn 41) (hro : F.round = none) (a : Option Addr) (len cap : Nat) (w : World) :
    CallsIn F n Try.prog 41 #[.slice a len cap] w fun e w' => e = .returned (.func (.func 60) #[] #[.pointer (some ⟨w.heap.size, 0, none⟩)]) ∧ w' = w.alloc (.cells #[.slice a len cap] 46) := by
  refine callsIn_of_wp Try.func41 rfl h41 ?_ hro
  simp only [Try.ntmps41, List.size_toArray, List.length_cons, List.length_nil, Nat.reduceAdd, Nat.reduceSub, Array.replicate_succ, Array.replicate_zero, List.push_toArray, List.append_toArray, List.nil_append, List.cons_append]
  gi_wp2
  go_ret
  exact ⟨rfl, rfl⟩

/-- What it hands back: all elements from the last one on, or the first few of these. -/
theorem backward_stops (F : Fence) (n : Nat) (h60 : F.fn 60) (hro : F.round = none) (hn : 1 ≤ n) (Bs n₀ c N : Nat) (a : Option Addr) (es : List (List Value)) (hN : es.length = N) (w : World) (hn₀ : n₀ ≤ w.heap.size)
    (hc : Boxed w Bs 46 (.slice a N c)) (hS : Sl (fun b => b < n₀) w 21 360 (.slice a N c) es) :
    SeqStopsK F n Try.prog 60 #[.pointer (some ⟨Bs, 0, none⟩)] (fun x : Fin N => #[Value.int .i64 (x.1 : Int), Value.agg (es.getD x.1 []).toArray]) (KpB n₀ Bs) (fun ys => ys.map (·.1) = (List.range N).reverse) (fun pre => pre.map (·.1) <+: (List.range N).reverse) N w :=
  fun l J Jx W hW _ _ hY h0 =>
    back1_in F n h60 hro hn l Bs n₀ c N a es hN J Jx hY W ((hW.block Bs hc.lt).trans hc) (hS.keep fun k hk => (hW.mono hn₀).block k hk) h0

/- Walk of back.All: the inverses of many. -/
theorem keeps_below {W U : World} (h : Below W.heap.size W U) (B : Nat) : KeepsFrom B W U := ⟨h.size, fun k _ _ hk _ => (h.block k (Array.getElem?_eq_some_iff.1 hk).1).trans hk⟩
theorem kpB_below {W U : World} {n₀ Bs : Nat} (h : Below W.heap.size W U) (hn : n₀ ≤ W.heap.size) : KpB n₀ Bs W U := ⟨h.mono hn, fun _ ho => (h.block Bs (Array.getElem?_eq_some_iff.1 ho).1).trans ho⟩
theorem boxed_below {W U : World} {B : Nat} {t : TypeId} {v : Value} (h : Boxed W B t v) (hb : Below W.heap.size W U) : Boxed U B t v := (hb.block B h.lt).trans h
theorem range_rev {β : Type} (g : OpF → β) (os : List OpF) : (List.range os.length).reverse.map (fun i => g (os.getD i zeroO)) = os.reverse.map g := by
  rw [List.map_reverse, List.map_reverse]
  congr 1
  apply List.ext_getElem (by simp)
  intro i h1 h2
  simp at h1
  simp [h1]
theorem pre_map {β : Type} (g : OpF → β) {os : List OpF} (ys : List (Fin os.length)) : ys.map (fun x => g (os.getD x.1 zeroO)) = (ys.map (·.1)).map (fun i => g (os.getD i zeroO)) := by
  rw [List.map_map]
  rfl
theorem all_done {os : List OpF} {ys : List (Fin os.length)} (h : ys.map (·.1) = (List.range os.length).reverse) (h0 : ∀ x ∈ ys, invE (os.getD x.1 zeroO) = 0) : allE os = 0 ∧ ys.map (fun x => invO (os.getD x.1 zeroO)) = allR os := by
  have he : allE os = 0 := by
    rw [allE, ← range_rev invE os, ← h, ← pre_map invE ys, firstE_zero]
    intro e hx
    obtain ⟨y, hy, rfl⟩ := List.mem_map.1 hx
    exact h0 y hy
  exact ⟨he, by rw [pre_map invO ys, h, range_rev invO os, allR, if_pos he]⟩
theorem all_stop {os : List OpF} {pre : List (Fin os.length)} {x : Fin os.length} (h : (pre ++ [x]).map (·.1) <+: (List.range os.length).reverse) (h0 : ∀ y ∈ pre, invE (os.getD y.1 zeroO) = 0) (h1 : invE (os.getD x.1 zeroO) ≠ 0) : allE os = invE (os.getD x.1 zeroO) ∧ allR os = [] := by
  obtain ⟨t, ht⟩ := h
  have he : allE os = invE (os.getD x.1 zeroO) := by
    rw [allE, ← range_rev invE os, ← ht, List.map_append, ← pre_map invE, List.map_append, List.append_assoc, firstE_app]
    rw [if_pos (firstE_zero.2 fun e hx => by obtain ⟨y, hy, rfl⟩ := List.mem_map.1 hx; exact h0 y hy), firstE_app]
    have hx : firstE ([x].map fun x => invE (os.getD x.1 zeroO)) = invE (os.getD x.1 zeroO) := by
      have h2 : (invE (os.getD x.1 zeroO) != 0) = true := by simpa using h1
      rw [List.map_cons, List.map_nil, firstE, List.find?_cons, h2]
      rfl
    rw [hx, if_neg h1]
  exact ⟨he, by rw [allR, if_neg (by rw [he]; exact h1)]⟩

/-- What All tells. -/
def AllP (os : List OpF) (w : World) (e : Ending) (w' : World) : Prop := ∃ v, e = .returned (.tuple #[v, .int .i64 (allE os)]) ∧ OpsV w' v (allR os) ∧ Below w.heap.size w w'

set_option maxRecDepth 100000 in
set_option maxHeartbeats 8000000 in
theorem ball_any (os : List OpF) (v : Value) (w : World) (hv : OpsV w v os) (hk : ∀ o ∈ os, OpK o) : Calls Try.prog 19 #[v] w (AllP os w) := by
  obtain ⟨a, c, rfl⟩ := hv.slice
  obtain ⟨es, hS, hel, hE⟩ := id hv
  have hlen := hv.len
  have HV := Lib.hid hv; have HS := Lib.hid hS; have HEL := Lib.hid hel; have HE := Lib.hid hE; have HK := Lib.hid hk
  obtain ⟨i0, hi, hz0, hz1, hz2⟩ := info_parts info_ops
  have HI := Lib.hid hi; have HZ0 := Lib.hid hz0; have HZ1 := Lib.hid hz1; have HZ2 := Lib.hid hz2
  have HM1 := Lib.hid (show i0.bytes * os.length ≤ 281474976710656 by rw [hz2]; omega)
  have HM2 := Lib.hid (show os.length ≤ maxLen by unfold maxLen; omega)
  clear hv hS hel hE hk hi hz0 hz1 hz2
  refine (callsIn_wide (n := 3)).1 ?_
  refine callsIn_of_wp_marks Try.func19 rfl trivial ?_ rfl
  simp only [Try.ntmps19, List.size_toArray, List.length_cons, List.length_nil, Nat.reduceAdd, Nat.reduceSub, Array.replicate_succ, Array.replicate_zero, List.push_toArray, List.append_toArray, List.nil_append, List.cons_append]
  gi_wp2_with (first
    | (gi_at_make; refine wpListIn_make_own _ rfl _ _ 46 rfl w.heap.size 35 i0 _ 21 Try.underlying46 HI.out HZ0.out HZ1.out .i64 .i64 os.length os.length rfl rfl rfl HM1.out HM2.out (by simp; omega) ?_; intro w1 hown hgrow)
    | (refine ⟨trivial, ?_⟩; gi_at_call 41; refine (backward_in Fence.wide _ trivial rfl _ _ _ _).mono ?_; rintro e w' ⟨rfl, rfl⟩))
  have hs1 : w.heap.size + 2 < w1.heap.size := by
    have := (hown.lt _ rfl).2
    simpa using this
  have hown2 : w1.ownsRow w.heap.size 35 21 (.slice (some ⟨w.heap.size + 1 + 1, 0, none⟩) 0 os.length) 0 [] := by simpa using hown
  have bR1 : Boxed w1 w.heap.size 46 (.slice none 0 0) := ((Boxed.new w 46 _).alloc _).kept hgrow (by simp)
  have bE1 : Boxed w1 (w.heap.size + 1) 38 (.int .i64 0) := by
    have := (Boxed.new (w.alloc (.cells #[.slice none 0 0] 46)) 38 (.int .i64 0)).kept hgrow (by simp)
    simpa using this
  have hb1 : Below w.heap.size w w1 := (((Below.refl _ w).alloc (Nat.le_refl _) _).alloc (by simp) _).grown hgrow (by simp; omega) (fun k hk => by cases hk)
  have hbW : Below w1.heap.size w1 ((w1.alloc (.cells #[.slice (some ⟨w.heap.size + 1 + 1, 0, none⟩) 0 os.length] 46)).alloc (.cells #[.slice a os.length c] 46)) := gr_al (gr_al (gr_refl w1) _) _
  have bO := (Boxed.new w1 46 (.slice (some ⟨w.heap.size + 1 + 1, 0, none⟩) 0 os.length)).alloc (.cells #[.slice a os.length c] 46)
  have bS := Boxed.new (w1.alloc (.cells #[.slice (some ⟨w.heap.size + 1 + 1, 0, none⟩) 0 os.length] 46)) 46 (.slice a os.length c)
  rw [World.size_alloc] at bS
  have hsz : ((w1.alloc (.cells #[.slice (some ⟨w.heap.size + 1 + 1, 0, none⟩) 0 os.length] 46)).alloc (.cells #[.slice a os.length c] 46)).heap.size = w1.heap.size + 2 := by simp
  obtain ⟨W0, hW0⟩ : ∃ W0, (w1.alloc (.cells #[.slice (some ⟨w.heap.size + 1 + 1, 0, none⟩) 0 os.length] 46)).alloc (.cells #[.slice a os.length c] 46) = W0 := ⟨_, rfl⟩
  rw [hW0] at hbW bO bS hsz ⊢
  clear hW0 hown
  have bR := boxed_below bR1 hbW; have bE := boxed_below bE1 hbW
  have hB0 : Below w.heap.size w W0 := gr_tr hb1 hbW
  have hO0 : OpsO W0 w.heap.size (w1.heap.size + 2) (.slice (some ⟨w.heap.size + 1 + 1, 0, none⟩) 0 os.length) [] := ⟨[], ⟨row_below hown2 hbW (Nat.le_refl _), by simp, by simp⟩, rfl, fun i hi => by simp at hi⟩
  have hSl : Sl (fun b => b < w.heap.size) W0 21 360 (.slice a os.length c) es := ((HS.out.there (by decide)).weaken fun _ h => h.2).keep fun b hb => hB0.block b hb
  generalize w1.heap.size = n4 at *
  clear hown2 bR1 bE1 hb1 hbW hgrow
  refine wpIn_rangeFunc_ownH rfl (by omega) (gf := 60) (lb := #[.pointer (some ⟨n4 + 1, 0, none⟩)]) rfl trivial (enters_of Try.func60 (by kernel_rfl) rfl)
    (backward_stops Fence.wide (3 - 1) trivial rfl (by omega) (n4 + 1) w.heap.size c os.length a es HEL.out W0 hB0.size bS hSl) KpB.trans (KpB.turn hB0.size (by omega)) (Below.refl _ _) (fun _ => rfl)
    (fun pre W => ((∃ v, Boxed W n4 46 v ∧ OpsO W w.heap.size (n4 + 2) v (pre.map fun x => invO (os.getD x.1 zeroO))) ∧ ((Boxed W w.heap.size 46 (.slice none 0 0) ∧ Boxed W (w.heap.size + 1) 38 (.int .i64 0)) ∧ Boxed W (n4 + 1) 46 (.slice a os.length c))) ∧ (Below w.heap.size w W ∧ ∀ x ∈ pre, invE (os.getD x.1 zeroO) = 0))
    (fun co pre W => (co = .ret ∧ ∃ (pre0 : List (Fin os.length)) (x : Fin os.length), pre = pre0 ++ [x] ∧ (∀ y ∈ pre0, invE (os.getD y.1 zeroO) = 0) ∧ invE (os.getD x.1 zeroO) ≠ 0 ∧ Boxed W w.heap.size 46 (.slice none 0 0) ∧ Boxed W (w.heap.size + 1) 38 (.int .i64 (invE (os.getD x.1 zeroO)))) ∧ Below w.heap.size w W)
    (OwnFrom.and (OwnFrom.and (Own.from (OpsO.own _ _ _ _ _) _) (OwnFrom.and (OwnFrom.and (Own.from (boxed_own _ _ _) _) (Own.from (boxed_own _ _ _) _)) (Own.from (boxed_own _ _ _) _))) (OwnFrom.and (ownFrom_below (Nat.le_refl _) hB0.size) (ownFrom_pure _ _)))
    (fun co => OwnFrom.and (fun s X Y row hs hg hr => by
      obtain ⟨h1, pre0, x, h2, h3, h4, h5, h6⟩ := hs
      exact ⟨h1, pre0, x, h2, h3, h4, boxed_own _ _ (fun _ : Unit => _) () X Y row h5 hg (fun r e => (hr r e).2), boxed_own _ _ (fun _ : Unit => _) () X Y row h6 hg (fun r e => (hr r e).2)⟩) (ownFrom_below (Nat.le_refl _) hB0.size))
    ⟨⟨⟨_, bO, hO0⟩, ⟨bR, bE⟩, bS⟩, hB0, fun x hx => by simp at hx⟩
    (fun x a' W => ∃ Bx, n4 + 1 < Bx ∧ W.heap[Bx]? = some (.cells (es.getD x.1 []).toArray 35 (0, 0)) ∧ a' = { tmps := #[.slice a os.length c, undef, .pointer (some ⟨w.heap.size, 0, none⟩), .pointer (some ⟨w.heap.size + 1, 0, none⟩), .pointer (some ⟨n4, 0, none⟩), undef, .pointer (some ⟨Bx, 0, none⟩), undef, undef, .slice a os.length c, .int .i64 os.length, .slice (some ⟨w.heap.size + 1 + 1, 0, none⟩) 0 os.length, .slice a os.length c, .func (.func 60) #[] #[.pointer (some ⟨n4 + 1, 0, none⟩)], .int .i64 (x.1 : Int), .agg (es.getD x.1 []).toArray, undef, undef, undef, undef, undef, undef, undef, undef, undef, undef, undef, undef, undef], defers := [] })
    (fun x a' _ X Y row hs hg hr => by
      obtain ⟨Bx, h1, h2, h3⟩ := hs
      refine ⟨Bx, h1, (hg.block Bx (lt_of_block h2) fun e => ?_).trans h2, h3⟩
      obtain ⟨_, o, ho, hc⟩ := hr Bx e.symm
      rw [h2] at ho
      cases ho
      cases hc)
    ?assign ?body ?done ?stop
  case assign =>
    rintro l pre x W K ⟨⟨⟨v, bO1, hO1⟩, ⟨bR1, bE1⟩, bS1⟩, hB1, hz⟩ hK
    have hx := HE.out x.1 x.2
    have H1 := Lib.hid hx.one; have HT := Lib.hid (info_op hx.one.2)
    obtain ⟨fr1, fr2⟩ := fresh_row W #[.int .i64 0, .slice none 0 0, .slice none 0 0, .int .i64 0, .bool false, .slice none 0 0, .slice none 0 0, .slice none 0 0, .slice none 0 0, .slice none 0 0, .slice none 0 0, .bool false, .slice none 0 0, .int .i64 0, .slice none 0 0, .int .i64 0, .bool false, .slice none 0 0, .int .i64 0, .slice none 0 0, .int .i64 0] (es.getD x.1 []).toArray 35
    have HF1 := Lib.hid fr1; have HF2 := Lib.hid fr2
    clear fr1 fr2 hx
    gi_wp2_with (refine wpListIn_store_row rfl 35 _ _ rfl _ (es.getD x.1 []).toArray rfl (by simp; rfl) 35 _ (heap_alloc_new W (.cells #[.int .i64 0, .slice none 0 0, .slice none 0 0, .int .i64 0, .bool false, .slice none 0 0, .slice none 0 0, .slice none 0 0, .slice none 0 0, .slice none 0 0, .slice none 0 0, .bool false, .slice none 0 0, .int .i64 0, .slice none 0 0, .int .i64 0, .bool false, .slice none 0 0, .int .i64 0, .slice none 0 0, .int .i64 0] 35)) HT.out H1.out.2.symm H1.out.1 ?_)
    exact hK _ _ (keeps_below HF1.out _) (kpB_below HF1.out hB1.size) ⟨⟨⟨v, boxed_below bO1 HF1.out, hO1.later HF1.out⟩, ⟨boxed_below bR1 HF1.out, boxed_below bE1 HF1.out⟩, boxed_below bS1 HF1.out⟩, gr_tr hB1 HF1.out, hz⟩ ⟨W.heap.size, bS1.lt, HF2.out, rfl⟩
  case body =>
    rintro l pre x a' W hl ⟨r, hr⟩ ⟨⟨⟨v, bO1, hO1⟩, ⟨bR1, bE1⟩, bS1⟩, hB1, hz⟩ ⟨Bx, hBx, bX, rfl⟩ hlt
    have hx := HE.out x.1 x.2
    have hko := HK.out (os.getD x.1 zeroO) (by simp [x.2])
    have HX := Lib.hid bX; have HT := Lib.hid (info_op hx.one.2)
    have HCI := Lib.hid (binv_n _ _ W (hx.later (hB1.mono (Nat.le_refl _))) hko.1 hko.2.1 (fun o v w h => bown_any o v w h))
    have HZ := Lib.hid hz
    have hwW := hB1.size
    obtain ⟨EE, hEE⟩ : ∃ EE, invE (os.getD x.1 zeroO) = EE := ⟨_, rfl⟩
    rw [hEE] at HCI
    have HEE := Lib.hid hEE
    clear hx hko bX hz hEE
    gi_wp2_with (refine wpListIn_load_row rfl 35 _ rfl Bx rfl 35 _ (0, 0) _ HX.out Try.underlying35 rfl HT.out ?_)
    refine ⟨trivial, ?_⟩
    refine (CallsIn.inRound l (callsIn_wide.2 HCI.out)).mono ?_
    rintro e W2 ⟨cs, rfl, hN, hb2⟩
    clear HCI HX HT
    have HN := Lib.hid hN; have H1 := Lib.hid hN.opV.one; have HT2 := Lib.hid (info_op hN.opV.one.2)
    obtain ⟨fr1, fr2⟩ := fresh_row W2 #[.int .i64 0, .slice none 0 0, .slice none 0 0, .int .i64 0, .bool false, .slice none 0 0, .slice none 0 0, .slice none 0 0, .slice none 0 0, .slice none 0 0, .slice none 0 0, .bool false, .slice none 0 0, .int .i64 0, .slice none 0 0, .int .i64 0, .bool false, .slice none 0 0, .int .i64 0, .slice none 0 0, .int .i64 0] cs 35
    have HF1 := Lib.hid fr1; have HF2 := Lib.hid fr2; have HB2 := Lib.hid hb2
    clear fr1 fr2 hN hb2
    gi_upto_region 5 with (refine wpListIn_store_row rfl 35 _ _ rfl _ cs rfl rfl 35 _ (heap_alloc_new W2 (.cells #[.int .i64 0, .slice none 0 0, .slice none 0 0, .int .i64 0, .bool false, .slice none 0 0, .slice none 0 0, .slice none 0 0, .slice none 0 0, .slice none 0 0, .slice none 0 0, .bool false, .slice none 0 0, .int .i64 0, .slice none 0 0, .int .i64 0, .bool false, .slice none 0 0, .int .i64 0, .slice none 0 0, .int .i64 0] 35)) HT2.out H1.out.2.symm H1.out.1 ?_)
    obtain ⟨U, hU⟩ : ∃ U, (W2.alloc (.cells #[.int .i64 0, .slice none 0 0, .slice none 0 0, .int .i64 0, .bool false, .slice none 0 0, .slice none 0 0, .slice none 0 0, .slice none 0 0, .slice none 0 0, .slice none 0 0, .bool false, .slice none 0 0, .int .i64 0, .slice none 0 0, .int .i64 0, .bool false, .slice none 0 0, .int .i64 0, .slice none 0 0, .int .i64 0] 35)).setRow W2.heap.size cs = U := ⟨_, rfl⟩
    rw [hU] at HF1 HF2 ⊢
    clear hU
    have hbU : Below W.heap.size W U := gr_tr HB2.out HF1.out
    have bO2 := boxed_below bO1 hbU; have bR2 := boxed_below bR1 hbU; have bE2 := boxed_below bE1 hbU; have bS2 := boxed_below bS1 hbU
    by_cases h0 : EE = 0
    case neg =>
      have q : (EE != 0) = true := by simpa using h0
      have H0 := Lib.hid h0
      clear h0
      have c2 := bR2.cell; have f2 := bR2.frozen
      have bE3 := bE2.other (B' := w.heap.size) (by omega) (.slice none 0 0)
      have c3 := bE3.cell; have f3 := bE3.frozen
      gi_wp2
      refine ⟨((keeps_below hbU _).trans ((KeepsOthers.setCell _ _ _).from _)).trans ((KeepsOthers.setCell _ _ _).from _), ⟨rfl, pre, x, rfl, HZ.out, by rw [HEE.out]; exact H0.out, (bR2.set _).other (by omega) _, by rw [HEE.out]; exact bE3.set _⟩, ((gr_tr hB1 hbU).setCell (p := ⟨w.heap.size, 0, none⟩) (Nat.le_refl _) _).setCell (p := ⟨w.heap.size + 1, 0, none⟩) (by simp) _⟩
    case pos =>
      subst h0
      obtain ⟨av, nv, cv, rfl⟩ : ∃ av nv cv, v = .slice av nv cv := by
        obtain ⟨a', c', he'⟩ := hO1.ops.slice
        exact ⟨_, _, _, he'⟩
      obtain ⟨es', hes, hel', -⟩ := id hO1
      have hpl : es'.length < os.length := by rw [hel', List.length_map]; exact hlt
      have HO := Lib.hid hO1; have HES := Lib.hid hes; have HEL' := Lib.hid hel'
      have HR := Lib.hid (row_below (row_below hes.1 hbU (Nat.le_refl _)) (gr_al (gr_refl U) (.cells cs 35)) (Nat.le_refl _))
      have HRU := Lib.hid (row_below hes.1 hbU (Nat.le_refl _))
      have HNW : Hid (∀ j u, cs.toList[j]? = some u → (U.alloc (.cells cs 35)).cell? ((⟨U.heap.size, 0, none⟩ : Addr).add j) = some u) := Lib.hid (fun j u hj => by
        rw [Addr.add_lit, cell_of_row _ U.heap.size (0 + j) _ _ (0, 0) (heap_alloc_new U _), Nat.zero_add]
        simpa using hj)
      have HON : Hid (∀ u ∈ cs.toList, u.oneCell' = true) := Lib.hid (fun u hu => (Array.all_eq_true_iff_forall_mem.1 H1.out.1) u (by simpa using hu))
      have HLL : Hid (cs.toList.length = 1 * 21) := Lib.hid (by rw [Array.length_toList, H1.out.2])
      have HB1 : Hid (es'.length + 1 ≤ maxLen) := Lib.hid (by unfold maxLen; omega)
      have HB3 : Hid ((es'.length + 1) * 360 ≤ 140737488355328) := Lib.hid (by omega)
      have HWU := Lib.hid hbU; have HBW := Lib.hid hB1
      have hsU : w.heap.size ≤ U.heap.size := Nat.le_trans hB1.size hbU.size
      have c4 := bO2.cell
      clear hes hel' hO1
      gi_wp2_with (first
        | (refine wpListIn_load_row rfl 35 _ rfl W2.heap.size rfl 35 _ (0, 0) _ HF2.out Try.underlying35 rfl HT2.out ?_)
        | (refine wpListIn_build_op rfl _ rfl cs rfl H1.out.2 ?_)
        | (gi_at_builtin; refine wpListIn_append_own_at _ rfl _ _ 46 rfl w.heap.size 35 i0 _ 21 360 Try.underlying46 HI.out HZ0.out HZ1.out HZ2.out rfl (by decide) _ es'.length es'.flatten rfl HR.out ⟨U.heap.size, 0, none⟩ 1 1 cs.toList rfl HLL.out HNW.out HON.out HB1.out HB3.out (by simp; omega) ?_; intro v' w3 hown' hgrow' _ hat; obtain ⟨g', cap', rfl⟩ := ownsRow_succ hown'; obtain ⟨hv1, hv2, hr2, hk2, hb3⟩ := bO2.appended (by decide) HRU.out hsU (by omega) hown' hgrow'; have hc1 := hv1.cell; have hf1 := hv1.frozen))
      have hg2 : (U.alloc (.cells cs 35)).grownBy w3 (Value.slice av nv cv).ownBlock := hgrow'
      have hat2 : (Value.slice (some ⟨g', 0, none⟩) (es'.length + 1) cap').ownBlock = (Value.slice av nv cv).ownBlock ∨ (Value.slice (some ⟨g', 0, none⟩) (es'.length + 1) cap').ownBlock = some (U.alloc (.cells cs 35)).heap.size := hat
      clear hgrow' hat
      have hlW := bS1.lt
      have hpush := OpsO.push (w := W) (w2 := W2) (u := U.alloc (.cells cs 35)) (w1 := w3) (C := W.heap.size) (cs := cs.toList) HO.out HN.out (by rw [Array.length_toList]; exact H1.out.2) (Nat.le_refl _) (by omega) (by rw [← HEL'.out]; omega) (gr_tr HWU.out (gr_al (gr_refl U) _)) (fun b hb => (gr_tr HF1.out (gr_al (gr_refl U) _)).block b hb) (gr_tr HF1.out (gr_al (gr_refl U) _)).size es' HES.out HEL'.out hown' hg2 hat2
      have hset := hpush.set n4 (.slice (some ⟨g', 0, none⟩) (es'.length + 1) cap') (by omega) (fun e => hv1.not_row (by decide) hown' e.symm)
      have bS4 := ((bS2.alloc (.cells cs 35)).kept hg2 (bS2.not_row (by decide) HRU.out)).other (B' := n4) (by omega) (.slice (some ⟨g', 0, none⟩) (es'.length + 1) cap')
      refine ⟨(keeps_below hbU _).trans (hk2.from _), ⟨(hbU.mono hB1.size).trans hb3, fun o ho => Eq.trans bS4 (Eq.trans (Eq.symm bS1) ho)⟩, ⟨⟨_, hv2, ?_⟩, ⟨((bR2.alloc (.cells cs 35)).kept hg2 (bR2.not_row (by decide) HRU.out)).other (by omega) _, ((bE2.alloc (.cells cs 35)).kept hg2 (bE2.not_row (by decide) HRU.out)).other (by omega) _⟩, bS4⟩, (gr_tr hB1 hbU).trans hb3, ?_⟩
      · rw [List.map_append]
        simpa using hset
      · intro y hy
        rcases List.mem_append.1 hy with h | h
        · simpa using HZ.out y h
        · rw [List.mem_singleton.1 h]
          simpa using HEE.out
  case done =>
    rintro D ys W hD hys ⟨⟨⟨v, bO1, hO1⟩, ⟨bR1, bE1⟩, bS1⟩, hB1, hz⟩ hK
    obtain ⟨he, hf⟩ := all_done hys hz
    rw [hf] at hO1
    have HE2 := Lib.hid he; have HO2 := Lib.hid hO1
    obtain ⟨av, nv, cv, rfl⟩ : ∃ av nv cv, v = .slice av nv cv := by
      obtain ⟨a', c', he'⟩ := hO1.ops.slice
      exact ⟨_, _, _, he'⟩
    have hno : ∀ b t u, Boxed W b t u → t ≠ 35 → (Value.slice av nv cv).ownBlock ≠ some b := fun b t u hb ht e => by
      obtain ⟨es', h1, _⟩ := hO1
      exact hb.not_row ht h1.1 e.symm
    have HN1 := Lib.hid (hno _ _ _ bR1 (by decide)); have HN2 := Lib.hid (hno _ _ _ bE1 (by decide))
    clear he hys hz hf hno
    have c4 := bO1.cell; have c2 := bR1.cell; have f2 := bR1.frozen
    have bE2 := bE1.other (B' := w.heap.size) (by omega) (.slice av nv cv)
    have c3 := bE2.cell; have f3 := bE2.frozen
    clear hO1
    gi_wp2
    have hK5 := (KeepsOthers.setCell (W.setCell ⟨w.heap.size, 0, none⟩ (.slice av nv cv)) ⟨w.heap.size + 1, 0, none⟩ (.int .i64 0)).same D _ ((KeepsOthers.setCell W ⟨w.heap.size, 0, none⟩ (.slice av nv cv)).same D _ hK rfl) rfl
    refine ⟨by simp, .inl ⟨_, _, rfl, run_takeDeferred hK5, ?_⟩⟩
    have b2 := (bR1.set (.slice av nv cv)).other (B' := w.heap.size + 1) (by omega) (.int .i64 0)
    have b3 := bE2.set (.int .i64 0)
    have b4 : Boxed (((W.setCell ⟨w.heap.size, 0, none⟩ (.slice av nv cv)).setCell ⟨w.heap.size + 1, 0, none⟩ (.int .i64 0)).putObj D (.deferred none)) w.heap.size 46 (.slice av nv cv) := (World.putObj_heap_other (by omega)).trans b2
    have b5 : Boxed (((W.setCell ⟨w.heap.size, 0, none⟩ (.slice av nv cv)).setCell ⟨w.heap.size + 1, 0, none⟩ (.int .i64 0)).putObj D (.deferred none)) (w.heap.size + 1) 38 (.int .i64 0) := (World.putObj_heap_other (by omega)).trans b3
    have c1 := b4.cell; have c5 := b5.cell
    refine ⟨.tuple #[.slice av nv cv, .int .i64 0], ?_, _, by rw [HE2.out], (((HO2.out.set w.heap.size _ (by omega) HN1.out).set (w.heap.size + 1) _ (by omega) HN2.out).kept fun b c t f hb => (World.putObj_heap_other (by rintro rfl; rw [hK5] at hb; cases hb)).trans hb).ops, ((hB1.setCell (p := ⟨w.heap.size, 0, none⟩) (Nat.le_refl _) _).setCell (p := ⟨w.heap.size + 1, 0, none⟩) (by simp) _).trans (belowK_b (w := w) (Nat.le_refl _) _ D _ _ (by omega) hK5 rfl rfl)⟩
    simp [results, Try.results19, asAddr, go_sem, c1, c5]
  case stop =>
    rintro D co pre W hD hSp ⟨⟨rfl, pre0, x, rfl, h3, h4, bR1, bE1⟩, hB1⟩ hK
    obtain ⟨he, hf⟩ := all_stop hSp h3 h4
    gi_wp2
    refine ⟨by simp, .inl ⟨_, _, rfl, run_takeDeferred hK, ?_⟩⟩
    have b1 : Boxed (W.putObj D (.deferred none)) w.heap.size 46 (.slice none 0 0) := (World.putObj_heap_other (by omega)).trans bR1
    have b2 : Boxed (W.putObj D (.deferred none)) (w.heap.size + 1) 38 (.int .i64 (invE (os.getD x.1 zeroO))) := (World.putObj_heap_other (by omega)).trans bE1
    have c1 := b1.cell; have c2 := b2.cell
    refine ⟨.tuple #[.slice none 0 0, .int .i64 (invE (os.getD x.1 zeroO))], ?_, _, by rw [he], by rw [hf]; exact OpsV.nil _, hB1.trans (belowK_b (w := w) (Nat.le_refl _) W D _ _ (by omega) hK rfl rfl)⟩
    simp [results, Try.results19, asAddr, go_sem, c1, c2]
/-- All, its answer named. -/
theorem ball_as (os R : List OpF) (E : Int) (hE : allE os = E) (hR : allR os = R) (v : Value) (w : World) (hv : OpsV w v os) (hk : ∀ o ∈ os, OpK o) :
    Calls Try.prog 19 #[v] w fun e w' => ∃ a n c, e = .returned (.tuple #[.slice a n c, .int .i64 E]) ∧ OpsV w' (.slice a n c) R ∧ R.length = n ∧ Below w.heap.size w w' := by
  subst hE hR
  refine (ball_any os v w hv hk).mono ?_
  rintro e w' ⟨v', rfl, h, hb⟩
  obtain ⟨a, n, c, rfl, hn⟩ := h.form
  exact ⟨a, n, c, rfl, h, hn, hb⟩
end Go.Proofs.Ytcbljiiomnhbjaa
