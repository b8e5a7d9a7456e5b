/- Walks of Go's slices.Clone at elements of cells. -/
import Derived.Test.YtcbljiiomnhbjaaClone
import Derived.Test.YtcbljiiomnhbjaaNode1
import Derived.Test.YtcbljiiomnhbjaaTrails
namespace Go.Proofs.Ytcbljiiomnhbjaa
set_option maxRecDepth 100000
open Go.RowKit

/-- The slice value owns, at the head of a row in a block from B on, these elements. -/
def OwnSl (w : World) (B : Nat) (e : TypeId) (size bytes : Nat) (v : Value) (es : List (List Value)) : Prop :=
  w.ownsRow B e size v es.length es.flatten ∧ es.length * bytes ≤ 140737488351232 ∧ (∀ x ∈ es, x.length = size)

theorem OwnSl.sl {w : World} {B : Nat} {e : TypeId} {size bytes : Nat} {v : Value} {es : List (List Value)} (h : OwnSl w B e size bytes v es) (hs0 : 0 < size) : Sl (fun b => B ≤ b) w size bytes v es := by
  obtain ⟨⟨hl, h⟩, hb, hsz⟩ := h
  rcases h with ⟨rfl, h0⟩ | ⟨g, cap, cur, rfl, hgB, hg, hn, hm, hs, ht⟩
  · have : es = [] := List.eq_nil_of_length_eq_zero h0
    subst this
    exact Sl.nil _ _ _ _
  · refine ⟨_, cap, rfl, hn, hm, hb, hsz, fun hp => ⟨g, 0, rfl, fun j hj => ⟨hgB, fun k u hu => ?_⟩⟩⟩
    obtain ⟨f1, f2⟩ := flat_get hs0 es hsz
    have hk : k < size := by
      have := (List.getElem?_eq_some_iff.1 hu).1
      rw [hsz (es.getD j []) (by simp [hj])] at this
      exact this
    have hjk : j * size + k < es.length * size := by
      have : (j + 1) * size ≤ es.length * size := Nat.mul_le_mul_right _ hj
      rw [Nat.succ_mul] at this
      omega
    rw [cell_of_row w g (0 + j * size + k) cur _ (0, 0) hg, Nat.zero_add]
    have h1 : (cur.toList.take (es.length * size))[j * size + k]? = es.flatten[j * size + k]? := by rw [ht]
    rw [List.getElem?_take, if_pos hjk, f2] at h1
    have d1 : (j * size + k) / size = j := by rw [Nat.add_comm, Nat.add_mul_div_right _ _ hs0, Nat.div_eq_of_lt hk, Nat.zero_add]
    have d2 : (j * size + k) % size = k := by rw [Nat.add_comm, Nat.add_mul_mod_self_right, Nat.mod_eq_of_lt hk]
    rw [d1, d2, hu] at h1
    simpa using h1
theorem OwnSl.nil (w : World) (B : Nat) (e : TypeId) (size bytes : Nat) : OwnSl w B e size bytes (.slice none 0 0) [] := ⟨World.ownsRow_nil _ _ _ _, by simp, by simp⟩
theorem OwnSl.later {w w' : World} {B C : Nat} {e : TypeId} {size bytes : Nat} {v : Value} {es : List (List Value)} (h : OwnSl w B e size bytes v es) (hb : Below C w w') (hC : w.heap.size ≤ C) : OwnSl w' B e size bytes v es := ⟨row_below h.1 hb hC, h.2⟩
theorem OwnSl.mono {w : World} {B C : Nat} {e : TypeId} {size bytes : Nat} {v : Value} {es : List (List Value)} (h : OwnSl w B e size bytes v es) (hC : C ≤ B) : OwnSl w C e size bytes v es := ⟨row_mono h.1 hC, h.2⟩

theorem info_props : (Try.prog.info? 90).map (fun i => (i.zero, i.size, i.bytes)) = some (some (.agg #[.string ⟨#[]⟩, .string ⟨#[]⟩]), 2, 32) := by kernel_rfl

set_option maxHeartbeats 1000000 in
theorem clone_props (es : List (List Value)) (S : Nat → Prop) (v : Value) (w : World) (h : Sl S w 2 32 v es) (hone : ∀ u ∈ es.flatten, u.oneCell' = true) :
    Calls Try.prog 52 #[v] w fun e w' => ∃ v', e = .returned v' ∧ OwnSl w' w.heap.size 90 2 32 v' es ∧ Below w.heap.size w w' := by
  have hsrc := h
  have hsz : ∀ e ∈ es, e.length = 2 := by obtain ⟨_, _, _, _, _, _, h5, _⟩ := h; exact h5
  have hb := h.len
  obtain ⟨a, cap, rfl⟩ := h.slice
  obtain ⟨_, s1, s2, s3⟩ := hsrc.src (by decide)
  have H1 := Lib.hid s1; have H3 := Lib.hid s3; have HO := Lib.hid hone; have HB := Lib.hid hb; have HS := Lib.hid hsz
  have H5 := Lib.hid (show 0 + es.length ≤ maxLen by unfold maxLen; omega)
  have H6 := Lib.hid (show (0 + es.length) * 32 ≤ 140737488355328 by omega)
  clear hsrc h s1 s3 hone hb hsz
  have q22 : ∀ (w : World) (a : Option Addr) (n c n' c' : Nat), (binOp .eql 23 (.slice a n c) (.slice none n' c')).run Try.prog w = .ok (.bool a.isNone) w := fun w a n c n' c' => Lib.run_eql_slice_nil w _ _ a n c n' c' Try.underlying23
  cases a with
  | none =>
    obtain ⟨h0, rfl⟩ := s2 rfl
    have : es = [] := List.eq_nil_of_length_eq_zero h0
    subst this
    clear s2
    go_enter Try.func52, Try.ntmps52
    go_wp2
    go_ret
    exact ⟨_, rfl, OwnSl.nil _ _ _ _ _, Below.refl _ _⟩
  | some ad =>
    clear s2
    obtain ⟨i0, hi, hz0, hz1, hz2⟩ := info_parts info_props
    have HI := Lib.hid hi; have HZ0 := Lib.hid hz0; have HZ1 := Lib.hid hz1; have HZ2 := Lib.hid hz2
    clear hi hz0 hz1 hz2
    have H4 : Hid (∀ (o : Obj) ad', some ad = some ad' → ∀ j u, es.flatten[j]? = some u → (w.alloc o).cell? (ad'.add j) = some u) := fun o ad' he j u hj => Lib.cell?_alloc_some _ (H3.out ad' he j u hj)
    have HW : Hid (∀ ty : TypeId, (w.alloc (.cells #[] ty)).ownsRow w.heap.size ty 2 (.slice (some ⟨w.heap.size, 0, none⟩) 0 0) 0 []) := fun ty => World.ownsRow_made w #[] 0 (Nat.le_refl _) (Nat.zero_le _) rfl
    go_enter Try.func52, Try.ntmps52
    go_wp2_with (at_builtin; refine wpList_append_any _ rfl _ _ 23 rfl w.heap.size 90 i0 (.agg #[.string ⟨#[]⟩, .string ⟨#[]⟩]) 2 32 Try.underlying23 HI.out HZ0.out HZ1.out HZ2.out rfl (by decide) _ 0 [] rfl (HW.out _) (some ad) es.length cap es.flatten rfl H1.out (fun h => nomatch h) (H4.out _) HO.out H5.out H6.out (by simp) ?_)
    intro v' w1 hown hgrow
    go_wp2
    go_ret
    refine ⟨v', rfl, ⟨by simpa using hown, HB.out, HS.out⟩, ?_⟩
    exact ((Below.refl _ w).alloc (Nat.le_refl _) _).grown hgrow (by simp) (by intro k hk; simp [Value.ownBlock] at hk; omega)

theorem info_runes : (Try.prog.info? 21).map (fun i => (i.zero, i.size, i.bytes)) = some (some (.int .i32 0), 1, 4) := by kernel_rfl

set_option maxHeartbeats 1000000 in
theorem clone_runes (es : List (List Value)) (S : Nat → Prop) (v : Value) (w : World) (h : Sl S w 1 4 v es) (hone : ∀ u ∈ es.flatten, u.oneCell' = true) :
    Calls Try.prog 51 #[v] w fun e w' => ∃ v', e = .returned v' ∧ OwnSl w' w.heap.size 21 1 4 v' es ∧ Below w.heap.size w w' := by
  have hsrc := h
  have hsz : ∀ e ∈ es, e.length = 1 := by obtain ⟨_, _, _, _, _, _, h5, _⟩ := h; exact h5
  have hb := h.len
  obtain ⟨a, cap, rfl⟩ := h.slice
  obtain ⟨_, s1, s2, s3⟩ := hsrc.src (by decide)
  have H1 := Lib.hid s1; have H3 := Lib.hid s3; have HO := Lib.hid hone; have HB := Lib.hid hb; have HS := Lib.hid hsz
  have H5 := Lib.hid (show 0 + es.length ≤ maxLen by unfold maxLen; omega)
  have H6 := Lib.hid (show (0 + es.length) * 4 ≤ 140737488355328 by omega)
  clear hsrc h s1 s3 hone hb hsz
  have q22 : ∀ (w : World) (a : Option Addr) (n c n' c' : Nat), (binOp .eql 24 (.slice a n c) (.slice none n' c')).run Try.prog w = .ok (.bool a.isNone) w := fun w a n c n' c' => Lib.run_eql_slice_nil w _ _ a n c n' c' Try.underlying24
  cases a with
  | none =>
    obtain ⟨h0, rfl⟩ := s2 rfl
    have : es = [] := List.eq_nil_of_length_eq_zero h0
    subst this
    clear s2
    go_enter Try.func51, Try.ntmps51
    go_wp2
    go_ret
    exact ⟨_, rfl, OwnSl.nil _ _ _ _ _, Below.refl _ _⟩
  | some ad =>
    clear s2
    obtain ⟨i0, hi, hz0, hz1, hz2⟩ := info_parts info_runes
    have HI := Lib.hid hi; have HZ0 := Lib.hid hz0; have HZ1 := Lib.hid hz1; have HZ2 := Lib.hid hz2
    clear hi hz0 hz1 hz2
    have H4 : Hid (∀ (o : Obj) ad', some ad = some ad' → ∀ j u, es.flatten[j]? = some u → (w.alloc o).cell? (ad'.add j) = some u) := fun o ad' he j u hj => Lib.cell?_alloc_some _ (H3.out ad' he j u hj)
    have HW : Hid (∀ ty : TypeId, (w.alloc (.cells #[] ty)).ownsRow w.heap.size ty 1 (.slice (some ⟨w.heap.size, 0, none⟩) 0 0) 0 []) := fun ty => World.ownsRow_made w #[] 0 (Nat.le_refl _) (Nat.zero_le _) rfl
    go_enter Try.func51, Try.ntmps51
    go_wp2_with (at_builtin; refine wpList_append_any _ rfl _ _ 24 rfl w.heap.size 21 i0 (.int .i32 0) 1 4 Try.underlying24 HI.out HZ0.out HZ1.out HZ2.out rfl (by decide) _ 0 [] rfl (HW.out _) (some ad) es.length cap es.flatten rfl H1.out (fun h => nomatch h) (H4.out _) HO.out H5.out H6.out (by simp) ?_)
    intro v' w1 hown hgrow
    go_wp2
    go_ret
    refine ⟨v', rfl, ⟨by simpa using hown, HB.out, HS.out⟩, ?_⟩
    exact ((Below.refl _ w).alloc (Nat.le_refl _) _).grown hgrow (by simp) (by intro k hk; simp [Value.ownBlock] at hk; omega)

theorem info_nodes : (Try.prog.info? 27).map (fun i => (i.zero, i.size, i.bytes)) = some (some (.agg #[.bool false, .slice none 0 0, .slice none 0 0, .slice none 0 0]), 4, 80) := by kernel_rfl

set_option maxHeartbeats 1000000 in
theorem clone_nodes (es : List (List Value)) (S : Nat → Prop) (v : Value) (w : World) (h : Sl S w 4 80 v es) (hone : ∀ u ∈ es.flatten, u.oneCell' = true) :
    Calls Try.prog 66 #[v] w fun e w' => ∃ v', e = .returned v' ∧ OwnSl w' w.heap.size 27 4 80 v' es ∧ Below w.heap.size w w' := by
  have hsrc := h
  have hsz : ∀ e ∈ es, e.length = 4 := by obtain ⟨_, _, _, _, _, _, h5, _⟩ := h; exact h5
  have hb := h.len
  obtain ⟨a, cap, rfl⟩ := h.slice
  obtain ⟨_, s1, s2, s3⟩ := hsrc.src (by decide)
  have H1 := Lib.hid s1; have H3 := Lib.hid s3; have HO := Lib.hid hone; have HB := Lib.hid hb; have HS := Lib.hid hsz
  have H5 := Lib.hid (show 0 + es.length ≤ maxLen by unfold maxLen; omega)
  have H6 := Lib.hid (show (0 + es.length) * 80 ≤ 140737488355328 by omega)
  clear hsrc h s1 s3 hone hb hsz
  have q22 : ∀ (w : World) (a : Option Addr) (n c n' c' : Nat), (binOp .eql 25 (.slice a n c) (.slice none n' c')).run Try.prog w = .ok (.bool a.isNone) w := fun w a n c n' c' => Lib.run_eql_slice_nil w _ _ a n c n' c' Try.underlying25
  cases a with
  | none =>
    obtain ⟨h0, rfl⟩ := s2 rfl
    have : es = [] := List.eq_nil_of_length_eq_zero h0
    subst this
    clear s2
    go_enter Try.func66, Try.ntmps66
    go_wp2
    go_ret
    exact ⟨_, rfl, OwnSl.nil _ _ _ _ _, Below.refl _ _⟩
  | some ad =>
    clear s2
    obtain ⟨i0, hi, hz0, hz1, hz2⟩ := info_parts info_nodes
    have HI := Lib.hid hi; have HZ0 := Lib.hid hz0; have HZ1 := Lib.hid hz1; have HZ2 := Lib.hid hz2
    clear hi hz0 hz1 hz2
    have H4 : Hid (∀ (o : Obj) ad', some ad = some ad' → ∀ j u, es.flatten[j]? = some u → (w.alloc o).cell? (ad'.add j) = some u) := fun o ad' he j u hj => Lib.cell?_alloc_some _ (H3.out ad' he j u hj)
    have HW : Hid (∀ ty : TypeId, (w.alloc (.cells #[] ty)).ownsRow w.heap.size ty 4 (.slice (some ⟨w.heap.size, 0, none⟩) 0 0) 0 []) := fun ty => World.ownsRow_made w #[] 0 (Nat.le_refl _) (Nat.zero_le _) rfl
    go_enter Try.func66, Try.ntmps66
    go_wp2_with (at_builtin; refine wpList_append_any _ rfl _ _ 25 rfl w.heap.size 27 i0 (.agg #[.bool false, .slice none 0 0, .slice none 0 0, .slice none 0 0]) 4 80 Try.underlying25 HI.out HZ0.out HZ1.out HZ2.out rfl (by decide) _ 0 [] rfl (HW.out _) (some ad) es.length cap es.flatten rfl H1.out (fun h => nomatch h) (H4.out _) HO.out H5.out H6.out (by simp) ?_)
    intro v' w1 hown hgrow
    go_wp2
    go_ret
    refine ⟨v', rfl, ⟨by simpa using hown, HB.out, HS.out⟩, ?_⟩
    exact ((Below.refl _ w).alloc (Nat.le_refl _) _).grown hgrow (by simp) (by intro k hk; simp [Value.ownBlock] at hk; omega)
end Go.Proofs.Ytcbljiiomnhbjaa
