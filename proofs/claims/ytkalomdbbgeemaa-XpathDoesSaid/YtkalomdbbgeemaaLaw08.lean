/- Walks of package redlinelaw08's own helpers: live, short. -/
import Derived.Test.YtkalomdbbgeemaaXpath5
import Derived.Test.YtkalomdbbgeemaaLawLevels
namespace Go.Proofs.Ytkalomdbbgeemaa
open Go.RowKit

theorem Ints.nil (w : World) : Ints w (.slice none 0 0) [] := ⟨none, 0, rfl, Nat.le_refl _, by unfold maxLen; omega, by simp, fun h => by omega⟩

theorem OpAt.below {B : Nat} {w w' : World} {v : Value} {kind pos : Int} {q to : List Int} (h : OpAt w v kind q to pos) (hb : Below B w w') (hB : w.heap.size ≤ B) : OpAt w' v kind q to pos := by
  obtain ⟨pv, tv, r4, r5, r6, r7, r8, r9, r10, r11, r12, r13, r14, r15, r16, r17, r18, r19, r20, rfl, hp, ht⟩ := h
  exact ⟨pv, tv, r4, r5, r6, r7, r8, r9, r10, r11, r12, r13, r14, r15, r16, r17, r18, r19, r20, rfl, hp.below hb hB, ht.below hb hB⟩

/-- A box's cells in a later world. -/
theorem box_later {w w1 : World} {o : Obj} (hb : Below (w.alloc o).heap.size (w.alloc o) w1) : ∀ i, w1.cell? ⟨w.heap.size, i, none⟩ = (w.alloc o).cell? ⟨w.heap.size, i, none⟩ :=
  fun i => hb.cell (p := ⟨w.heap.size, i, none⟩) (by simp)

theorem box_get {w w1 : World} {cs : Array Value} {t : TypeId} (hb : Below (w.alloc (.cells cs t)).heap.size (w.alloc (.cells cs t)) w1) (i : Nat) (x : Value) (h : cs[i]? = some x) : w1.cell? ⟨w.heap.size, i, none⟩ = some x := by
  rw [box_later hb i, cell_of_row _ w.heap.size i cs t (0, 0) (heap_alloc_new w _), h]
theorem box_blk {w w1 : World} {cs : Array Value} {t : TypeId} (hb : Below (w.alloc (.cells cs t)).heap.size (w.alloc (.cells cs t)) w1) : w1.heap[w.heap.size]? = some (.cells cs t (0, 0)) := by
  rw [hb.block w.heap.size (by simp)]
  exact heap_alloc_new w _
theorem blk_below {w w1 : World} {g : Nat} {o : Obj} (h : w.heap[g]? = some o) (hb : Below w.heap.size w w1) : w1.heap[g]? = some o := by
  rw [hb.block g (lt_of_block h), h]
theorem OpAt.alloc {w : World} {v : Value} {kind pos : Int} {q to : List Int} (h : OpAt w v kind q to pos) (o : Obj) : OpAt (w.alloc o) v kind q to pos :=
  h.below ((Below.refl w.heap.size w).alloc (Nat.le_refl _) o) (Nat.le_refl _)

set_option maxHeartbeats 1000000 in
theorem live8_any (w : World) : Calls Try.prog 38 #[] w fun e w' => e = .returned (.bool true) ∧ Below w.heap.size w w' := by
  have hm : moveP [0, 1, 5] 1 [0, 1] [] 0 = some [0, 2, 5] := by decide
  have HM := Lib.hid hm
  clear hm
  go_enter Try.func38, Try.ntmps38
  go_wp2_with fail
  refine (xmove_any [0, 1, 5] [0, 1] [] 1 0 _ _ _ ((lit_ints w _ 3 _ _ rfl rfl rfl (by simp)).alloc _) ⟨_, _, _, _, _, _, _, _, _, _, _, _, _, _, _, _, _, _, _, rfl, lit_ints (w.alloc _) _ 2 (w.heap.size + 1) _ (by simp) rfl rfl (by simp), Ints.nil _⟩ (by simp)).mono ?_
  rintro e w1 ⟨v', rfl, ho, hb⟩
  rw [HM.out] at ho
  rw [HM.out]
  have g := ho.ints
  have hb1 := gr_tr (gr_al (gr_al (gr_refl w) _) _) hb
  clear ho hb
  obtain ⟨a, n, c, rfl⟩ := g.slice3
  have qs : decide ((some [0, 2, 5]).getD [] = [(0 : Int), 2, 5]) = true := by decide
  go_wp2_with fail
  refine (rsame_any _ _ _ _ _ (g.alloc _) (lit_ints w1 _ 3 _ [0, 2, 5] rfl rfl rfl (by simp))).mono ?_
  rintro e w2 ⟨rfl, hs⟩
  rw [qs]
  go_wp2
  go_ret
  exact ⟨rfl, gr_sm (gr_al hb1 _) hs⟩

/-- Are all paths short enough? -/
def short8B (xss : List (List Int)) (q to : List Int) : Bool := shortB 60 xss && (decide (q.length ≤ 60) && decide (to.length ≤ 60))

set_option maxHeartbeats 1000000 in
theorem short8_any (xss : List (List Int)) (q to : List Int) (kind pos : Int) (v1 v2 : Value) (w : World) (h1 : OpAt w v1 kind q to pos) (h : IntsL w v2 xss) :
    Calls Try.prog 39 #[v1, v2] w fun e w' => e = .returned (.bool (short8B xss q to)) ∧ Below w.heap.size w w' := by
  obtain ⟨pv, tv, r4, r5, r6, r7, r8, r9, r10, r11, r12, r13, r14, r15, r16, r17, r18, r19, r20, rfl, hp, ht⟩ := h1
  obtain ⟨a1, c1, rfl⟩ := hp.slice
  obtain ⟨a2, c2, rfl⟩ := ht.slice
  clear hp ht
  have h' := h.below ((Below.refl w.heap.size w).alloc (Nat.le_refl _) (.cells #[.int .i64 kind, .slice a1 q.length c1, .slice a2 to.length c2, .int .i64 pos, r4, r5, r6, r7, r8, r9, r10, r11, r12, r13, r14, r15, r16, r17, r18, r19, r20] 50)) (Nat.le_refl _)
  obtain ⟨a, cap, vs, rfl, hc, _, hv, hb, ho, hi⟩ := h'
  have hbw := gr_al (gr_refl w) (.cells #[.int .i64 kind, .slice a1 q.length c1, .slice a2 to.length c2, .int .i64 pos, r4, r5, r6, r7, r8, r9, r10, r11, r12, r13, r14, r15, r16, r17, r18, r19, r20] 50)
  have HBW := Lib.hid hbw
  clear h hbw
  go_enter Try.func39, Try.ntmps39
  go_wp2
  go_loop [9] (fun i => ∃ k : Nat, k ≤ xss.length ∧ i = .int .i64 k ∧ Hid (∀ j, j < k → (xss.getD j []).length ≤ 60)) (fun i => xss.length - (intOf i).toNat)
  case atStart => exact ⟨0, Nat.zero_le _, rfl, by intro j hj; omega⟩
  case round =>
    obtain ⟨k, hk, rfl, HR⟩ := hrel
    by_cases hlt : k < xss.length
    · obtain ⟨b, off, rfl, hcell⟩ := ho (by omega)
      have hck := hcell k hlt
      have hik := hi k hlt
      obtain ⟨a', n', c', hsl⟩ : ∃ a n c, vs.getD k (.slice none 0 0) = .slice a n c := by obtain ⟨a, c, h, _⟩ := hik; exact ⟨a, _, c, h⟩
      rw [hsl] at hck hik
      obtain ⟨_, _, hn, _⟩ := hik
      simp only [Value.slice.injEq] at hn
      obtain ⟨_, rfl, _⟩ := hn
      clear ho hi hcell hsl
      generalize hm : (xss.getD k []).length = m at *
      have HM := Lib.hid hm
      clear hm
      by_cases hs : m ≤ 60
      · go_wp2
        go_round
        case rel =>
          refine ⟨k + 1, by omega, by go_num, ?_⟩
          intro j hj
          by_cases hjk : j = k
          · subst hjk; rw [HM.out]; exact hs
          · exact HR.out j (by omega)
        case measure => simp [intOf]; omega
      · go_wp2
        go_ret
        refine ⟨ret_bool ?_, HBW.out⟩
        have : shortB 60 xss = false := by
          rw [shortB, List.all_eq_false]
          refine ⟨xss.getD k [], ?_, by rw [HM.out]; simpa using hs⟩
          simp [hlt]
        simp [short8B, this]
    · have hkn : k = xss.length := by omega
      subst hkn
      have HS : Hid (shortB 60 xss = true) := by
        show _ = _
        rw [shortB, List.all_eq_true]
        intro x hx
        obtain ⟨j, hj, rfl⟩ := List.getElem_of_mem hx
        have := HR.out j hj
        simpa [hj] using this
      clear hlt ho hi
      by_cases l1 : q.length ≤ 60
      · have d1 : decide (q.length ≤ 60) = true := by simpa using l1
        go_wp2
        go_ret
        refine ⟨ret_bool ?_, HBW.out⟩
        rw [short8B, HS.out, d1, Bool.true_and, Bool.true_and, Bool.eq_iff_iff]
        simp only [decide_eq_true_eq]
        omega
      · have d1 : decide (q.length ≤ 60) = false := by simpa using l1
        go_wp2
        go_ret
        refine ⟨ret_bool ?_, HBW.out⟩
        rw [short8B, HS.out, d1]
        simp
end Go.Proofs.Ytkalomdbbgeemaa
