/- Walks of package redlinelaw02's own helpers: live, short. -/
import Derived.Test.YtkalomdbbgeemaaTrail5
namespace Go.Proofs.Ytkalomdbbgeemaa
open Go.RowKit

theorem Ints.alloc {w : World} {v : Value} {xs : List Int} (h : Ints w v xs) (o : Obj) : Ints (w.alloc o) v xs :=
  h.below ((Below.refl w.heap.size w).alloc (Nat.le_refl _) o) (Nat.le_refl _)

/-- A literal slice of ints. -/
theorem lit_ints (w : World) (c : Array Value) (n g : Nat) (xs : List Int) (hg : w.heap.size = g) (hc : c = (xs.map (Value.int .i64)).toArray) (hn : n = xs.length) (hs : xs.length * 8 ≤ 140737488351232) :
    Ints (w.alloc (.cells c 3)) (.slice (some ⟨g, 0, none⟩) n n) xs := by
  subst hc hn hg
  refine ⟨_, _, rfl, Nat.le_refl _, by unfold maxLen; omega, hs, fun _ => ?_⟩
  refine ⟨w.heap.size, 0, rfl, fun j hj => ?_⟩
  rw [cell_of_row _ w.heap.size (0 + j) _ _ (0, 0) (heap_alloc_new w _)]
  simp [hj]

set_option maxHeartbeats 400000 in
theorem live_any (w : World) : Calls Try.prog 14 #[] w fun e w' => e = .returned (.bool true) ∧ Below w.heap.size w w' := by
  have q1 : leftB [0, 2] [0, 3, 1] = true := by decide
  have q2 : aboveB [0] [0, 2] = true := by decide
  have q3 : aboveB [0] [0, 3, 1] = true := by decide
  have q4 : leftB [0, 3, 1] [0, 2] = false := by decide
  go_enter Try.func14, Try.ntmps14
  go_wp2_with fail
  refine (left_any [0, 2] [0, 3, 1] _ _ _ ((lit_ints w _ 2 _ _ rfl rfl rfl (by simp)).alloc _) (lit_ints (w.alloc _) _ 3 (w.heap.size + 1) _ (by simp) rfl rfl (by simp))).mono ?_
  rintro e w1 ⟨rfl, hs1⟩
  go_wp2_with fail
  refine (above_any [0] [0, 2] _ _ _ ((lit_ints w1 _ 1 _ _ rfl rfl rfl (by simp)).alloc _) (lit_ints (w1.alloc _) _ 2 (w1.heap.size + 1) _ (by simp) rfl rfl (by simp))).mono ?_
  rintro e w2 ⟨rfl, hs2⟩
  go_wp2_with fail
  refine (above_any [0] [0, 3, 1] _ _ _ ((lit_ints w2 _ 1 _ _ rfl rfl rfl (by simp)).alloc _) (lit_ints (w2.alloc _) _ 3 (w2.heap.size + 1) _ (by simp) rfl rfl (by simp))).mono ?_
  rintro e w3 ⟨rfl, hs3⟩
  go_wp2_with fail
  refine (left_any [0, 3, 1] [0, 2] _ _ _ ((lit_ints w3 _ 3 _ _ rfl rfl rfl (by simp)).alloc _) (lit_ints (w3.alloc _) _ 2 (w3.heap.size + 1) _ (by simp) rfl rfl (by simp))).mono ?_
  rintro e w4 ⟨rfl, hs4⟩
  go_wp2
  go_ret
  exact ⟨rfl, gr_sm (gr_al (gr_al (gr_sm (gr_al (gr_al (gr_sm (gr_al (gr_al (gr_sm (gr_al (gr_al (gr_refl w) _) _) hs1) _) _) hs2) _) _) hs3) _) _) hs4⟩
/-- Slices of ints, in a slice. -/
def IntsL (w : World) (v : Value) (xss : List (List Int)) : Prop :=
  ∃ (a : Option Addr) (cap : Nat) (vs : List Value), v = .slice a xss.length cap ∧ xss.length ≤ cap ∧ cap ≤ maxLen ∧ vs.length = xss.length ∧ xss.length * 24 ≤ 140737488351232 ∧
    (0 < xss.length → ∃ b off, a = some ⟨b, off, none⟩ ∧ ∀ j, j < xss.length → w.cell? ⟨b, off + j, none⟩ = some (vs.getD j (.slice none 0 0))) ∧
    ∀ j, j < xss.length → Ints w (vs.getD j (.slice none 0 0)) (xss.getD j [])

/-- Are all short? -/
def shortB (m : Nat) (xss : List (List Int)) : Bool := xss.all fun xs => decide (xs.length ≤ m)

set_option maxHeartbeats 400000 in
theorem short_any (xss : List (List Int)) (v : Value) (w : World) (h : IntsL w v xss) :
    Calls Try.prog 15 #[v] w fun e w' => e = .returned (.bool (shortB 100 xss)) ∧ w = w' := by
  obtain ⟨a, cap, vs, rfl, hc, _, hv, hb, ho, hi⟩ := h
  go_enter Try.func15, Try.ntmps15
  go_wp2
  go_loop [7] (fun i => ∃ k : Nat, k ≤ xss.length ∧ i = .int .i64 k ∧ ∀ j, j < k → (xss.getD j []).length ≤ 100) (fun i => xss.length - (intOf i).toNat)
  case atStart => exact ⟨0, Nat.zero_le _, rfl, fun j hj => by omega⟩
  case round =>
    obtain ⟨k, hk, rfl, hr⟩ := hrel
    have HR := Lib.hid hr
    clear hr
    by_cases hlt : k < xss.length
    · obtain ⟨b, off, rfl, hcell⟩ := ho (by omega)
      have hck := hcell k hlt
      have hik := hi k hlt
      obtain ⟨a', n', c', hsl⟩ : ∃ a n c, vs.getD k (.slice none 0 0) = .slice a n c := by obtain ⟨a, c, h, _⟩ := hik; exact ⟨a, _, c, h⟩
      rw [hsl] at hck hik
      obtain ⟨_, _, hn, _⟩ := hik
      simp only [Value.slice.injEq] at hn
      obtain ⟨_, rfl, _⟩ := hn
      clear ho hi hcell hsl
      generalize hm : (xss.getD k []).length = m at *
      have HM := Lib.hid hm
      clear hm
      by_cases hs : m ≤ 100
      · go_wp2
        go_round
        case rel =>
          refine ⟨k + 1, by omega, by go_num, fun j hj => ?_⟩
          by_cases hjk : j = k
          · subst hjk; rw [HM.out]; exact hs
          · exact HR.out j (by omega)
        case measure => simp [intOf]; omega
      · go_wp2
        go_ret
        refine ⟨ret_bool ?_, rfl⟩
        rw [eq_comm, shortB, List.all_eq_false]
        refine ⟨xss.getD k [], ?_, by rw [HM.out]; simpa using hs⟩
        simp [hlt]
    · have hkn : k = xss.length := by omega
      subst hkn
      clear hlt ho hi
      go_wp2
      go_ret
      refine ⟨ret_bool ?_, rfl⟩
      rw [eq_comm, shortB, List.all_eq_true]
      intro x hx
      obtain ⟨j, hj, rfl⟩ := List.getElem_of_mem hx
      have := HR.out j hj
      simpa [hj] using this
theorem IntsL.below {B : Nat} {w w' : World} {v : Value} {xss : List (List Int)} (h : IntsL w v xss) (hb : Below B w w') (hB : w.heap.size ≤ B) : IntsL w' v xss := by
  obtain ⟨a, cap, vs, h1, h2, h3, h4, h5, h6, h7⟩ := h
  refine ⟨a, cap, vs, h1, h2, h3, h4, h5, fun hp => ?_, fun j hj => (h7 j hj).below hb hB⟩
  obtain ⟨b, off, rfl, hc⟩ := h6 hp
  refine ⟨b, off, rfl, fun j hj => ?_⟩
  have := hc j hj
  rw [← this]
  exact hb.cell (p := ⟨b, off + j, none⟩) (Nat.lt_of_lt_of_le (World.block_lt_of_cell? w _ this) hB)

theorem OwnL.ints {w : World} {B : Nat} {v : Value} {xss : List (List Int)} (h : OwnL w B v xss) (hs : xss.length * 24 ≤ 140737488351232) : IntsL w v xss := by
  obtain ⟨vs, h1, h2⟩ := h
  have hl : vs.length = xss.length := by simpa using h1.1
  obtain ⟨_, h⟩ := id h1
  rcases h with ⟨rfl, h0⟩ | ⟨g, cap, cur, rfl, _, hg, hn, hm, _, ht⟩
  · exact ⟨none, 0, vs, by rw [h0], by omega, by simp [maxLen], hl, hs, (fun hp => by omega), fun j hj => (h2 j hj).ints⟩
  · refine ⟨_, cap, vs, rfl, hn, hm, hl, hs, fun hp => ⟨g, 0, rfl, fun j hj => ?_⟩, fun j hj => (h2 j hj).ints⟩
    rw [cell_of_row w g (0 + j) cur _ (0, 0) hg]
    have : (cur.toList.take (xss.length * 1))[j]? = vs[j]? := by rw [ht]
    rw [List.getElem?_take, if_pos (by omega)] at this
    rw [show cur[0 + j]? = cur.toList[j]? from by simp, this]
    simp [show j < vs.length by omega]

/-- One of them: the cell where it lies, and what it reads as. -/
theorem IntsL.at_ {w : World} {v : Value} {xss : List (List Int)} (h : IntsL w v xss) (k : Nat) (hk : k < xss.length) :
    ∃ b off cap vk, v = .slice (some ⟨b, off, none⟩) xss.length cap ∧ xss.length ≤ cap ∧ xss.length * 24 ≤ 140737488351232 ∧ w.cell? ⟨b, off + k, none⟩ = some vk ∧ Ints w vk (xss.getD k []) := by
  obtain ⟨a, cap, vs, rfl, h2, h3, h4, h5, h6, h7⟩ := h
  obtain ⟨b, off, rfl, hc⟩ := h6 (by omega)
  exact ⟨b, off, cap, _, rfl, h2, h5, hc k hk, h7 k hk⟩

end Go.Proofs.Ytkalomdbbgeemaa
