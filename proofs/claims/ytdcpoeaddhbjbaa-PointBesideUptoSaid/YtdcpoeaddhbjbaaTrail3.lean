/- Walks of package trail: Common, Parent, beside, Next, Back. -/
import Derived.Test.YtdcpoeaddhbjbaaTrail2
namespace Go.Proofs.Ytdcpoeaddhbjbaa
set_option maxRecDepth 100000
open Go.RowKit

theorem Ints.take {w : World} {a : Option Addr} {n cap k : Nat} {xs : List Int} (h : Ints w (.slice a n cap) xs) (hk : k ≤ xs.length) : Ints w (.slice a k cap) (xs.take k) := by
  obtain ⟨a', cap', he, h1, hm, h2, h4⟩ := h
  simp only [Value.slice.injEq] at he
  obtain ⟨rfl, rfl, rfl⟩ := he
  have hl : (xs.take k).length = k := by simp; omega
  refine ⟨a, cap, by rw [hl], by omega, hm, by omega, fun hp => ?_⟩
  obtain ⟨b, off, rfl, hc⟩ := h4 hp
  refine ⟨b, off, rfl, fun j hj => ?_⟩
  rw [hc j (by omega)]
  have : j < k := by omega
  simp [this]

/-- A result of two: a slice of ints of the call's own, and an error's number. -/
def Two (xs : List Int) (n : Int) (w : World) (e : Ending) (w' : World) : Prop :=
  ∃ v', e = .returned (.tuple #[v', .int .i64 n]) ∧ Own w' w.heap.size v' xs ∧ Below w.heap.size w w'

theorem Two.nil {xs : List Int} {n m : Int} {w w' : World} (hx : xs = []) (hn : m = n) (hb : Below w.heap.size w w') : Two xs n w (.returned (.tuple #[.slice none 0 0, .int .i64 m])) w' := by
  subst hx hn
  exact ⟨_, rfl, Own.nil _ _, hb⟩
theorem Two.mk {xs : List Int} {n m : Int} {w w' : World} {v : Value} (h : Own w' w.heap.size v xs) (hn : m = n) (hb : Below w.heap.size w w') : Two xs n w (.returned (.tuple #[v, .int .i64 m])) w' := by
  subst hn
  exact ⟨_, rfl, h, hb⟩

/-- A path's parent. -/
def parentL (xs : List Int) : List Int := xs.take (xs.length - 1)
def parentE (xs : List Int) : Int := if xs.length = 0 then 6 else 0

set_option maxHeartbeats 400000 in
theorem parent_any (xs : List Int) (v : Value) (w : World) (h : Ints w v xs) :
    Calls Try.prog 61 #[v] w (Two (parentL xs) (parentE xs) w) := by
  obtain ⟨a1, c1, rfl, l1, _, b1, _⟩ := id h
  by_cases h0 : xs.length = 0
  · have q : (((xs.length : Nat) : Int) == 0) = true := by simp [h0]
    have H0 := Lib.hid h0
    clear h0
    go_enter Try.func61, Try.ntmps61
    go_wp2
    go_ret2
    exact Two.nil (by simp [parentL, H0.out]) (by rw [parentE, if_pos H0.out]) (Below.refl _ _)
  · have q : (((xs.length : Nat) : Int) == 0) = false := by rw [beq_eq_false_iff_ne]; omega
    have H0 := Lib.hid h0
    have p : 0 < xs.length := by omega
    clear h0
    go_enter Try.func61, Try.ntmps61
    go_wp2_with fail
    refine (clone_ints (parentL xs) _ _ (h.take (by omega))).mono ?_
    rintro e w2 ⟨v', rfl, ho, hb⟩
    go_wp2
    go_ret2
    exact Two.mk ho (by rw [parentE, if_neg H0.out]) hb
/-- A slice of the call's own, an element of it: where it lies, what a store into it does. -/
theorem Own.at_ {w : World} {B : Nat} {v : Value} {xs : List Int} (h : Own w B v xs) (i : Nat) (hi : i < xs.length) :
    ∃ g cap, v = .slice (some ⟨g, 0, none⟩) xs.length cap ∧ xs.length ≤ cap ∧ B ≤ g ∧ g < w.heap.size ∧ w.cell? ⟨g, i, none⟩ = some (.int .i64 (xs.getD i 0)) ∧ w.frozen? ⟨g, i, none⟩ = false ∧
      ∀ x : Int, Own (w.setCell ⟨g, i, none⟩ (.int .i64 x)) B v (xs.set i x) ∧ Below B w (w.setCell ⟨g, i, none⟩ (.int .i64 x)) := by
  obtain ⟨⟨hl, h⟩, hb⟩ := id h
  rcases h with ⟨rfl, h0⟩ | ⟨g, cap, cur, rfl, hB, hg, hn, hm, hs, ht⟩
  · omega
  · have hic : i < cur.size := by omega
    have hcur : cur.toList[i]? = some (.int .i64 (xs.getD i 0)) := by
      have : (cur.toList.take (xs.length * 1))[i]? = (xs.map (Value.int .i64))[i]? := by rw [ht]
      rw [List.getElem?_take, if_pos (by omega)] at this
      rw [this]
      simp [hi]
    have hgl := lt_of_block hg
    refine ⟨g, cap, rfl, hn, hB, hgl, ?_, ?_, fun x => ⟨⟨⟨by simp, .inr ⟨g, cap, cur.setIfInBounds i (.int .i64 x), by simp, hB, ?_, by simpa using hn, hm, by simpa using hs, ?_⟩⟩, by simpa using hb⟩, ?_⟩⟩
    · rw [cell_of_row w g i cur _ (0, 0) hg]
      simpa using hcur
    · simp [World.frozen?, hg]
    · show (w.heap.modify g _)[g]? = _
      have h' : w.heap[g] = .cells cur 3 (0, 0) := by simpa [Array.getElem?_eq_getElem hgl] using hg
      rw [Array.getElem?_eq_getElem (by simpa using hgl), Array.getElem_modify_self, h']
      rfl
    · simp only [Array.toList_setIfInBounds, List.length_set, List.map_set, ← ht]
      rw [List.take_set]
    · exact (Below.refl B w).setCell (p := ⟨g, i, none⟩) hB _

end Go.Proofs.Ytdcpoeaddhbjbaa
