/- Walks of package redlineref02: Common, Levels, SameAll. -/
import Derived.Test.YtdcpoeaddhbjbaaRef02a
import Derived.Test.YtdcpoeaddhbjbaaRef02c
import Derived.Test.YtdcpoeaddhbjbaaLaw02
namespace Go.Proofs.Ytdcpoeaddhbjbaa
set_option maxRecDepth 100000
open Go.RowKit

theorem one_int (x : Int) : ∀ u ∈ [Value.int .i64 x], u.oneCell' = true := by
  intro u hu
  simp at hu
  subst hu
  rfl
theorem one_sl (a : Option Addr) (n c : Nat) : ∀ u ∈ [Value.slice a n c], u.oneCell' = true := by
  intro u hu
  simp at hu
  subst hu
  rfl

theorem Own.same {w w' : World} {B : Nat} {v : Value} {xs : List Int} (h : Own w B v xs) (hs : Same w w') : Own w' B v xs := ⟨row_same h.1 hs, h.2⟩

theorem take_snoc {xs : List Int} {k : Nat} (h : k < xs.length) : xs.take (k + 1) = xs.take k ++ [xs[k]] := by
  rw [List.take_succ_eq_append_getElem h]

/-- The first k levels. -/
def levK (xs : List Int) (k : Nat) : List (List Int) := (List.range k).map fun i => xs.take i
theorem levK_len (xs : List Int) (k : Nat) : (levK xs k).length = k := by simp [levK]
theorem levK_succ (xs : List Int) (k : Nat) : levK xs (k + 1) = levK xs k ++ [xs.take k] := by simp [levK, List.range_succ]

theorem Own.kept {w w' : World} {B : Nat} {v u : Value} {n : Nat} {xs : List Int} {us : List Value} {C : Nat} (h : Own w B v xs) (hr : w.ownsRow C 27 1 u n us) (hg : w.grownBy w' u.ownBlock) : Own w' B v xs :=
  ⟨h.1.kept hg (row_apart h.1 hr (by decide)), h.2⟩

/-- One more behind a list of the call's own. -/
theorem OwnL.push {wr w2 w3 : World} {B C : Nat} {v v' vk : Value} {xss : List (List Int)} {vs : List Value} {x : List Int} {o : Obj} (h1 : wr.ownsRow B 27 1 v xss.length vs)
    (h2 : ∀ j, j < xss.length → Own wr B (vs.getD j (.slice none 0 0)) (xss.getD j [])) (hb : Below wr.heap.size wr w2) (hk : Own w2 C vk x) (hC : B ≤ C)
    (hown : w3.ownsRow B 27 1 v' (xss.length + 1) (vs ++ [vk])) (hg : (w2.alloc o).grownBy w3 v.ownBlock) : OwnL w3 B v' (xss ++ [x]) := by
  have hvl : vs.length = xss.length := by simpa using h1.1
  have r1 := (row_below h1 hb (Nat.le_refl _)).alloc o
  refine ⟨vs ++ [vk], by simpa using hown, fun j hj => ?_⟩
  rcases Nat.lt_or_ge j xss.length with hl | hl
  · rw [show (vs ++ [vk]).getD j (.slice none 0 0) = vs.getD j (.slice none 0 0) from by simp [List.getD, List.getElem?_append_left (show j < vs.length by omega)],
      show (xss ++ [x]).getD j [] = xss.getD j [] from by simp [List.getD, List.getElem?_append_left hl]]
    have := ((h2 j hl).below hb (Nat.le_refl _))
    exact Own.kept ⟨this.1.alloc o, this.2⟩ r1 hg
  · have hj' : j = xss.length := by simp at hj; omega
    subst hj'
    rw [show (vs ++ [vk]).getD xss.length (.slice none 0 0) = vk from by rw [← hvl]; simp [List.getD],
      show (xss ++ [x]).getD xss.length [] = x from by simp [List.getD]]
    have := hk.mono hC
    exact Own.kept ⟨this.1.alloc o, this.2⟩ r1 hg

theorem agreeL_succ {xss yss : List (List Int)} {k : Nat} (h : ∀ j, j < k → xss.getD j [] = yss.getD j []) (he : xss.getD k [] = yss.getD k []) : ∀ j, j < k + 1 → xss.getD j [] = yss.getD j [] := by
  intro j hj
  by_cases hjk : j = k
  · subst hjk; exact he
  · exact h j (by omega)
theorem agreeL_eq {xss yss : List (List Int)} (hl : xss.length = yss.length) (h : ∀ j, j < xss.length → xss.getD j [] = yss.getD j []) : xss = yss := by
  apply List.ext_getElem hl
  intro i h1 h2
  have := h i h1
  simpa [h1, h2] using this

set_option maxHeartbeats 1000000 in
theorem rsameall_any (xss yss : List (List Int)) (v1 v2 : Value) (w : World) (h1 : IntsL w v1 xss) (h2 : IntsL w v2 yss) :
    Calls Try.prog 20 #[v1, v2] w fun e w' => e = .returned (.bool (decide (xss = yss))) ∧ Same w w' := by
  obtain ⟨a1, c1, e1⟩ : ∃ a c, v1 = .slice a xss.length c := by obtain ⟨a, c, _, h, _⟩ := h1; exact ⟨a, c, h⟩
  obtain ⟨a2, c2, e2⟩ : ∃ a c, v2 = .slice a yss.length c := by obtain ⟨a, c, _, h, _⟩ := h2; exact ⟨a, c, h⟩
  subst e1 e2
  have b1 : xss.length * 24 ≤ 140737488351232 := by obtain ⟨_, _, _, _, _, _, _, h, _⟩ := h1; exact h
  have b2 : yss.length * 24 ≤ 140737488351232 := by obtain ⟨_, _, _, _, _, _, _, h, _⟩ := h2; exact h
  by_cases hl : xss.length = yss.length
  · have hne : (((xss.length : Nat) : Int) != ((yss.length : Nat) : Int)) = false := by simp [hl]
    have HL := Lib.hid hl
    clear hl
    go_enter Try.func20, Try.ntmps20
    go_wp2
    go_loopw [13] (fun i wr => ∃ k : Nat, k ≤ xss.length ∧ i = .int .i64 k ∧ Hid (∀ j, j < k → xss.getD j [] = yss.getD j []) ∧ Same w wr) (fun i _ => xss.length - (intOf i).toNat)
    case atStart => exact ⟨0, Nat.zero_le _, rfl, (by intro j hj; omega), Same.refl _⟩
    case round =>
      obtain ⟨k, hk, rfl, HAG, hs⟩ := hrel
      by_cases hlt : k < xss.length
      · have hlt2 : k < yss.length := by have := HL.out; omega
        obtain ⟨p1, f1, c1', u1, hv1, l1, _, d1, g1⟩ := h1.at_ k hlt
        obtain ⟨p2, f2, c2', u2, hv2, l2, _, d2, g2⟩ := h2.at_ k hlt2
        simp only [Value.slice.injEq] at hv1 hv2
        obtain ⟨rfl, x1, rfl⟩ := hv1
        obtain ⟨rfl, x2, rfl⟩ := hv2
        clear x1 x2
        obtain ⟨av1, nv1, cv1, rfl⟩ := g1.slice3
        obtain ⟨av2, nv2, cv2, rfl⟩ := g2.slice3
        have q1 := (hs.cell _).trans d1
        have q2 := (hs.cell _).trans d2
        clear d1 d2
        cases hsb : decide (xss.getD k [] = yss.getD k [])
        · have hc := fun n => rsame_any _ _ _ _ (wr.drewN n) ((g1.same hs).same ⟨n, rfl⟩) ((g2.same hs).same ⟨n, rfl⟩)
          rw [hsb] at hc
          have HC := Lib.hid hc
          have HN : Hid (¬ xss.getD k [] = yss.getD k []) := of_decide_eq_false hsb
          clear hc g1 g2 hsb h1 h2
          go_wp2
          go_quiet ((go_at_call 67; exact Calls.quiet_of (HC.out _)))
          go_wp2
          go_ret
          refine ⟨ret_bool ?_, hs.drewN _⟩
          rw [eq_comm, decide_eq_false_iff_not]
          rintro rfl
          exact HN.out rfl
        · have hc := fun n => rsame_any _ _ _ _ (wr.drewN n) ((g1.same hs).same ⟨n, rfl⟩) ((g2.same hs).same ⟨n, rfl⟩)
          rw [hsb] at hc
          have HC := Lib.hid hc
          have HN := Lib.hid (of_decide_eq_true hsb)
          clear hc g1 g2 hsb h1 h2
          go_wp2
          go_quiet ((go_at_call 67; exact Calls.quiet_of (HC.out _)))
          go_wp2
          go_roundw
          case rel => exact ⟨k + 1, by omega, by go_num, agreeL_succ HAG.out HN.out, hs.drewN _⟩
          case measure => simp [intOf]; omega
      · have hkn : k = xss.length := by omega
        subst hkn
        clear hlt hk h1 h2
        go_wp2
        go_ret
        exact ⟨ret_bool (by rw [eq_comm, decide_eq_true_eq]; exact agreeL_eq HL.out HAG.out), hs⟩
  · have hne : (((xss.length : Nat) : Int) != ((yss.length : Nat) : Int)) = true := by simp; omega
    have HL := Lib.hid hl
    clear hl h1 h2
    go_enter Try.func20, Try.ntmps20
    go_wp2
    go_ret
    exact ⟨ret_bool (by rw [eq_comm, decide_eq_false_iff_not]; rintro rfl; exact HL.out rfl), Same.refl _⟩
end Go.Proofs.Ytdcpoeaddhbjbaa
