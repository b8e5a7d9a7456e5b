/- Plain Lean: the first and the last point of a part of a tree's leaves; the points beside a path. No program in sight. -/
import Derived.Test.YtdcpoeaddhbjbaaLeavesP
namespace Go.Proofs.Ytdcpoeaddhbjbaa
set_option maxRecDepth 100000

theorem sub_first {t : Tree} {F : List (List Int)} (hs : ∀ x ∈ F, x ∈ leavesL t) (hr : F.Pairwise fun a b => cmpI a b = -1) (h : 0 < F.length) :
    edgeR t F false = (F.getD 0 [], 0, 0) ∧ checkT t (F.getD 0 []) 0 = 0 ∧ ∀ p off, p ∈ F → checkT t p off = 0 → cmpP (F.getD 0 []) 0 p off ≤ 0 := by
  refine ⟨?_, ?_, fun p off hp hc => ?_⟩
  · unfold edgeR
    rw [if_neg (by omega), if_pos rfl]
  · obtain ⟨s, hg, hl⟩ := (mem_leaves t _).1 (hs _ (firstD_mem h))
    exact check_ok.2 ⟨s, hg, hl, by omega, by omega⟩
  · obtain ⟨s, _, _, h0, _⟩ := check_ok.1 hc
    rcases first_le hr hp with e | e
    · rw [cmpP_eq e]
      exact cmp3_le h0
    · rw [cmpP_ne (fun h => by rw [cmpI_zero.2 h] at e; cases e), e]
      decide
theorem sub_last {t : Tree} {F : List (List Int)} (hs : ∀ x ∈ F, x ∈ leavesL t) (hr : F.Pairwise fun a b => cmpI a b = -1) (h : 0 < F.length) :
    ∃ n : Nat, edgeR t F true = (F.getD (F.length - 1) [], (n : Int), 0) ∧ checkT t (F.getD (F.length - 1) []) n = 0 ∧ ∀ p off, p ∈ F → checkT t p off = 0 → cmpP p off (F.getD (F.length - 1) []) n ≤ 0 := by
  obtain ⟨s, hg, hl⟩ := (mem_leaves t _).1 (hs _ (lastD_mem h))
  refine ⟨s.text.length, ?_, check_ok.2 ⟨s, hg, hl, by omega, by omega⟩, fun p off hp hc => ?_⟩
  · unfold edgeR
    rw [if_neg (by omega), if_neg (by decide), hg]
  · obtain ⟨s', hg', _, _, hle⟩ := check_ok.1 hc
    rcases last_le hr hp with e | e
    · rw [cmpP_eq e]
      subst e
      rw [hg] at hg'
      obtain rfl := Option.some.inj hg'
      exact cmp3_le hle
    · rw [cmpP_ne (fun h => by rw [cmpI_zero.2 h] at e; cases e), e]
      decide
theorem filter_sub {t : Tree} {f : List Int → Bool} : ∀ x ∈ (leavesL t).filter f, x ∈ leavesL t := fun _ hx => (List.mem_filter.1 hx).1
theorem filter_rise {t : Tree} {f : List Int → Bool} : ((leavesL t).filter f).Pairwise fun a b => cmpI a b = -1 := (rise_leaves t).filter f

/-- What the law asks of the point ahead. -/
def AheadOk (t : Tree) (q P : List Int) (o e : Int) (p : List Int) (off : Int) : Prop :=
  (e = 0 ∧ checkT t P o = 0 ∧ cmpI P q < 0 ∧ aboveB P q = false ∨ e ≠ 0) ∧ (checkT t p off = 0 → cmpI p q < 0 → aboveB p q = false → e = 0 ∧ cmpP p off P o ≤ 0)
/-- What the law asks of the point behind. -/
def BehindOk (t : Tree) (q P : List Int) (o e : Int) (p : List Int) (off : Int) : Prop :=
  (e = 0 ∧ checkT t P o = 0 ∧ 0 ≤ cmpI P q ∧ o = 0 ∨ e ≠ 0) ∧ (checkT t p off = 0 → 0 ≤ cmpI p q → e = 0 ∧ cmpP P o p off ≤ 0)
theorem ahead_ok (t : Tree) (q p : List Int) (off : Int) : AheadOk t q (edgeR t ((leavesL t).filter (fun x => !(decide (0 ≤ cmpI x q) || aboveB x q))) true).1 (edgeR t ((leavesL t).filter (fun x => !(decide (0 ≤ cmpI x q) || aboveB x q))) true).2.1 (edgeR t ((leavesL t).filter (fun x => !(decide (0 ≤ cmpI x q) || aboveB x q))) true).2.2 p off := by
  have hm : ∀ x, x ∈ (leavesL t).filter (fun x => !(decide (0 ≤ cmpI x q) || aboveB x q)) ↔ x ∈ leavesL t ∧ cmpI x q < 0 ∧ aboveB x q = false := by
    intro x
    rw [List.mem_filter]
    simp
  have h1 := filter_sub (t := t) (f := fun x => !(decide (0 ≤ cmpI x q) || aboveB x q))
  have h2 := filter_rise (t := t) (f := fun x => !(decide (0 ≤ cmpI x q) || aboveB x q))
  generalize (leavesL t).filter (fun x => !(decide (0 ≤ cmpI x q) || aboveB x q)) = F at *
  by_cases hz : F.length = 0
  · have hE : edgeR t F true = ([], 0, 14) := by
      unfold edgeR
      rw [if_pos hz]
    rw [hE]
    refine ⟨.inr (by decide), fun hc hp ha => ?_⟩
    have := (hm p).2 ⟨check_mem hc, hp, ha⟩
    rw [List.eq_nil_of_length_eq_zero hz] at this
    simp at this
  · obtain ⟨n, hE, hc, hle⟩ := sub_last h1 h2 (by omega)
    rw [hE]
    obtain ⟨_, a, b⟩ := (hm _).1 (lastD_mem (show 0 < F.length by omega))
    exact ⟨.inl ⟨rfl, hc, a, b⟩, fun hc' hp ha => ⟨rfl, hle p off ((hm p).2 ⟨check_mem hc', hp, ha⟩) hc'⟩⟩
theorem behind_ok (t : Tree) (q p : List Int) (off : Int) : BehindOk t q (edgeR t ((leavesL t).filter (fun x => !decide (cmpI x q < 0))) false).1 (edgeR t ((leavesL t).filter (fun x => !decide (cmpI x q < 0))) false).2.1 (edgeR t ((leavesL t).filter (fun x => !decide (cmpI x q < 0))) false).2.2 p off := by
  have hm : ∀ x, x ∈ (leavesL t).filter (fun x => !decide (cmpI x q < 0)) ↔ x ∈ leavesL t ∧ 0 ≤ cmpI x q := by
    intro x
    rw [List.mem_filter]
    simp
  have h1 := filter_sub (t := t) (f := fun x => !decide (cmpI x q < 0))
  have h2 := filter_rise (t := t) (f := fun x => !decide (cmpI x q < 0))
  generalize (leavesL t).filter (fun x => !decide (cmpI x q < 0)) = F at *
  by_cases hz : F.length = 0
  · have hE : edgeR t F false = ([], 0, 14) := by
      unfold edgeR
      rw [if_pos hz]
    rw [hE]
    refine ⟨.inr (by decide), fun hc hp => ?_⟩
    have := (hm p).2 ⟨check_mem hc, hp⟩
    rw [List.eq_nil_of_length_eq_zero hz] at this
    simp at this
  · obtain ⟨hE, hc, hle⟩ := sub_first h1 h2 (by omega)
    rw [hE]
    obtain ⟨_, a⟩ := (hm _).1 (firstD_mem (show 0 < F.length by omega))
    exact ⟨.inl ⟨rfl, hc, a, rfl⟩, fun hc' hp => ⟨rfl, hle p off ((hm p).2 ⟨check_mem hc', hp⟩) hc'⟩⟩
end Go.Proofs.Ytdcpoeaddhbjbaa
