/- Walk of tree.at: the node at a path. -/
import Derived.Test.YtdcpoeaddhbjbaaTreeP
namespace Go.Proofs.Ytdcpoeaddhbjbaa
set_option maxRecDepth 100000
open Go.RowKit

/-- What tree.at hands back. -/
def Got (S : Nat → Prop) (w : World) (b o : Nat) (t : Tree) (p : List Int) (e : Ending) (w' : World) : Prop :=
  w = w' ∧ ((getT t p = none ∧ e = .returned (.tuple #[.pointer none, .int .i64 5])) ∨
    ∃ b' o' s, getT t p = some s ∧ e = .returned (.tuple #[.pointer (some ⟨b', o', none⟩), .int .i64 0]) ∧ Focus w b o t p b' o' s ∧ Here S w b' o' s)

/-- At a round's head. -/
def AtInv (S : Nat → Prop) (w : World) (b o : Nat) (t : Tree) (p : List Int) (k : Nat) (v : Value) : Prop :=
  ∃ b' o' s, v = .pointer (some ⟨b', o', none⟩) ∧ getT t p = getT s (p.drop k) ∧ Focus w b o t (p.take k) b' o' s ∧ Here S w b' o' s

theorem at_next {S : Nat → Prop} {w : World} {b o b' o' g off c k : Nat} {t s : Tree} {p : List Int} {l pv tv : Value} (hk : k < p.length) (hg : getT t p = getT s (p.drop k)) (hf : Focus w b o t (p.take k) b' o' s)
    (hr : w.rangeAt b' o' [l, pv, tv, .slice (some ⟨g, off, none⟩) s.kids.length c]) (h0 : 0 ≤ p[k]) (hi : p[k].toNat < s.kids.length) (hh : Here S w g (off + p[k].toNat * 4) (s.kids.getD p[k].toNat default)) :
    AtInv S w b o t p (k + 1) (.pointer (some ⟨g, off + p[k].toNat * 4, none⟩)) := by
  refine ⟨_, _, _, rfl, ?_, ?_, hh⟩
  · rw [hg, List.drop_eq_getElem_cons hk, getT_cons, if_pos ⟨h0, hi⟩]
  · rw [List.take_succ_eq_append_getElem hk]
    exact hf.trans (.cons hr h0 hi rfl (.nil _ _ _))
theorem at_none {t s : Tree} {p : List Int} {k : Nat} (hk : k < p.length) (hg : getT t p = getT s (p.drop k)) (h : ¬ (0 ≤ p[k] ∧ p[k].toNat < s.kids.length)) : getT t p = none := by
  rw [hg, List.drop_eq_getElem_cons hk, getT_cons, if_neg h]

set_option maxHeartbeats 1000000 in
theorem at_any (S : Nat → Prop) (t : Tree) (b o : Nat) (p : List Int) (v : Value) (w : World) (h : Here S w b o t) (hp : Ints w v p) (hi : I64 p) :
    Calls Try.prog 65 #[.pointer (some ⟨b, o, none⟩), v] w (Got S w b o t p) := by
  obtain ⟨a1, c1, rfl, l1, b1, o1⟩ := hp.open_
  have HH := Lib.hid h
  have HI := Lib.hid hi
  clear hp h hi
  go_enter Try.func65, Try.ntmps65
  go_wp2
  go_loop [0, 10] (fun n i => ∃ k : Nat, k ≤ p.length ∧ i = .int .i64 k ∧ AtInv S w b o t p k n) (fun _ i => p.length - (intOf i).toNat)
  case atStart => exact ⟨0, Nat.zero_le _, rfl, b, o, t, rfl, rfl, .nil _ _ _, HH.out⟩
  case round =>
    obtain ⟨k, hk, rfl, b', o', s, rfl, hg, hf, hh⟩ := hrel
    by_cases hlt : k < p.length
    · obtain ⟨p1, f1, rfl, e1⟩ := o1 (by omega)
      have d1 := e1 k hlt
      clear e1 o1
      obtain ⟨a1', n1, c1', a2, c2, a3, c3, hr, hn, hkids, hc⟩ := hh.form
      obtain ⟨r0, r1, r2, r3⟩ := range4 hr
      have hb := HI.out p[k] (by simp)
      have hlen : s.kids.length * 80 ≤ 140737488351232 := by
        obtain ⟨_, _, _, _, he, _, _, hk', _⟩ := hn.open_
        simp only [List.cons.injEq] at he
        obtain ⟨_, _, _, he, _⟩ := he
        subst he
        have := hk'.len
        obtain ⟨a, c, hs⟩ := hk'.slice
        simp only [Value.slice.injEq] at hs
        rw [hs.2.1]; exact this
      have hget : p.getD k 0 = p[k] := by simp [hlt]
      rw [hget] at d1
      have HN := fun h => at_none hlt hg h
      have HNN := Lib.hid HN
      have HX := Lib.hid (fun g off c l pv tv (h1 : w.rangeAt b' o' [l, pv, tv, .slice (some ⟨g, off, none⟩) s.kids.length c]) h2 h3 h4 => at_next (S := S) (g := g) (off := off) hlt hg hf h1 h2 h3 h4)
      have HR := Lib.hid hr
      have HKS := Lib.hid hkids
      clear hg hf hh hn hr hkids HN hget r0 r1 r2
      by_cases hneg : p[k] < 0
      · have HE := Lib.hid (HNN.out (by omega))
        have hd : decide (p[k] < 0) = true := by simpa using hneg
        go_wp2
        go_ret2
        exact ⟨rfl, .inl ⟨HE.out, rfl⟩⟩
      · have hd : decide (p[k] < 0) = false := by simpa using hneg
        have hpos : 0 ≤ p[k] := by omega
        by_cases hge : (s.kids.length : Int) ≤ p[k]
        · have HE := Lib.hid (HNN.out (by omega))
          go_wp2
          go_ret2
          exact ⟨rfl, .inl ⟨HE.out, rfl⟩⟩
        · have hl2 : p[k] < (s.kids.length : Int) := by omega
          obtain ⟨g, off, rfl, hkk⟩ := HKS.out (by omega)
          have HF := Lib.hid (HX.out g off _ _ _ _ HR.out hpos (by omega) (hkk _ (by omega)))
          clear hkk HX HR HKS HNN
          go_wp2
          go_round
          case rel => exact ⟨k + 1, by omega, by go_num, HF.out⟩
          case measure => simp [intOf]; omega
    · have : k = p.length := by omega
      subst this
      clear hlt o1
      have HE := Lib.hid hg
      have HF := Lib.hid hf
      have HH2 := Lib.hid hh
      clear hg hf hh
      go_wp2
      go_ret2
      refine ⟨rfl, .inr ⟨b', o', s, ?_, rfl, ?_, HH2.out⟩⟩
      · rw [HE.out, List.drop_length]; rfl
      · have := HF.out
        rwa [List.take_length] at this
end Go.Proofs.Ytdcpoeaddhbjbaa
