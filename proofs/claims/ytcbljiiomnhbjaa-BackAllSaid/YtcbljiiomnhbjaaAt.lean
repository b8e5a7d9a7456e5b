/- Walk of tree.at: the node at a path. -/
import Derived.Test.YtcbljiiomnhbjaaTreeP
namespace Go.Proofs.Ytcbljiiomnhbjaa
set_option maxRecDepth 100000
open Go.RowKit

/-- What tree.at hands back. -/
def Got (S : Nat → Prop) (w : World) (b o : Nat) (t : Tree) (p : List Int) (e : Ending) (w' : World) : Prop :=
  w = w' ∧ ((getT t p = none ∧ e = .returned (.tuple #[.pointer none, .int .i64 5])) ∨
    ∃ b' o' s, getT t p = some s ∧ e = .returned (.tuple #[.pointer (some ⟨b', o', none⟩), .int .i64 0]) ∧ Focus w b o t p b' o' s ∧ Here S w b' o' s)

/-- At a round's head. -/
def AtInv (S : Nat → Prop) (w : World) (b o : Nat) (t : Tree) (p : List Int) (k : Nat) (v : Value) : Prop :=
  ∃ b' o' s, v = .pointer (some ⟨b', o', none⟩) ∧ getT t p = getT s (p.drop k) ∧ Focus w b o t (p.take k) b' o' s ∧ Here S w b' o' s

theorem at_next {S : Nat → Prop} {w : World} {b o b' o' g off c k : Nat} {t s : Tree} {p : List Int} {l pv tv : Value} (hk : k < p.length) (hg : getT t p = getT s (p.drop k)) (hf : Focus w b o t (p.take k) b' o' s)
    (hr : w.rangeAt b' o' [l, pv, tv, .slice (some ⟨g, off, none⟩) s.kids.length c]) (h0 : 0 ≤ p[k]) (hi : p[k].toNat < s.kids.length) (hh : Here S w g (off + p[k].toNat * 4) (s.kids.getD p[k].toNat default)) :
    AtInv S w b o t p (k + 1) (.pointer (some ⟨g, off + p[k].toNat * 4, none⟩)) := by
  refine ⟨_, _, _, rfl, ?_, ?_, hh⟩
  · rw [hg, List.drop_eq_getElem_cons hk, getT_cons, if_pos ⟨h0, hi⟩]
  · rw [List.take_succ_eq_append_getElem hk]
    exact hf.trans (.cons hr h0 hi rfl (.nil _ _ _))
theorem at_none {t s : Tree} {p : List Int} {k : Nat} (hk : k < p.length) (hg : getT t p = getT s (p.drop k)) (h : ¬ (0 ≤ p[k] ∧ p[k].toNat < s.kids.length)) : getT t p = none := by
  rw [hg, List.drop_eq_getElem_cons hk, getT_cons, if_neg h]

end Go.Proofs.Ytcbljiiomnhbjaa
