/- What the document's answers of layer 5 hand back, in one word. -/
import Derived.Test.YtdcpoeaddhbjbaaBackL
import Derived.Test.YtdcpoeaddhbjbaaRCut
import Derived.Test.YtdcpoeaddhbjbaaLive5
namespace Go.Proofs.Ytdcpoeaddhbjbaa
set_option maxRecDepth 100000
open Go.RowKit

def Made1 (t : Tree) (w : World) (e : Ending) (w' : World) : Prop := ∃ (l : Bool) (a1 : Option Addr) (n1 c1 : Nat) (a2 : Option Addr) (n2 c2 : Nat) (a3 : Option Addr) (n3 c3 : Nat), e = .returned (.agg #[.bool l, .slice a1 n1 c1, .slice a2 n2 c2, .slice a3 n3 c3]) ∧
    NodeAt Any w' [.bool l, .slice a1 n1 c1, .slice a2 n2 c2, .slice a3 n3 c3] t ∧ Below w.heap.size w w'
theorem rcopy_made {w : World} {g : Nat} {x0 x1 x2 x3 : Value} {t : Tree} (h : BoxN w g x0 x1 x2 x3 t) : Calls Try.prog 53 #[.agg #[x0, x1, x2, x3]] w (Made1 t w) := by
  refine (rcopyN_any t _ Any w h.2).mono fun e w' hc => ?_
  obtain ⟨l, a1, n1, c1, a2, n2, c2, a3, n3, c3, rfl, ht, hb⟩ := copied_form hc
  exact ⟨l, a1, n1, c1, a2, n2, c2, a3, n3, c3, rfl, ht.nodeAt.weaken fun _ _ => trivial, hb⟩
theorem gets_made {w : World} {g : Nat} {x0 x1 x2 x3 v : Value} {t : Tree} {p : List Int} (h : BoxN w g x0 x1 x2 x3 t) (hp : PathP w v p) {er : Int} (he : getE t p = er) : Calls Try.prog 17 #[.agg #[x0, x1, x2, x3], v] w (Made2 ((getT t p).getD zeroT) er w) := by
  subst he
  exact get_made Any t _ p v w h.2 hp.1 hp.2
theorem rgets_made {w : World} {g : Nat} {x0 x1 x2 x3 v : Value} {t : Tree} {p : List Int} (h : BoxN w g x0 x1 x2 x3 t) (hp : PathP w v p) {er : Int} (he : getE t p = er) : Calls Try.prog 54 #[.agg #[x0, x1, x2, x3], v] w (Made2 ((getT t p).getD zeroT) er w) := by
  subst he
  exact (rget_any Any t _ p v w h.2 hp.1 hp.2).mono fun _ _ hf => hf.made rfl
/-- What Put makes. -/
def putR (t : Tree) (p : List Int) (m : Tree) : Tree := (chT t p fun _ => (0, m)).getD zeroT
theorem putR_e {t : Tree} {p : List Int} {m : Tree} : getE t p = if (chT t p fun _ => (0, m)) = none then (5 : Int) else 0 := by
  cases hg : getT t p with
  | none => simp [chT, getE, hg]
  | some s => simp [chT, getE, hg]
theorem puts_made {w : World} {g g' : Nat} {x0 x1 x2 x3 y0 y1 y2 y3 v : Value} {t m : Tree} {p : List Int} (h : BoxN w g x0 x1 x2 x3 t) (hp : PathP w v p) (h2 : BoxN w g' y0 y1 y2 y3 m) {er : Int} (he : getE t p = er) :
    Calls Try.prog 26 #[.agg #[x0, x1, x2, x3], v, .agg #[y0, y1, y2, y3]] w (Made2 (putR t p m) er w) := by
  subst he
  refine (put_any Any Any t m _ _ p v w h.2 hp.1 hp.2 h2.2).mono fun _ _ hf => hf.made ?_
  rw [putR_e (m := m)]
  cases hg : getT t p with
  | none => simp [chT, chE, hg]
  | some s => simp [chT, hg]
theorem rputs_made {w : World} {g g' : Nat} {x0 x1 x2 x3 y0 y1 y2 y3 v : Value} {t m : Tree} {p : List Int} (h : BoxN w g x0 x1 x2 x3 t) (hp : PathP w v p) (h2 : BoxN w g' y0 y1 y2 y3 m) {er : Int} (he : getE t p = er) :
    Calls Try.prog 55 #[.agg #[x0, x1, x2, x3], v, .agg #[y0, y1, y2, y3]] w (Made2 (putR t p m) er w) := by
  subst he
  exact (rput_any Any m p Any t _ _ v w h.2 hp.1 hp.2 h2.2).mono fun _ _ hf => hf.made putR_e
theorem radd_made {w : World} {g g' : Nat} {x0 x1 x2 x3 y0 y1 y2 y3 v : Value} {t m : Tree} {p : List Int} (h : BoxN w g x0 x1 x2 x3 t) (hp : PathP w v p) (h2 : BoxN w g' y0 y1 y2 y3 m) (hsz : ∀ s, getT t (p.take (p.length - 1)) = some s → (s.kids.length + 1) * 80 ≤ 140737488351232)
    {er : Int} (he : addE t p m = er) : Calls Try.prog 57 #[.agg #[x0, x1, x2, x3], v, .agg #[y0, y1, y2, y3]] w (Made2 ((addR t p m).getD zeroT) er w) := by
  refine (radd_any Any Any t m _ _ p v w h.2 hp.1 hp.2 h2.2 hsz).mono fun _ _ hf => hf.made ?_
  by_cases h0 : er = 0
  · obtain ⟨_, s, _, _, _, _, hr⟩ := add_ok (he.trans h0)
    rw [h0, hr, if_neg (by simp)]
  · rw [add_none (by rw [he]; exact h0), if_pos rfl, he]
/-- What Cut makes. -/
def cutA (t : Tree) (p : List Int) : Tree := if cutE t p = 0 then cutT t p else zeroT
def cutB (t : Tree) (p : List Int) : Tree := if cutE t p = 0 then (getT t p).getD zeroT else zeroT
theorem CutPost.made {t : Tree} {p : List Int} {w w' : World} {e : Ending} (h : CutPost t p w e w') {er : Int} (he : cutE t p = er) : Made3 (cutA t p) (cutB t p) er w e w' := by
  obtain ⟨hb, ⟨hne, rfl⟩ | ⟨cs, ds, m, h0, hm, rfl, ht, ht2⟩⟩ := h
  · rw [cutA, cutB, if_neg hne, if_neg hne, he]
    exact ⟨_, _, _, _, _, _, _, _, _, _, _, _, _, _, _, _, _, _, _, _, rfl, zero_at _ _, zero_at _ _, hb⟩
  · have h1 : cutE t p = 0 := by rw [cutE, if_neg (by omega), hm]
    rw [cutA, cutB, if_pos h1, if_pos h1, hm, ← he, h1]
    obtain ⟨a1, n1, c1, a2, n2, c2, a3, n3, c3, hc⟩ := ht.nodeAt.form
    obtain ⟨b1, m1, d1, b2, m2, d2, b3, m3, d3, hd⟩ := ht2.nodeAt.form
    subst hc hd
    exact ⟨_, _, _, _, _, _, _, _, _, _, _, _, _, _, _, _, _, _, _, _, rfl, ht.nodeAt.weaken fun _ _ => trivial, ht2.nodeAt.weaken fun _ _ => trivial, hb⟩
theorem cut_made3 {w : World} {g : Nat} {x0 x1 x2 x3 v : Value} {t : Tree} {p : List Int} (h : BoxN w g x0 x1 x2 x3 t) (hp : PathP w v p) {er : Int} (he : cutE t p = er) : Calls Try.prog 58 #[.agg #[x0, x1, x2, x3], v] w (Made3 (cutA t p) (cutB t p) er w) :=
  (cut_any Any t _ p v w h.2 hp.1 hp.2).mono fun _ _ hf => hf.made he
theorem rcut_made3 {w : World} {g : Nat} {x0 x1 x2 x3 v : Value} {t : Tree} {p : List Int} (h : BoxN w g x0 x1 x2 x3 t) (hp : PathP w v p) {er : Int} (he : cutE t p = er) : Calls Try.prog 59 #[.agg #[x0, x1, x2, x3], v] w (Made3 (cutA t p) (cutB t p) er w) :=
  (rcut_any Any t _ p v w h.2 hp.1 hp.2).mono fun _ _ hf => hf.made he
theorem same4_yes {w : World} {g g' : Nat} {x0 x1 x2 x3 y0 y1 y2 y3 : Value} {s : Tree} (h : BoxN w g x0 x1 x2 x3 s) (h2 : BoxN w g' y0 y1 y2 y3 s) : Calls Try.prog 60 #[.agg #[x0, x1, x2, x3], .agg #[y0, y1, y2, y3]] w fun e w' => e = .returned (.bool true) ∧ Below w.heap.size w w' :=
  r4same_yes s _ _ Any Any w h.2 h2.2
end Go.Proofs.Ytdcpoeaddhbjbaa
