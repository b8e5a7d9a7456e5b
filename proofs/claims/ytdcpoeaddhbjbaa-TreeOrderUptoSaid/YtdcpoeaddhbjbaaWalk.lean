/- Walk of node.walk, whatever function is told the nodes that goes on at each: with an account that is kept. -/
import Derived.Test.YtdcpoeaddhbjbaaRCopy
import Derived.Test.YtdcpoeaddhbjbaaGets
import Derived.Shelf.Abstract
import Derived.Laws.EntriesVeiled
namespace Go.Proofs.Ytdcpoeaddhbjbaa
set_option maxRecDepth 100000
open Go.RowKit

mutual
/-- How great a tree is: nodes and runes. -/
def szT : Tree → Nat
  | .mk _ _ xs ks => 1 + xs.length + szK ks
def szK : List Tree → Nat
  | [] => 0
  | k :: ks => szT k + szK ks
end
mutual
/-- An account that is carried through a tree, in order. -/
def foldT {α : Type} (f : α → Tree → α) : α → Tree → α
  | a, .mk l ps xs ks => foldK f (f a (.mk l ps xs ks)) ks
def foldK {α : Type} (f : α → Tree → α) : α → List Tree → α
  | a, [] => a
  | a, k :: ks => foldK f (foldT f a k) ks
end
theorem szT_eq (t : Tree) : szT t = 1 + t.text.length + szK t.kids := by cases t; simp [szT, Tree.kids, Tree.text]
theorem szK_append : ∀ (ks ls : List Tree), szK (ks ++ ls) = szK ks + szK ls
  | [], ls => by simp [szK]
  | k :: ks, ls => by rw [List.cons_append, szK, szK, szK_append ks ls]; omega
theorem foldK_append {α : Type} (f : α → Tree → α) : ∀ (ks ls : List Tree) (a : α), foldK f a (ks ++ ls) = foldK f (foldK f a ks) ls
  | [], ls, a => by simp [foldK]
  | k :: ks, ls, a => by rw [List.cons_append, foldK, foldK, foldK_append f ks ls]
theorem take_one (ks : List Tree) (k : Nat) (h : k < ks.length) : ks.take (k + 1) = ks.take k ++ [ks.getD k default] := by
  rw [List.take_succ_eq_append_getElem h]
  simp [h]
theorem foldK_take {α : Type} (f : α → Tree → α) (a : α) (ks : List Tree) (k : Nat) (h : k < ks.length) : foldK f a (ks.take (k + 1)) = foldT f (foldK f a (ks.take k)) (ks.getD k default) := by
  rw [take_one ks k h, foldK_append]
  simp [foldK]
theorem szK_take (ks : List Tree) (k : Nat) (h : k < ks.length) : szK (ks.take (k + 1)) = szK (ks.take k) + szT (ks.getD k default) := by
  rw [take_one ks k h, szK_append]
  simp [szK]
theorem szK_le (ks : List Tree) (k : Nat) : szK (ks.take k) ≤ szK ks := by
  have := szK_append (ks.take k) (ks.drop k)
  rw [List.take_append_drop] at this
  omega
mutual
theorem foldT_le {α : Type} {f : α → Tree → α} {m : α → Nat} (hm : ∀ a t, m (f a t) ≤ m a + (1 + t.text.length)) : ∀ (t : Tree) (a : α), m (foldT f a t) ≤ m a + szT t
  | .mk l ps xs ks, a => by
    have h1 := hm a (.mk l ps xs ks)
    have h2 := foldK_le hm ks (f a (.mk l ps xs ks))
    simp only [Tree.text] at h1
    rw [foldT, szT]
    omega
theorem foldK_le {α : Type} {f : α → Tree → α} {m : α → Nat} (hm : ∀ a t, m (f a t) ≤ m a + (1 + t.text.length)) : ∀ (ks : List Tree) (a : α), m (foldK f a ks) ≤ m a + szK ks
  | [], a => by simp [foldK]
  | k :: ks, a => by
    have h1 := foldT_le hm k a
    have h2 := foldK_le hm ks (foldT f a k)
    rw [foldK, szK]
    omega
end

/-- What a call that tells nodes keeps: blocks of nodes and of functions, and all below C. -/
structure Kp (C : Nat) (w w' : World) : Prop where
  below : Below C w w'
  blk : ∀ (x : Nat) (cs : Array Value) (ty : TypeId), w.heap[x]? = some (.cells cs ty (0, 0)) → ty = 26 ∨ ty = 40 → w'.heap[x]? = some (.cells cs ty (0, 0))
theorem Kp.refl (C : Nat) (w : World) : Kp C w w := ⟨Below.refl _ _, fun _ _ _ h _ => h⟩
theorem Kp.trans {C : Nat} {a b c : World} (h : Kp C a b) (k : Kp C b c) : Kp C a c := ⟨h.below.trans k.below, fun x cs ty hx ht => k.blk x cs ty (h.blk x cs ty hx ht) ht⟩
theorem Kp.of {C : Nat} {w w' : World} (h : Below w.heap.size w w') (hC : C ≤ w.heap.size) : Kp C w w' := ⟨h.mono hC, fun _ _ _ hx _ => blk_below hx h⟩

/-- A function that is told a node goes on, and carries the account on. -/
structure Tells (α : Type) (f : α → Tree → α) (m : α → Nat) (J : α → World → Prop) (C N : Nat) (G : FuncId) (cb : Array Value) : Prop where
  later : ∀ a w w', J a w → Below w.heap.size w w' → J a w'
  le : ∀ a t, m (f a t) ≤ m a + (1 + t.text.length)
  run : ∀ (a : α) (t : Tree) (cs : List Value) (w : World), J a w → NodeAt (fun b => b < C) w cs t → C ≤ w.heap.size → m a + (1 + t.text.length) ≤ N → Calls Try.prog G (#[.agg (List.toArray cs)] ++ cb) w fun e w' => e = .returned (.bool true) ∧ J (f a t) w' ∧ Kp C w w'
/-- The variables of a walk: the function, the closure. -/
def WBox (w : World) (bt be : Nat) (G : FuncId) (cb : Array Value) : Prop := w.heap[bt]? = some (.cells #[.func (.func G) #[] cb] 40 (0, 0)) ∧ w.heap[be]? = some (.cells #[.func (.func 113) #[] #[.pointer (some ⟨bt, 0, none⟩), .pointer (some ⟨be, 0, none⟩)]] 40 (0, 0))
theorem WBox.kp {C : Nat} {w w' : World} {bt be : Nat} {G : FuncId} {cb : Array Value} (h : WBox w bt be G cb) (k : Kp C w w') : WBox w' bt be G cb := ⟨k.blk _ _ _ h.1 (.inr rfl), k.blk _ _ _ h.2 (.inr rfl)⟩
theorem WBox.later {w w' : World} {bt be : Nat} {G : FuncId} {cb : Array Value} (h : WBox w bt be G cb) (k : Below w.heap.size w w') : WBox w' bt be G cb := ⟨blk_below h.1 k, blk_below h.2 k⟩
/-- What a call leaves: its answer, the account, what is kept. -/
def TPost {α : Type} (J : α → World → Prop) (C : Nat) (r : Bool) (a : α) (w : World) (e : Ending) (w' : World) : Prop := e = .returned (.bool r) ∧ J a w' ∧ Kp C w w'
/-- The closure in the closure, at a child. -/
def KidTells {α : Type} (f : α → Tree → α) (m : α → Nat) (J : α → World → Prop) (C N bt be : Nat) (G : FuncId) (cb : Array Value) (t : Tree) : Prop :=
  ∀ (a : α) (cs : List Value) (w : World), J a w → NodeAt (fun b => b < C) w cs t → C ≤ w.heap.size → m a + szT t ≤ N → WBox w bt be G cb → Calls Try.prog 115 #[.agg (List.toArray cs), .pointer (some ⟨be, 0, none⟩)] w (TPost J C false (foldT f a t) w)

theorem cell_box {w : World} {b : Nat} {v : Value} {ty : TypeId} (h : w.heap[b]? = some (.cells #[v] ty (0, 0))) : w.cell? ⟨b, 0, none⟩ = some v := by rw [cell_of_row w b 0 _ _ (0, 0) h]; rfl

set_option maxHeartbeats 2000000 in
theorem kidsfunc_any {α : Type} {f : α → Tree → α} {m : α → Nat} {J : α → World → Prop} {C N bt be : Nat} {G : FuncId} {cb : Array Value} (T : Tells α f m J C N G cb) (ks : List Tree) (hk : ∀ k ∈ ks, KidTells f m J C N bt be G cb k) (a : α) (v : Value) (es : List (List Value)) (w : World)
    (hs : Sl (fun b => b < C) w 4 80 v es) (hl : es.length = ks.length) (hall : ∀ i, i < ks.length → NodeAt (fun b => b < C) w (es.getD i []) (ks.getD i default)) (hJ : J a w) (hC : C ≤ w.heap.size) (hN : m a + szK ks ≤ N) (hb : WBox w bt be G cb) :
    Calls Try.prog 118 #[v, .func (.func 115) #[] #[.pointer (some ⟨be, 0, none⟩)]] w fun e w' => e = .returned (.int .i64 (-1)) ∧ J (foldK f a ks) w' ∧ Kp C w w' := by
  obtain ⟨sa, sc, rfl⟩ := hs.slice
  rw [hl] at hs ⊢
  have hb80 := hs.len
  rw [hl] at hb80
  have HK := Lib.hid hk; have HS := Lib.hid hs; have HL := Lib.hid hl; have HA := Lib.hid hall; have HN := Lib.hid hN; have HC := Lib.hid hC; have HT := Lib.hid T
  have HI : Hid (J (foldK f a (ks.take 0)) w) := Lib.hid (by simpa [foldK] using hJ)
  have HB := Lib.hid hb
  have HEN := Lib.hid (show ∀ args w, (callFunc 115 args).run Try.prog w = .ok (.enter 115 args) w from enters_of Try.func115 (by kernel_rfl) rfl)
  have eg := HEN.out
  clear hk hs hl hall hJ hN hb T hC HEN
  go_enter Try.func118, Try.ntmps118
  go_wp2_with fail
  go_loopw [8] (fun i wr => ∃ k : Nat, k ≤ ks.length ∧ i = .int .i64 k ∧ Hid (J (foldK f a (ks.take k)) wr) ∧ Hid (Kp C w wr) ∧ Hid (w.heap.size ≤ wr.heap.size)) (fun i _ => ks.length - (intOf i).toNat)
  case atStart => exact ⟨0, Nat.zero_le _, rfl, HI, Lib.hid (Kp.refl C w), Lib.hid (Nat.le_refl _)⟩
  case round =>
    obtain ⟨k, hk, rfl, HJ, HW, HZ⟩ := hrel
    by_cases hlt : k < ks.length
    · obtain ⟨b, off, l, p1, q1, r1, p2, q2, r2, p3, q3, r3, rfl, hc, hnk, hmem, e0, e1, e2, e3⟩ := kid_at (HS.out.keep fun b hb => HW.out.below.block b hb) HL.out (fun i hi => (HA.out i hi).keep fun b hb => HW.out.below.block b hb) k hlt
      have hcall := HK.out _ hmem (foldK f a (ks.take k)) _ wr HJ.out hnk (Nat.le_trans HC.out HZ.out) (by have := foldK_le HT.out.le (ks.take k) a; have := szK_take ks k hlt; have := szK_le ks (k + 1); have := HN.out; omega) (HB.out.kp HW.out)
      rw [← foldK_take f a ks k hlt] at hcall
      have HCL := Lib.hid hcall
      have hi1 : (k : Int) < (ks.length : Int) := by omega
      have hi3 : (0 : Int) ≤ (k : Int) := by omega
      clear hnk hmem hcall
      go_wp2_with (go_at_fn 115; refine HCL.out.mono ?_; clear e0 e1 e2 e3; rintro e w3 ⟨rfl, hj3, hk3⟩)
      go_roundw
      case rel => exact ⟨k + 1, by omega, by go_num, Lib.hid hj3, Lib.hid (HW.out.trans hk3), Lib.hid (Nat.le_trans HZ.out hk3.below.size)⟩
      case measure => simp [intOf]; omega
    · have hke : k = ks.length := by omega
      subst hke
      clear hlt
      go_wp2_with fail
      go_ret
      exact ⟨rfl, by have := HJ.out; rwa [List.take_length] at this, HW.out⟩

theorem containsN_any {w : World} {v fv : Value} {P : World → Prop} (h : Calls Try.prog 118 #[v, fv] w fun e w' => e = .returned (.int .i64 (-1)) ∧ P w') :
    Calls Try.prog 114 #[v, fv] w fun e w' => e = .returned (.bool false) ∧ P w' := by
  have HC := Lib.hid h
  clear h
  go_enter Try.func114, Try.ntmps114
  go_wp2_with fail
  refine HC.out.mono ?_
  rintro e w1 ⟨rfl, hp⟩
  have HP := Lib.hid hp
  clear hp
  go_wp2_with fail
  go_ret
  exact ⟨rfl, HP.out⟩

/-- The closure: a node, and all in it. -/
def EachTells {α : Type} (f : α → Tree → α) (m : α → Nat) (J : α → World → Prop) (C N bt be : Nat) (G : FuncId) (cb : Array Value) (t : Tree) : Prop :=
  ∀ (a : α) (cs : List Value) (w : World), J a w → NodeAt (fun b => b < C) w cs t → C ≤ w.heap.size → m a + szT t ≤ N → WBox w bt be G cb → Calls Try.prog 113 #[.agg (List.toArray cs), .pointer (some ⟨bt, 0, none⟩), .pointer (some ⟨be, 0, none⟩)] w (TPost J C true (foldT f a t) w)

set_option maxHeartbeats 1000000 in
theorem kid_tells {α : Type} {f : α → Tree → α} {m : α → Nat} {J : α → World → Prop} {C N bt be : Nat} {G : FuncId} {cb : Array Value} (T : Tells α f m J C N G cb) (t : Tree) (h : EachTells f m J C N bt be G cb t) : KidTells f m J C N bt be G cb t := by
  intro a cs w hJ hn hC hN hb
  obtain ⟨a1, n1, c1, a2, n2, c2, a3, n3, c3, rfl⟩ := hn.form
  have hbW := gr_al (gr_refl w) (.cells #[.bool t.leaf, .slice a1 n1 c1, .slice a2 n2 c2, .slice a3 n3 c3] 26)
  have HX := Lib.hid (heap_alloc_new w (.cells #[.bool t.leaf, .slice a1 n1 c1, .slice a2 n2 c2, .slice a3 n3 c3] 26))
  have HB := Lib.hid (hb.later hbW)
  have HC := Lib.hid (h a _ _ (T.later a w _ hJ hbW) (hn.later hbW (Nat.le_refl _)) (Nat.le_trans hC hbW.size) hN HB.out)
  have HK := Lib.hid (Kp.of hbW hC)
  have HEN := Lib.hid (show ∀ args w, (callFunc 113 args).run Try.prog w = .ok (.enter 113 args) w from enters_of Try.func113 (by kernel_rfl) rfl)
  have eg := HEN.out
  clear hJ hn hC hN hb hbW h T HEN
  go_enter Try.func115, Try.ntmps115
  go_upto_region 1 with fail
  generalize World.alloc w _ = W at *
  obtain ⟨⟨k0, k1, k2, k3⟩, _⟩ := four_facts HX.out
  have e0 := cell_box HB.out.2
  go_wp2_with (go_at_fn 113; refine HC.out.mono ?_; clear k0 k1 k2 k3 e0; rintro e w3 ⟨rfl, hj3, hk3⟩)
  go_ret
  exact ⟨rfl, hj3, HK.out.trans hk3⟩

set_option maxHeartbeats 2000000 in
theorem each_tells {α : Type} {f : α → Tree → α} {m : α → Nat} {J : α → World → Prop} {C N bt be : Nat} {G : FuncId} {cb : Array Value} (T : Tells α f m J C N G cb) (eg : ∀ args w, (callFunc G args).run Try.prog w = .ok (.enter G args) w) : ∀ t, EachTells f m J C N bt be G cb t := by
  refine Tree.ind fun l ps xs ks ih => ?_
  intro a cs w hJ hn hC hN hb
  obtain ⟨a1, n1, c1, a2, n2, c2, a3, n3, c3, hform⟩ := hn.form
  replace hform : cs = [.bool l, .slice a1 n1 c1, .slice a2 n2 c2, .slice a3 n3 c3] := hform
  subst hform
  have hbW := gr_al (gr_refl w) (.cells #[.bool l, .slice a1 n1 c1, .slice a2 n2 c2, .slice a3 n3 c3] 26)
  have HX := Lib.hid (heap_alloc_new w (.cells #[.bool l, .slice a1 n1 c1, .slice a2 n2 c2, .slice a3 n3 c3] 26))
  have HB := Lib.hid (hb.later hbW); have HJ := Lib.hid (T.later a w _ hJ hbW); have HN := Lib.hid (hn.later hbW (Nat.le_refl _)); have HK := Lib.hid (Kp.of hbW hC); have HC := Lib.hid (Nat.le_trans hC hbW.size); have HNN := Lib.hid hN
  have HIH := Lib.hid (fun k (hk : k ∈ ks) => kid_tells T k (ih k hk)); have HT := Lib.hid T
  clear hJ hn hC hN hb hbW ih T
  go_enter Try.func113, Try.ntmps113
  go_upto_region 1 with fail
  generalize World.alloc w _ = W at *
  obtain ⟨⟨k0, k1, k2, k3⟩, _⟩ := four_facts HX.out
  have e0 := cell_box HB.out.1
  have HR := Lib.hid (HT.out.run a (.mk l ps xs ks) _ W HJ.out HN.out HC.out (by have := HNN.out; rw [szT] at this; simp only [Tree.text]; omega))
  go_wp2_with (go_at_fn G; refine HR.out.mono ?_; clear k0 k1 k2 k3 e0; rintro e w1 ⟨rfl, hj1, hk1⟩; obtain ⟨⟨k0, k1, k2, k3⟩, _⟩ := four_facts (hk1.blk _ _ _ HX.out (.inl rfl)))
  have hn1 := HN.out.keep (w' := w1) fun b hb => hk1.below.block b hb
  obtain ⟨pv', tv', kv', es, he', -, -, hs', hl', hall'⟩ := hn1.open_
  simp only [List.cons.injEq] at he'
  obtain ⟨-, -, -, rfl, -⟩ := he'
  have hcf := containsN_any (kidsfunc_any HT.out ks HIH.out (f a (.mk l ps xs ks)) _ es w1 hs' hl' hall' hj1 (Nat.le_trans HC.out hk1.below.size) (by have h1 := HNN.out; have h2 := HT.out.le a (.mk l ps xs ks); simp only [Tree.text] at h2; rw [szT] at h1; omega) (HB.out.kp hk1))
  have HCF := Lib.hid hcf; have HK1 := Lib.hid hk1
  clear hn1 hs' hl' hall' hcf hj1 hk1 k0 k1 k2 k3
  refine HCF.out.mono ?_
  rintro e w2 ⟨rfl, hj2, hk2⟩
  have HJ2 := Lib.hid hj2; have HK2 := Lib.hid hk2
  clear hj2 hk2
  go_wp2_with fail
  go_ret
  exact ⟨rfl, HJ2.out, (HK.out.trans HK1.out).trans HK2.out⟩

/-- The variables of node.walk, as they are made. -/
abbrev walkW (w : World) (cs : Array Value) (G : FuncId) (cb : Array Value) : World :=
  ((w.alloc (.cells cs 26)).alloc (.cells #[.func (.func G) #[] cb] 40)).alloc (.cells #[.func (.func 113) #[] #[.pointer (some ⟨w.heap.size + 1, 0, none⟩), .pointer (some ⟨w.heap.size + 1 + 1, 0, none⟩)]] 40)

set_option maxHeartbeats 2000000 in
theorem walk_any {α : Type} {f : α → Tree → α} {m : α → Nat} {J : α → World → Prop} {C N : Nat} {G : FuncId} {cb : Array Value} (T : Tells α f m J C N G cb) (eg : ∀ args w, (callFunc G args).run Try.prog w = .ok (.enter G args) w) (t : Tree) (a : α) (cs : List Value) (w : World)
    (hJ : J a w) (hn : NodeAt (fun b => b < C) w cs t) (hC : C ≤ w.heap.size) (hN : m a + szT t ≤ N) :
    Calls Try.prog 91 #[.agg (List.toArray cs), .func (.func G) #[] cb] w (TPost J C true (foldT f a t) w) := by
  obtain ⟨a1, n1, c1, a2, n2, c2, a3, n3, c3, rfl⟩ := hn.form
  have hbW := gr_al (gr_al (gr_al (gr_refl w) (.cells #[.bool t.leaf, .slice a1 n1 c1, .slice a2 n2 c2, .slice a3 n3 c3] 26)) (.cells #[.func (.func G) #[] cb] 40)) (.cells #[.func (.func 113) #[] #[.pointer (some ⟨w.heap.size + 1, 0, none⟩), .pointer (some ⟨w.heap.size + 1 + 1, 0, none⟩)]] 40)
  have s1 : (w.alloc (.cells #[.bool t.leaf, .slice a1 n1 c1, .slice a2 n2 c2, .slice a3 n3 c3] 26)).heap.size = w.heap.size + 1 := by simp
  have s2 : ((w.alloc (.cells #[.bool t.leaf, .slice a1 n1 c1, .slice a2 n2 c2, .slice a3 n3 c3] 26)).alloc (.cells #[.func (.func G) #[] cb] 40)).heap.size = w.heap.size + 1 + 1 := by simp
  have b0 := blk_below (blk_below (heap_alloc_new w (.cells #[.bool t.leaf, .slice a1 n1 c1, .slice a2 n2 c2, .slice a3 n3 c3] 26)) (gr_al (gr_refl _) (.cells #[.func (.func G) #[] cb] 40))) (gr_al (gr_refl _) (.cells #[.func (.func 113) #[] #[.pointer (some ⟨w.heap.size + 1, 0, none⟩), .pointer (some ⟨w.heap.size + 1 + 1, 0, none⟩)]] 40))
  have b1 := heap_alloc_new (w.alloc (.cells #[.bool t.leaf, .slice a1 n1 c1, .slice a2 n2 c2, .slice a3 n3 c3] 26)) (.cells #[.func (.func G) #[] cb] 40)
  rw [s1] at b1
  replace b1 := blk_below b1 (gr_al (gr_refl _) (.cells #[.func (.func 113) #[] #[.pointer (some ⟨w.heap.size + 1, 0, none⟩), .pointer (some ⟨w.heap.size + 1 + 1, 0, none⟩)]] 40))
  have b2 := heap_alloc_new ((w.alloc (.cells #[.bool t.leaf, .slice a1 n1 c1, .slice a2 n2 c2, .slice a3 n3 c3] 26)).alloc (.cells #[.func (.func G) #[] cb] 40)) (.cells #[.func (.func 113) #[] #[.pointer (some ⟨w.heap.size + 1, 0, none⟩), .pointer (some ⟨w.heap.size + 1 + 1, 0, none⟩)]] 40)
  rw [s2] at b2
  have HX := Lib.hid b0
  have HB : Hid (WBox _ (w.heap.size + 1) (w.heap.size + 1 + 1) G cb) := Lib.hid ⟨b1, b2⟩
  have HC := Lib.hid (each_tells T eg t a _ _ (T.later a w _ hJ hbW) (hn.later hbW (Nat.le_refl _)) (Nat.le_trans hC hbW.size) hN HB.out)
  have HK := Lib.hid (Kp.of hbW hC)
  have HEN := Lib.hid (show ∀ args w, (callFunc 113 args).run Try.prog w = .ok (.enter 113 args) w from enters_of Try.func113 (by kernel_rfl) rfl)
  clear hJ hn hC hN hbW T s1 s2 b0 b1 b2 eg
  have eg := HEN.out
  clear HEN
  go_enter Try.func91, Try.ntmps91
  go_upto_region 3 with fail
  generalize World.alloc (World.alloc (World.alloc w _) _) _ = W at *
  obtain ⟨⟨k0, k1, k2, k3⟩, _⟩ := four_facts HX.out
  have e0 := cell_box HB.out.2
  go_wp2_with (go_at_fn 113; refine HC.out.mono ?_; clear k0 k1 k2 k3 e0; rintro e w3 ⟨rfl, hj3, hk3⟩)
  go_ret
  exact ⟨rfl, hj3, HK.out.trans hk3⟩
end Go.Proofs.Ytdcpoeaddhbjbaa
