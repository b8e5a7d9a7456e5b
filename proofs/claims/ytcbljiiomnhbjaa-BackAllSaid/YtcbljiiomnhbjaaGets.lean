/- Walk of tree.Get: a copy of the node at a path. Walk of redlineref04.left and Few: some number, some answer. Walk of point.Check: whether a point may be. -/
import Derived.Test.YtcbljiiomnhbjaaAt
import Derived.Test.YtcbljiiomnhbjaaCopy
namespace Go.Proofs.Ytcbljiiomnhbjaa
set_option maxRecDepth 100000
open Go.RowKit

/- Walk of tree.Get: a copy of the node at a path. -/
/-- A node's zero. -/
abbrev zeroN : Value := .agg #[.bool false, .slice none 0 0, .slice none 0 0, .slice none 0 0]
/-- The cells of a node or, where there is none, of the zero one. -/
def zeroT : Tree := .mk false [] [] []

/-- What a function hands back that finds a tree, or does not. -/
def Found (w : World) (r : Option Tree) (er : Int) (e : Ending) (w' : World) : Prop :=
  Below w.heap.size w w' ∧ ((r = none ∧ e = .returned (.tuple #[zeroN, .int .i64 er])) ∨
    ∃ cs s, r = some s ∧ e = .returned (.tuple #[.agg (Array.mk cs), .int .i64 0]) ∧ Tr w' (fun b => w.heap.size ≤ b) cs s)

theorem blk_below {w w1 : World} {g : Nat} {o : Obj} (h : w.heap[g]? = some o) (hb : Below w.heap.size w w1) : w1.heap[g]? = some o := by
  rw [hb.block g (lt_of_block h), h]
theorem copied_form {t : Tree} {w : World} {e : Ending} {w' : World} (h : Copied t w e w') : ∃ (l : Bool) (a1 : Option Addr) (n1 c1 : Nat) (a2 : Option Addr) (n2 c2 : Nat) (a3 : Option Addr) (n3 c3 : Nat), e = .returned (.agg #[.bool l, .slice a1 n1 c1, .slice a2 n2 c2, .slice a3 n3 c3]) ∧
    Tr w' (fun b => w.heap.size ≤ b) [.bool l, .slice a1 n1 c1, .slice a2 n2 c2, .slice a3 n3 c3] t ∧ Below w.heap.size w w' := by
  obtain ⟨cs, he, ht, hb⟩ := h
  obtain ⟨a1, n1, c1, a2, n2, c2, a3, n3, c3, hc⟩ := ht.nodeAt.form
  subst hc
  exact ⟨_, _, _, _, _, _, _, _, _, _, he, ht, hb⟩
/-- A block of four cells, its cells and marks. -/
theorem four_facts {w' : World} {g : Nat} {x0 x1 x2 x3 : Value} {t : TypeId} (h : w'.heap[g]? = some (.cells #[x0, x1, x2, x3] t (0, 0))) :
    (w'.cell? ⟨g, 0, none⟩ = some x0 ∧ w'.cell? ⟨g, 1, none⟩ = some x1 ∧ w'.cell? ⟨g, 2, none⟩ = some x2 ∧ w'.cell? ⟨g, 3, none⟩ = some x3) ∧
      (w'.frozen? ⟨g, 0, none⟩ = false ∧ w'.frozen? ⟨g, 1, none⟩ = false ∧ w'.frozen? ⟨g, 2, none⟩ = false ∧ w'.frozen? ⟨g, 3, none⟩ = false) := by
  have hc := fun i => cell_of_row w' g i _ _ (0, 0) h
  refine ⟨⟨by rw [hc]; rfl, by rw [hc]; rfl, by rw [hc]; rfl, by rw [hc]; rfl⟩, ?_⟩
  simp [World.frozen?, h]

/-- Some integer. -/
def SomeInt (w : World) (e : Ending) (w' : World) : Prop := ∃ n : Int, e = .returned (.int .i64 n) ∧ Below w.heap.size w w'

/-- At a round's head, in a world later: some number so far, the node's box as it was. -/
def LeftInv (w : World) (l : Bool) (v1 v2 v3 : Value) (m : Value) (wr : World) : Prop :=
  (∃ n : Int, m = .int .i64 n) ∧ wr.heap[w.heap.size]? = some (.cells #[.bool l, v1, v2, v3] 27 (0, 0)) ∧ Below w.heap.size w wr

theorem prop_at {S : Nat → Prop} {w : World} {a : Option Addr} {n c : Nat} {ps : List (ByteArray × ByteArray)} (h : PropsAt S w (.slice a n c) ps) (k : Nat) (hk : k < n) :
    ∃ b off s1 s2, a = some ⟨b, off, none⟩ ∧ n ≤ c ∧ w.cell? ⟨b, off + k * 2, none⟩ = some (.string s1) ∧ w.cell? ⟨b, off + k * 2 + 1, none⟩ = some (.string s2) ∧ ps[k]? = some (s1, s2) := by
  obtain ⟨b, off, rfl, hc, _, hr, _⟩ := h.at_ k hk
  have hl : n = ps.length := by
    obtain ⟨a', c', he⟩ := h.slice
    simp only [Value.slice.injEq, List.length_map] at he
    omega
  have : (ps.map propCells).getD k [] = propCells (ps[k]'(by omega)) := by simp [show k < ps.length by omega]
  rw [this] at hr
  exact ⟨b, off, _, _, rfl, hc, hr 0 _ rfl, hr 1 _ rfl, by simp [show k < ps.length by omega]⟩
theorem kid_at {S : Nat → Prop} {w : World} {a : Option Addr} {n c : Nat} {es : List (List Value)} {ks : List Tree} (h : Sl S w 4 80 (.slice a n c) es) (hl : es.length = ks.length) (hall : ∀ i, i < ks.length → NodeAt S w (es.getD i []) (ks.getD i default)) (k : Nat) (hk : k < n) :
    ∃ b off l a1 n1 c1 a2 n2 c2 a3 n3 c3, a = some ⟨b, off, none⟩ ∧ n ≤ c ∧ NodeAt S w [.bool l, .slice a1 n1 c1, .slice a2 n2 c2, .slice a3 n3 c3] (ks.getD k default) ∧ ks.getD k default ∈ ks ∧
      w.cell? ⟨b, off + k * 4, none⟩ = some (.bool l) ∧ w.cell? ⟨b, off + k * 4 + 1, none⟩ = some (.slice a1 n1 c1) ∧ w.cell? ⟨b, off + k * 4 + 2, none⟩ = some (.slice a2 n2 c2) ∧ w.cell? ⟨b, off + k * 4 + 3, none⟩ = some (.slice a3 n3 c3) := by
  obtain ⟨b, off, rfl, hc, _, hr, _⟩ := h.at_ k hk
  have hn : n = es.length := by
    obtain ⟨a', c', he⟩ := h.slice
    simp only [Value.slice.injEq] at he
    omega
  have hkk : k < ks.length := by omega
  have hn := hall k hkk
  obtain ⟨a1, n1, c1, a2, n2, c2, a3, n3, c3, hform⟩ := hn.form
  rw [hform] at hr hn
  obtain ⟨r0, r1, r2, r3⟩ := range4 hr
  exact ⟨b, off, _, a1, n1, c1, a2, n2, c2, a3, n3, c3, rfl, hc, hn, by simp [hkk], r0, r1, r2, r3⟩

set_option maxHeartbeats 2000000 in
theorem leftN_any : ∀ (t : Tree) (cs : List Value) (S : Nat → Prop) (m : Int) (w : World), NodeAt S w cs t → Calls Try.prog 40 #[.agg (Array.mk cs), .int .i64 m] w (SomeInt w) := by
  refine Tree.ind fun l ps xs ks ih => ?_
  intro cs S m w h
  have IH := Lib.hid ih
  clear ih
  cases h with
  | @mk _ _ _ _ pv tv kv es hp ht hk hl hall =>
  obtain ⟨a1, c1, rfl⟩ := hp.slice
  obtain ⟨a2, c2, rfl⟩ := ht.slice
  obtain ⟨a3, c3, rfl⟩ := hk.slice
  have b1 := hp.len
  have b2 := ht.len
  have b3 := hk.len
  simp only [List.length_map] at b1 b2 hp ht
  simp only [List.length_map]
  generalize hn1 : ps.length = n1 at *
  generalize hn2 : xs.length = n2 at *
  generalize hn3 : es.length = n3 at *
  have HP := Lib.hid hp; have HK := Lib.hid hk; have HA := Lib.hid hall; have HL := Lib.hid hl
  have N1 := Lib.hid hn1; have N3 := Lib.hid hn3
  have hI : BoxFacts w.heap.size l (.slice a1 n1 c1) (.slice a2 n2 c2) (.slice a3 n3 c3) (w.alloc (.cells #[.bool l, .slice a1 n1 c1, .slice a2 n2 c2, .slice a3 n3 c3] 27)) := boxFacts_of (heap_alloc_new w _)
  have HI : Hid (LeftInv w l (.slice a1 n1 c1) (.slice a2 n2 c2) (.slice a3 n3 c3) (.int .i64 0) (w.alloc (.cells #[.bool l, .slice a1 n1 c1, .slice a2 n2 c2, .slice a3 n3 c3] 27))) := by
    show LeftInv _ _ _ _ _ _ _
    exact ⟨⟨0, rfl⟩, heap_alloc_new w _, gr_al (gr_refl w) _⟩
  obtain ⟨⟨k0, k1, k2, k3⟩, _⟩ := hI
  clear hp ht hk hall hl hn1 hn2 hn3
  go_enter Try.func40, Try.ntmps40
  go_wp2_with fail
  clear k0 k1 k2 k3
  go_loopw [1, 22] (fun m i wr => ∃ k : Nat, k ≤ n1 ∧ i = .int .i64 k ∧ LeftInv w l (.slice a1 n1 c1) (.slice a2 n2 c2) (.slice a3 n3 c3) m wr) (fun _ i _ => n1 - (intOf i).toNat)
  case atStart => exact ⟨0, Nat.zero_le _, rfl, ⟨_, rfl⟩, HI.out.2⟩
  case round =>
    obtain ⟨k, hk, rfl, ⟨m, rfl⟩, hbx, hbw⟩ := hrel
    obtain ⟨⟨k0, k1, k2, k3⟩, _⟩ := boxFacts_of hbx
    have HX := Lib.hid hbx; have HW := Lib.hid hbw
    clear HI
    by_cases hlt : k < n1
    · obtain ⟨b, off, s1, s2, rfl, hcap, e1, e2, _⟩ := prop_at (HP.out.later hbw (Nat.le_refl _)) k hlt
      clear hbx hbw
      go_wp2_with fail
      go_roundw
      case rel => exact ⟨k + 1, by omega, by go_num, ⟨_, rfl⟩, blk_below HX.out (gr_al (gr_refl _) _), gr_al HW.out _⟩
      case measure => simp [intOf]; omega
    · have hkn : k = n1 := by omega
      subst hkn
      clear hlt hbx hbw
      go_wp2_with fail
      · go_ret
        exact ⟨_, rfl, HW.out⟩
      · clear k0 k1 k2 k3
        go_loopw [1, 43] (fun m i wr => ∃ j : Nat, j ≤ n3 ∧ i = .int .i64 j ∧ LeftInv w l (.slice a1 k c1) (.slice a2 n2 c2) (.slice a3 n3 c3) m wr) (fun _ i _ => n3 - (intOf i).toNat)
        case atStart => exact ⟨0, Nat.zero_le _, rfl, ⟨_, rfl⟩, HX.out, HW.out⟩
        case round =>
          obtain ⟨j, hj, rfl, ⟨m', rfl⟩, hbx, hbw⟩ := hrel
          have HX2 := Lib.hid hbx; have HW2 := Lib.hid hbw
          clear HX HW
          by_cases hlt : j < n3
          · obtain ⟨b, off, l', p1, q1, r1, p2, q2, r2, p3, q3, r3, rfl, hcap, hn, hmem, e0, e1, e2, e3⟩ := kid_at (HK.out.later hbw (Nat.le_refl _)) (N3.out.trans HL.out) (fun i hi => (HA.out i hi).later hbw (Nat.le_refl _)) j hlt
            have HC := Lib.hid (fun mm => IH.out _ hmem _ _ mm _ (hn.alloc (.cells #[.bool l', .slice p1 q1 r1, .slice p2 q2 r2, .slice p3 q3 r3] 27)))
            clear hbx hbw hn hmem
            go_wp2_with fail
            refine (HC.out _).mono ?_
            rintro e w2 ⟨n', rfl, hb2⟩
            have HB2 := Lib.hid hb2
            clear hb2 HC
            go_wp2_with fail
            · go_ret
              exact ⟨_, rfl, gr_tr (gr_al HW2.out _) HB2.out⟩
            · go_roundw
              case rel => exact ⟨j + 1, by omega, by go_num, ⟨_, rfl⟩, blk_below (blk_below HX2.out (gr_al (gr_refl _) _)) HB2.out, gr_tr (gr_al HW2.out _) HB2.out⟩
              case measure => simp [intOf]; omega
          · have hjn : j = n3 := by omega
            subst hjn
            clear hlt hbx hbw
            go_wp2_with fail
            go_ret
            exact ⟨_, rfl, HW2.out⟩

/-- Some answer. -/
def SomeBool (w : World) (e : Ending) (w' : World) : Prop := ∃ b : Bool, e = .returned (.bool b) ∧ Below w.heap.size w w'

theorem fewN_any (t : Tree) (cs : List Value) (S : Nat → Prop) (m : Int) (w : World) (h : NodeAt S w cs t) : Calls Try.prog 16 #[.agg (Array.mk cs), .int .i64 m] w (SomeBool w) := by
  obtain ⟨a1, n1, c1, a2, n2, c2, a3, n3, c3, rfl⟩ := h.form
  have HC := Lib.hid (leftN_any t _ S m _ (h.alloc (.cells #[.bool t.leaf, .slice a1 n1 c1, .slice a2 n2 c2, .slice a3 n3 c3] 27)))
  have HB := Lib.hid (gr_al (gr_refl w) (.cells #[.bool t.leaf, .slice a1 n1 c1, .slice a2 n2 c2, .slice a3 n3 c3] 27))
  clear h
  go_enter Try.func16, Try.ntmps16
  go_wp2_with fail
  refine HC.out.mono ?_
  rintro e w2 ⟨n', rfl, hb2⟩
  have HB2 := Lib.hid hb2
  clear hb2
  go_wp2_with fail
  go_ret
  exact ⟨_, rfl, gr_tr HB.out HB2.out⟩

/- Walk of point.Check: whether a point may be. -/
/-- Whether a point may be, or why not. -/
def checkT (t : Tree) (p : List Int) (off : Int) : Int :=
  match getT t p with
  | none => 5
  | some s => if s.leaf = false then 7 else if off < 0 ∨ (s.text.length : Int) < off then 8 else 0

theorem NodeAt.boxed {S : Nat → Prop} {w w' : World} {cs : List Value} {t : Tree} (h : NodeAt S w cs t) (hb : Below w.heap.size w w') : NodeAt S w' cs t := h.later hb (Nat.le_refl _)

end Go.Proofs.Ytcbljiiomnhbjaa
