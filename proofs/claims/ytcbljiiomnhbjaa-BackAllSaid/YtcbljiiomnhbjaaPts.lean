/- Walks of redlineref07.Same and redlinelaw07.live. Walks of cmp.Or at int, point.Compare, point.Same, point.own, point.Order. Walk of redlinelaw07.short: some answer; opening an argument that is a point. Plain Lean: a tree's paths are those at which a node is found, and they rise; its first and its last point. No program in sight. -/
import Derived.Test.YtcbljiiomnhbjaaLeafEl
import Derived.Test.YtcbljiiomnhbjaaRefs
import Derived.Test.YtcbljiiomnhbjaaPlainAll
import Derived.Test.YtcbljiiomnhbjaaLast
namespace Go.Proofs.Ytcbljiiomnhbjaa
set_option maxRecDepth 100000
open Go.RowKit

/- Walks of redlineref07.Same and redlinelaw07.live. -/
set_option maxHeartbeats 1000000 in
theorem rpsame_any (p q : List Int) (a b : Int) (v1 v2 : Value) (w : World) (h1 : Ints w v1 p) (h2 : Ints w v2 q) :
    Calls Try.prog 56 #[.agg #[v1, .int .i64 a], .agg #[v2, .int .i64 b]] w fun e w' => e = .returned (.bool (decide (a = b) && decide (p = q))) ∧ Below w.heap.size w w' := by
  obtain ⟨a1, n1, c1, rfl⟩ := h1.slice3
  obtain ⟨a2, n2, c2, rfl⟩ := h2.slice3
  have hb1 := gr_al (gr_al (gr_refl w) (.cells #[.slice a1 n1 c1, .int .i64 a] 29)) (.cells #[.slice a2 n2 c2, .int .i64 b] 29)
  have hx1 := blk_below (heap_alloc_new w (.cells #[.slice a1 n1 c1, .int .i64 a] 29)) (gr_al (gr_refl _) (.cells #[.slice a2 n2 c2, .int .i64 b] 29))
  have hx2 := heap_alloc_new (w.alloc (.cells #[.slice a1 n1 c1, .int .i64 a] 29)) (.cells #[.slice a2 n2 c2, .int .i64 b] 29)
  rw [show (w.alloc (.cells #[.slice a1 n1 c1, .int .i64 a] 29)).heap.size = w.heap.size + 1 by simp] at hx2
  have HS := Lib.hid (rsame_any p q _ _ _ (h1.below hb1 (Nat.le_refl _)) (h2.below hb1 (Nat.le_refl _)))
  have HB := Lib.hid hb1; have HX1 := Lib.hid hx1; have HX2 := Lib.hid hx2
  clear h1 h2 hb1 hx1 hx2
  go_enter Try.func56, Try.ntmps56
  go_upto_region 1 with fail
  generalize World.alloc (World.alloc w _) _ = W at *
  obtain ⟨⟨k0, k1⟩, _⟩ := two_facts HX1.out
  obtain ⟨⟨q0, q1⟩, _⟩ := two_facts HX2.out
  by_cases hab : a = b
  · have hd : (a == b) = true := by simpa using hab
    have HD : Hid (decide (a = b) = true) := by show _ = _; simpa using hab
    clear hab
    go_wp2_with fail
    refine HS.out.mono ?_
    rintro e w' ⟨rfl, hs⟩
    go_wp2
    go_ret
    refine ⟨ret_bool ?_, gr_sm HB.out hs⟩
    rw [HD.out, Bool.true_and]
  · have hd : (a == b) = false := by simpa using hab
    have HD : Hid (decide (a = b) = false) := by show _ = _; simpa using hab
    clear hab
    go_wp2_with fail
    go_ret
    refine ⟨ret_bool ?_, HB.out⟩
    rw [HD.out, Bool.false_and]

/-- A literal slice of two nodes. -/
theorem lit_nodes (w : World) (x0 x1 x2 x3 y0 y1 y2 y3 : Value) : Sl Any (w.alloc (.cells #[x0, x1, x2, x3, y0, y1, y2, y3] 27)) 4 80 (.slice (some ⟨w.heap.size, 0, none⟩) 2 2) [[x0, x1, x2, x3], [y0, y1, y2, y3]] := by
  refine ⟨_, 2, rfl, Nat.le_refl _, by unfold maxLen; decide, by simp, by simp, fun _ => ⟨w.heap.size, 0, rfl, fun j hj => ⟨trivial, fun k u hu => ?_⟩⟩⟩
  have hj2 : j = 0 ∨ j = 1 := by simp at hj; omega
  rw [cell_of_row _ w.heap.size _ _ _ (0, 0) (heap_alloc_new w _)]
  have hk : k < 4 := by
    have h := (List.getElem?_eq_some_iff.1 hu).1
    rcases hj2 with rfl | rfl <;> simpa using h
  rcases hj2 with rfl | rfl <;> (obtain rfl | rfl | rfl | rfl : k = 0 ∨ k = 1 ∨ k = 2 ∨ k = 3 := by omega) <;> simpa using hu
theorem lit_nodes_all {w : World} {xs ys : List Value} {s t : Tree} (h1 : NodeAt Any w xs s) (h2 : NodeAt Any w ys t) : ∀ i, i < [s, t].length → NodeAt Any w ([xs, ys].getD i []) ([s, t].getD i default) := by
  intro i hi
  obtain rfl | rfl : i = 0 ∨ i = 1 := by simp at hi; omega
  · exact h1
  · exact h2

/-- True, and nothing that was there has turned. -/
def Yes (w : World) (e : Ending) (w' : World) : Prop := e = .returned (.bool true) ∧ Below w.heap.size w w'

/- Walks of cmp.Or at int, point.Compare, point.Same, point.own, point.Order. -/
theorem two_boxes (w : World) (c1 c2 : Array Value) (t1 t2 : TypeId) : Below w.heap.size w ((w.alloc (.cells c1 t1)).alloc (.cells c2 t2)) ∧
    ((w.alloc (.cells c1 t1)).alloc (.cells c2 t2)).heap[w.heap.size]? = some (.cells c1 t1 (0, 0)) ∧ ((w.alloc (.cells c1 t1)).alloc (.cells c2 t2)).heap[w.heap.size + 1]? = some (.cells c2 t2 (0, 0)) := by
  refine ⟨gr_al (gr_al (gr_refl w) _) _, blk_below (heap_alloc_new w _) (gr_al (gr_refl _) _), ?_⟩
  have := heap_alloc_new (w.alloc (.cells c1 t1)) (.cells c2 t2)
  rwa [show (w.alloc (.cells c1 t1)).heap.size = w.heap.size + 1 by simp] at this

set_option maxHeartbeats 1000000 in
theorem or_any (x y : Int) (v : Value) (w : World) (h : Ints w v [x, y]) : Calls Try.prog 75 #[v] w fun e w' => e = .returned (.int .i64 (orI x y)) ∧ w = w' := by
  obtain ⟨a, c, rfl, l, _, o⟩ := h.open_
  obtain ⟨b, off, rfl, hc⟩ := o (by simp)
  have e0 : w.cell? ⟨b, off, none⟩ = some (.int .i64 x) := hc 0 (by simp)
  have e1 : w.cell? ⟨b, off + 1, none⟩ = some (.int .i64 y) := hc 1 (by simp)
  have l2 : 2 ≤ c := l
  clear hc h o l
  by_cases hx : x = 0
  · subst hx
    have HF : Hid (orI 0 y = y) := by show _ = _; simp [orI]
    by_cases hy : y = 0
    · subst hy
      go_enter Try.func75, Try.ntmps75
      go_wp2
      go_loop [8] (fun i => ∃ k : Nat, k ≤ 2 ∧ i = .int .i64 k) (fun i => 2 - (intOf i).toNat)
      case atStart => exact ⟨0, by omega, rfl⟩
      case round =>
        obtain ⟨k, hk, rfl⟩ := hrel
        obtain rfl | rfl | rfl : k = 0 ∨ k = 1 ∨ k = 2 := by omega
        · go_wp2
          go_round
          case rel => exact ⟨1, by omega, rfl⟩
          case measure => simp [intOf]
        · go_wp2
          go_round
          case rel => exact ⟨2, by omega, rfl⟩
          case measure => simp [intOf]
        · go_wp2
          go_ret
          exact ⟨ret_int HF.out.symm, rfl⟩
    · have hd : (y != 0) = true := by simpa using hy
      go_enter Try.func75, Try.ntmps75
      go_wp2
      go_loop [8] (fun i => ∃ k : Nat, k ≤ 1 ∧ i = .int .i64 k) (fun i => 2 - (intOf i).toNat)
      case atStart => exact ⟨0, by omega, rfl⟩
      case round =>
        obtain ⟨k, hk, rfl⟩ := hrel
        obtain rfl | rfl : k = 0 ∨ k = 1 := by omega
        · go_wp2
          go_round
          case rel => exact ⟨1, by omega, rfl⟩
          case measure => simp [intOf]
        · go_wp2
          go_ret
          exact ⟨ret_int HF.out.symm, rfl⟩
  · have hd : (x != 0) = true := by simpa using hx
    have HF : Hid (orI x y = x) := by show _ = _; simp [orI, hx]
    go_enter Try.func75, Try.ntmps75
    go_wp2
    go_loop [8] (fun i => i = .int .i64 0) (fun i => 2 - (intOf i).toNat)
    case atStart => rfl
    case round =>
      subst hrel
      go_wp2
      go_ret
      exact ⟨ret_int HF.out.symm, rfl⟩

set_option maxHeartbeats 2000000 in
theorem pcompare_any (p q : List Int) (a b : Int) (v1 v2 : Value) (w : World) (h1 : Ints w v1 p) (h2 : Ints w v2 q) :
    Calls Try.prog 74 #[.agg #[v1, .int .i64 a], .agg #[v2, .int .i64 b]] w fun e w' => e = .returned (.int .i64 (cmpP p a q b)) ∧ Below w.heap.size w w' := by
  obtain ⟨a1, n1, c1, rfl⟩ := h1.slice3
  obtain ⟨a2, n2, c2, rfl⟩ := h2.slice3
  obtain ⟨hb, hx1, hx2⟩ := two_boxes w #[.slice a1 n1 c1, .int .i64 a] #[.slice a2 n2 c2, .int .i64 b] 29 29
  have HB := Lib.hid hb; have HX1 := Lib.hid hx1; have HX2 := Lib.hid hx2
  have HI1 := Lib.hid (h1.below hb (Nat.le_refl _)); have HI2 := Lib.hid (h2.below hb (Nat.le_refl _))
  clear h1 h2 hb hx1 hx2
  go_enter Try.func74, Try.ntmps74
  go_upto_region 1 with fail
  generalize World.alloc (World.alloc w _) _ = W at *
  obtain ⟨⟨k0, k1⟩, _⟩ := two_facts HX1.out
  obtain ⟨⟨q0, q1⟩, _⟩ := two_facts HX2.out
  go_region_held3 (fun w' => w'.cell? ⟨w.heap.size, 0, none⟩ = some (.slice a1 n1 c1) ∧ w'.cell? ⟨w.heap.size, 1, none⟩ = some (.int .i64 a) ∧ w'.cell? ⟨w.heap.size + 1, 0, none⟩ = some (.slice a2 n2 c2) ∧ w'.cell? ⟨w.heap.size + 1, 1, none⟩ = some (.int .i64 b))
    (first | exact ⟨k0, k1, q0, q1⟩ | go_keep)
    (first
      | (go_at_call 76; refine (compare_any p q _ _ _ (HI1.out.same ⟨1, rfl⟩) (HI2.out.same ⟨1, rfl⟩)).mono ?_; rintro e w' ⟨rfl, rfl⟩)
      | (go_at_call 77; refine (cmp_int a b _).mono ?_; rintro e w' ⟨rfl, rfl⟩)
      | (go_at_call 75; refine (or_any (cmpI p q) (cmp3 a b) _ _ (lit_ints (World.drewN W 1) #[.int .i64 (cmpI p q), .int .i64 (cmp3 a b)] 2 W.heap.size [cmpI p q, cmp3 a b] rfl rfl rfl (by simp))).mono ?_; rintro e w' ⟨rfl, rfl⟩))
  go_wp2
  go_ret
  exact ⟨rfl, gr_dr (gr_al HB.out _)⟩

theorem psame_any (p q : List Int) (a b : Int) (v1 v2 : Value) (w : World) (h1 : Ints w v1 p) (h2 : Ints w v2 q) :
    Calls Try.prog 70 #[.agg #[v1, .int .i64 a], .agg #[v2, .int .i64 b]] w fun e w' => e = .returned (.bool (cmpP p a q b == 0)) ∧ Below w.heap.size w w' := by
  obtain ⟨a1, n1, c1, rfl⟩ := h1.slice3
  obtain ⟨a2, n2, c2, rfl⟩ := h2.slice3
  obtain ⟨hb, hx1, hx2⟩ := two_boxes w #[.slice a1 n1 c1, .int .i64 a] #[.slice a2 n2 c2, .int .i64 b] 29 29
  have HB := Lib.hid hb; have HX1 := Lib.hid hx1; have HX2 := Lib.hid hx2
  have HI1 := Lib.hid (h1.below hb (Nat.le_refl _)); have HI2 := Lib.hid (h2.below hb (Nat.le_refl _))
  clear h1 h2 hb hx1 hx2
  go_enter Try.func70, Try.ntmps70
  go_upto_region 1 with fail
  generalize World.alloc (World.alloc w _) _ = W at *
  obtain ⟨⟨k0, k1⟩, _⟩ := two_facts HX1.out
  obtain ⟨⟨q0, q1⟩, _⟩ := two_facts HX2.out
  go_wp2_with fail
  refine (pcompare_any p q a b _ _ _ HI1.out HI2.out).mono ?_
  rintro e w1 ⟨rfl, hb1⟩
  have HB1 := Lib.hid (gr_tr HB.out hb1)
  clear hb1
  go_wp2
  go_ret
  exact ⟨rfl, HB1.out⟩

/-- A point's own copy. -/
def OwnPt (w : World) (p : List Int) (a : Int) (e : Ending) (w' : World) : Prop := ∃ x n c, e = .returned (.agg #[.slice x n c, .int .i64 a]) ∧ Own w' w.heap.size (.slice x n c) p ∧ Below w.heap.size w w'

theorem put2_far {w : World} {g b : Nat} {u0 u1 : Value} (h : b ≠ g) : (put2 w g u0 u1).heap[b]? = w.heap[b]? := by simp [World.setCell, Array.getElem?_modify, Ne.symm h]
/-- A pair of points in order. -/
def OrdPt (w : World) (p : List Int) (a : Int) (q : List Int) (b : Int) (turned : Bool) (e : Ending) (w' : World) : Prop :=
  ∃ x1 n1 c1 x2 n2 c2, e = .returned (.tuple #[.agg #[.slice x1 n1 c1, .int .i64 a], .agg #[.slice x2 n2 c2, .int .i64 b], .bool turned]) ∧ Ints w' (.slice x1 n1 c1) p ∧ Ints w' (.slice x2 n2 c2) q ∧ Below w.heap.size w w'

theorem three_boxes (w : World) (c1 c2 c3 : Array Value) (t1 t2 t3 : TypeId) : Below w.heap.size w (((w.alloc (.cells c1 t1)).alloc (.cells c2 t2)).alloc (.cells c3 t3)) ∧
    (((w.alloc (.cells c1 t1)).alloc (.cells c2 t2)).alloc (.cells c3 t3)).heap[w.heap.size]? = some (.cells c1 t1 (0, 0)) ∧ (((w.alloc (.cells c1 t1)).alloc (.cells c2 t2)).alloc (.cells c3 t3)).heap[w.heap.size + 1]? = some (.cells c2 t2 (0, 0)) ∧
      (((w.alloc (.cells c1 t1)).alloc (.cells c2 t2)).alloc (.cells c3 t3)).heap[w.heap.size + 1 + 1]? = some (.cells c3 t3 (0, 0)) := by
  obtain ⟨h1, h2, h3⟩ := two_boxes w c1 c2 t1 t2
  refine ⟨gr_al h1 _, blk_below h2 (gr_al (gr_refl _) _), blk_below h3 (gr_al (gr_refl _) _), ?_⟩
  have := heap_alloc_new ((w.alloc (.cells c1 t1)).alloc (.cells c2 t2)) (.cells c3 t3)
  rwa [show ((w.alloc (.cells c1 t1)).alloc (.cells c2 t2)).heap.size = w.heap.size + 1 + 1 by simp] at this

/- Walk of redlinelaw07.short: some answer; opening an argument that is a point. -/
/-- Points in a slice, of which only the form is known. -/
def PtsForm (w : World) (v : Value) (n : Nat) : Prop := ∃ es : List (List Value), Sl Any w 2 32 v es ∧ es.length = n ∧ ∀ e ∈ es, ∃ a m c o, e = [.slice a m c, .int .i64 o]

/-- A literal slice of points. -/
theorem pts_lit {w : World} {g n : Nat} {cs : Array Value} (es : List (List Value)) (hg : w.heap.size = g) (hn : es.length = n) (hs : n ≤ 1000) (hc : cs = es.flatten.toArray) (hf : ∀ e ∈ es, ∃ a m c o, e = [.slice a m c, .int .i64 o]) :
    PtsForm (w.alloc (.cells cs 29)) (.slice (some ⟨g, 0, none⟩) n n) n := by
  subst hg hn hc
  have h2 : ∀ e ∈ es, e.length = 2 := fun e he => by obtain ⟨a, m, c, o, rfl⟩ := hf e he; rfl
  obtain ⟨f1, f2⟩ := flat_get (size := 2) (by decide) es h2
  refine ⟨es, ⟨_, _, rfl, Nat.le_refl _, by unfold maxLen; omega, by omega, h2, fun _ => ⟨w.heap.size, 0, rfl, fun j hj => ⟨trivial, fun k u hu => ?_⟩⟩⟩, rfl, hf⟩
  rw [cell_of_row _ w.heap.size _ _ _ (0, 0) (heap_alloc_new w _)]
  have hk : k < 2 := by
    have := (List.getElem?_eq_some_iff.1 hu).1
    rwa [h2 (es.getD j []) (by simp [hj])] at this
  rw [List.getElem?_toArray, f2, show (0 + j * 2 + k) / 2 = j by omega, show (0 + j * 2 + k) % 2 = k by omega]
  exact hu

/-- A point's value. -/
def PointV (w : World) (v : Value) (x : List Int × Int) : Prop := ∃ a n c, v = .agg #[.slice a n c, .int .i64 x.2] ∧ Ints w (.slice a n c) x.1 ∧ I64 x.1

/- Plain Lean: a tree's paths are those at which a node is found, and they rise; its first and its last point. No program in sight. -/
theorem cmpI_prefix : ∀ (q a b : List Int), cmpI (q ++ a) (q ++ b) = cmpI a b
  | [], a, b => rfl
  | x :: q, a, b => by
    rw [List.cons_append, List.cons_append, cmpI_cons, cmp3_self, if_pos rfl]
    exact cmpI_prefix q a b
theorem cmpI_ext (q : List Int) (x : Int) (r : List Int) : cmpI q (q ++ x :: r) = -1 := by
  have := cmpI_prefix q [] (x :: r)
  rw [List.append_nil] at this
  rw [this]
  rfl
theorem cmpI_head {x y : Int} (h : x < y) (a b : List Int) : cmpI (x :: a) (y :: b) = -1 := by
  rw [cmpI_cons]
  have h1 : cmp3 x y = -1 := by simp [cmp3, h]
  rw [h1, if_neg (by decide)]

mutual
theorem mem_pathsL (f : Tree → Bool) : ∀ (t : Tree) (q p : List Int), p ∈ pathsL f t q ↔ ∃ r s, p = q ++ r ∧ getT t r = some s ∧ f s = true
  | .mk l ps xs ks, q, p => by
    rw [pathsL, List.mem_append, mem_pathsK f ks q 0 p]
    constructor
    · rintro (h | ⟨j, r, s, hj, hp, hg, hf⟩)
      · split at h
        · rename_i hf
          simp only [List.mem_singleton] at h
          subst h
          exact ⟨[], _, (List.append_nil _).symm, rfl, hf⟩
        · simp at h
      · refine ⟨(j : Int) :: r, s, by rw [hp]; simp, ?_, hf⟩
        rw [getT_cons, if_pos ⟨by omega, by simpa [Tree.kids] using hj⟩]
        simpa [Tree.kids] using hg
    · rintro ⟨r, s, hp, hg, hf⟩
      cases r with
      | nil =>
        left
        rw [getT_nil] at hg
        obtain rfl := Option.some.inj hg
        rw [if_pos hf]
        simp [hp]
      | cons i r =>
        right
        rw [getT_cons] at hg
        split at hg
        · rename_i h
          refine ⟨i.toNat, r, s, by simpa [Tree.kids] using h.2, ?_, by simpa [Tree.kids] using hg, hf⟩
          have : ((0 + i.toNat : Nat) : Int) = i := by omega
          rw [hp, this]
        · cases hg
theorem mem_pathsK (f : Tree → Bool) : ∀ (ks : List Tree) (q : List Int) (i : Nat) (p : List Int), p ∈ pathsK f ks q i ↔ ∃ (j : Nat) (r : List Int) (s : Tree), j < ks.length ∧ p = q ++ ((i + j : Nat) : Int) :: r ∧ getT (ks.getD j default) r = some s ∧ f s = true
  | [], q, i, p => by simp [pathsK]
  | k :: ks, q, i, p => by
    rw [pathsK, List.mem_append, mem_pathsL f k _ p, mem_pathsK f ks q (i + 1) p]
    constructor
    · rintro (⟨r, s, hp, hg, hf⟩ | ⟨j, r, s, hj, hp, hg, hf⟩)
      · exact ⟨0, r, s, by simp, by rw [hp]; simp, by simpa using hg, hf⟩
      · refine ⟨j + 1, r, s, by simpa using hj, ?_, by simpa using hg, hf⟩
        rw [hp, show i + 1 + j = i + (j + 1) by omega]
    · rintro ⟨j, r, s, hj, hp, hg, hf⟩
      cases j with
      | zero => exact .inl ⟨r, s, by rw [hp]; simp, by simpa using hg, hf⟩
      | succ j =>
        refine .inr ⟨j, r, s, by simpa using hj, ?_, by simpa using hg, hf⟩
        rw [hp, show i + 1 + j = i + (j + 1) by omega]
end

mutual
theorem rise_pathsL (f : Tree → Bool) : ∀ (t : Tree) (q : List Int), (pathsL f t q).Pairwise fun a b => cmpI a b = -1
  | .mk l ps xs ks, q => by
    rw [pathsL, List.pairwise_append]
    refine ⟨?_, rise_pathsK f ks q 0, ?_⟩
    · split <;> simp
    · intro a ha b hb
      split at ha
      · simp only [List.mem_singleton] at ha
        subst ha
        obtain ⟨j, r, s, _, hp, _⟩ := (mem_pathsK f ks a 0 b).1 hb
        rw [hp]
        exact cmpI_ext _ _ _
      · simp at ha
theorem rise_pathsK (f : Tree → Bool) : ∀ (ks : List Tree) (q : List Int) (i : Nat), (pathsK f ks q i).Pairwise fun a b => cmpI a b = -1
  | [], q, i => by simp [pathsK]
  | k :: ks, q, i => by
    rw [pathsK, List.pairwise_append]
    refine ⟨rise_pathsL f k _, rise_pathsK f ks q (i + 1), ?_⟩
    intro a ha b hb
    obtain ⟨r, s, hp, _⟩ := (mem_pathsL f k _ a).1 ha
    obtain ⟨j, r', s', _, hp', _⟩ := (mem_pathsK f ks q (i + 1) b).1 hb
    rw [hp, hp', List.append_assoc, cmpI_prefix]
    exact cmpI_head (by omega) _ _
end

theorem mem_leaves (t : Tree) (p : List Int) : p ∈ leavesL t ↔ ∃ s, getT t p = some s ∧ s.leaf = true := by
  rw [show leavesL t = pathsL Tree.leaf t [] from rfl, mem_pathsL]
  constructor
  · rintro ⟨r, s, hp, hg, hf⟩
    rw [List.nil_append] at hp
    subst hp
    exact ⟨s, hg, hf⟩
  · rintro ⟨s, hg, hf⟩
    exact ⟨p, s, rfl, hg, hf⟩
theorem rise_leaves (t : Tree) : (leavesL t).Pairwise fun a b => cmpI a b = -1 := rise_pathsL _ _ _

theorem check_ok {t : Tree} {p : List Int} {off : Int} : checkT t p off = 0 ↔ ∃ s, getT t p = some s ∧ s.leaf = true ∧ 0 ≤ off ∧ off ≤ (s.text.length : Int) := by
  unfold checkT
  cases hg : getT t p with
  | none => simp
  | some s =>
    cases hl : s.leaf
    · simp [hl]
    · simp [hl]
theorem check_mem {t : Tree} {p : List Int} {off : Int} (h : checkT t p off = 0) : p ∈ leavesL t := by
  obtain ⟨s, hg, hl, _⟩ := check_ok.1 h
  exact (mem_leaves t p).2 ⟨s, hg, hl⟩

/-- The first leaf's path stands ahead of each, or is it. -/
theorem first_le {L : List (List Int)} (h : L.Pairwise fun a b => cmpI a b = -1) {p : List Int} (hp : p ∈ L) : L.getD 0 [] = p ∨ cmpI (L.getD 0 []) p = -1 := by
  cases L with
  | nil => simp at hp
  | cons a L =>
    rcases List.mem_cons.1 hp with rfl | hp
    · exact .inl rfl
    · exact .inr ((List.pairwise_cons.1 h).1 p hp)
theorem last_le {L : List (List Int)} (h : L.Pairwise fun a b => cmpI a b = -1) {p : List Int} (hp : p ∈ L) : p = L.getD (L.length - 1) [] ∨ cmpI p (L.getD (L.length - 1) []) = -1 := by
  obtain ⟨i, hi, rfl⟩ := List.getElem_of_mem hp
  have hl : L.length - 1 < L.length := by omega
  have e : L.getD (L.length - 1) [] = L[L.length - 1] := by simp [hl]
  rw [e]
  by_cases hil : i = L.length - 1
  · left
    simp [hil]
  · right
    exact List.pairwise_iff_getElem.1 h i (L.length - 1) hi hl (by omega)
theorem lastD_mem {L : List (List Int)} (h : 0 < L.length) : L.getD (L.length - 1) [] ∈ L := by
  have hl : L.length - 1 < L.length := by omega
  simp [hl]
theorem firstD_mem {L : List (List Int)} (h : 0 < L.length) : L.getD 0 [] ∈ L := by simp [h]

/-- The tree's first point, and its last one. -/
theorem edge_first {t : Tree} (h : 0 < (leavesL t).length) : edgeR t (leavesL t) false = ((leavesL t).getD 0 [], 0, 0) ∧ checkT t ((leavesL t).getD 0 []) 0 = 0 := by
  constructor
  · unfold edgeR
    rw [if_neg (by omega), if_pos rfl]
  · obtain ⟨s, hg, hl⟩ := (mem_leaves t _).1 (firstD_mem h)
    exact check_ok.2 ⟨s, hg, hl, by omega, by omega⟩
theorem edge_last {t : Tree} (h : 0 < (leavesL t).length) : ∃ n : Nat, edgeR t (leavesL t) true = ((leavesL t).getD ((leavesL t).length - 1) [], (n : Int), 0) ∧ checkT t ((leavesL t).getD ((leavesL t).length - 1) []) n = 0 ∧
    ∀ p off, p = (leavesL t).getD ((leavesL t).length - 1) [] → checkT t p off = 0 → off ≤ n := by
  obtain ⟨s, hg, hl⟩ := (mem_leaves t _).1 (lastD_mem h)
  refine ⟨s.text.length, ?_, check_ok.2 ⟨s, hg, hl, by omega, by omega⟩, ?_⟩
  · unfold edgeR
    rw [if_neg (by omega), if_neg (by decide), hg]
  · intro p off hp hc
    subst hp
    obtain ⟨s', hg', _, _, hle⟩ := check_ok.1 hc
    rw [hg] at hg'
    obtain rfl := Option.some.inj hg'
    exact hle
theorem edge_none {t : Tree} (h : (leavesL t).length = 0) (last : Bool) : edgeR t (leavesL t) last = ([], 0, 14) := by
  unfold edgeR
  rw [if_pos h]

theorem cmp3_le {a b : Int} (h : a ≤ b) : cmp3 a b ≤ 0 := by
  unfold cmp3
  split
  · omega
  · rw [if_neg (by omega)]
    omega
/-- What the law says: each point lies between the first one and the last one. -/
theorem between {t : Tree} {p : List Int} {off : Int} (h : checkT t p off = 0) : cmpP ((leavesL t).getD 0 []) 0 p off ≤ 0 ∧ ∀ n : Nat, (∀ p off, p = (leavesL t).getD ((leavesL t).length - 1) [] → checkT t p off = 0 → off ≤ n) → cmpP p off ((leavesL t).getD ((leavesL t).length - 1) []) n ≤ 0 := by
  have hm := check_mem h
  obtain ⟨s, _, _, h0, _⟩ := check_ok.1 h
  constructor
  · rcases first_le (rise_leaves t) hm with e | e
    · rw [cmpP_eq e]
      exact cmp3_le h0
    · rw [cmpP_ne (fun h => by rw [cmpI_zero.2 h] at e; cases e), e]
      decide
  · intro n hn
    rcases last_le (rise_leaves t) hm with e | e
    · rw [cmpP_eq e]
      exact cmp3_le (hn p off e h)
    · rw [cmpP_ne (fun h => by rw [cmpI_zero.2 h] at e; cases e), e]
      decide
end Go.Proofs.Ytcbljiiomnhbjaa
