/- Walks of point.CheckSel, point.SameSel and of the reference's. -/
import Derived.Test.YtcbljiiomnhbjaaRPCheck
import Derived.Test.YtcbljiiomnhbjaaLater
namespace Go.Proofs.Ytcbljiiomnhbjaa
set_option maxRecDepth 100000
open Go.RowKit

/-- Are two points the same? -/
def ptEq (p : List Int) (a : Int) (q : List Int) (b : Int) : Bool := decide (a = b) && decide (p = q)
theorem ptEq_cmp (p q : List Int) (a b : Int) : (cmpP p a q b == 0) = ptEq p a q b := by
  rw [Bool.eq_iff_iff]
  simp [ptEq, cmpP_zero]
  constructor
  · rintro ⟨h1, h2⟩
    exact ⟨h2, h1⟩
  · rintro ⟨h1, h2⟩
    exact ⟨h2, h1⟩
/-- Whether a selection may be. -/
def selR (t : Tree) (is : Bool) (p : List Int) (a : Int) (q : List Int) (b : Int) : Int :=
  if is then (if checkT t p a = 0 then checkT t q b else checkT t p a) else if ptEq p a [] 0 && ptEq q b [] 0 then 0 else 1
def sselB (is : Bool) (p : List Int) (a : Int) (q : List Int) (b : Int) (is' : Bool) (p' : List Int) (a' : Int) (q' : List Int) (b' : Int) : Bool := (is == is') && (ptEq p a p' a' && ptEq q b q' b')

theorem five_facts {w' : World} {g : Nat} {x0 x1 x2 x3 x4 : Value} {t : TypeId} (h : w'.heap[g]? = some (.cells #[x0, x1, x2, x3, x4] t (0, 0))) :
    w'.cell? ⟨g, 0, none⟩ = some x0 ∧ w'.cell? ⟨g, 1, none⟩ = some x1 ∧ w'.cell? ⟨g, 2, none⟩ = some x2 ∧ w'.cell? ⟨g, 3, none⟩ = some x3 ∧ w'.cell? ⟨g, 4, none⟩ = some x4 := by
  have hc := fun i => cell_of_row w' g i _ _ (0, 0) h
  exact ⟨by rw [hc]; rfl, by rw [hc]; rfl, by rw [hc]; rfl, by rw [hc]; rfl, by rw [hc]; rfl⟩

theorem psL {W : World} {p q : List Int} {a b : Int} {x : Bool} {v1 v2 : Value} (h1 : Ints W v1 p) (h2 : Ints W v2 q) (hx : ptEq p a q b = x) :
    ∀ w', Below W.heap.size W w' → Calls Try.prog 70 #[.agg #[v1, .int .i64 a], .agg #[v2, .int .i64 b]] w' fun e w'' => e = .returned (.bool x) ∧ Below W.heap.size W w'' := fun w' hb => by
  refine (psame_any p q a b v1 v2 w' (h1.below hb (Nat.le_refl _)) (h2.below hb (Nat.le_refl _))).mono ?_
  rintro e w'' ⟨rfl, hb2⟩
  exact ⟨by rw [← hx, ptEq_cmp], gr_tr hb hb2⟩
theorem rpsL {W : World} {p q : List Int} {a b : Int} {x : Bool} {v1 v2 : Value} (h1 : Ints W v1 p) (h2 : Ints W v2 q) (hx : ptEq p a q b = x) :
    ∀ w', Below W.heap.size W w' → Calls Try.prog 56 #[.agg #[v1, .int .i64 a], .agg #[v2, .int .i64 b]] w' fun e w'' => e = .returned (.bool x) ∧ Below W.heap.size W w'' := fun w' hb => by
  refine (rpsame_any p q a b v1 v2 w' (h1.below hb (Nat.le_refl _)) (h2.below hb (Nat.le_refl _))).mono ?_
  rintro e w'' ⟨rfl, hb2⟩
  exact ⟨by rw [← hx]; rfl, gr_tr hb hb2⟩
set_option maxHeartbeats 2000000 in
theorem ssel_any (is is' : Bool) (p q p' q' : List Int) (a b a' b' : Int) (v1 v2 v3 v4 : Value) (w : World) (h1 : Ints w v1 p) (h2 : Ints w v2 q) (h3 : Ints w v3 p') (h4 : Ints w v4 q') :
    Calls Try.prog 58 #[.agg #[.bool is, v1, .int .i64 a, v2, .int .i64 b], .agg #[.bool is', v3, .int .i64 a', v4, .int .i64 b']] w fun e w' => e = .returned (.bool (sselB is p a q b is' p' a' q' b')) ∧ Below w.heap.size w w' := by
  obtain ⟨a1, n1, c1, rfl⟩ := h1.slice3
  obtain ⟨a2, n2, c2, rfl⟩ := h2.slice3
  obtain ⟨a3, n3, c3, rfl⟩ := h3.slice3
  obtain ⟨a4, n4, c4, rfl⟩ := h4.slice3
  obtain ⟨hb, hx1, hx2⟩ := two_boxes w #[.bool is, .slice a1 n1 c1, .int .i64 a, .slice a2 n2 c2, .int .i64 b] #[.bool is', .slice a3 n3 c3, .int .i64 a', .slice a4 n4 c4, .int .i64 b'] 33 33
  have HB := Lib.hid hb; have HX1 := Lib.hid hx1; have HX2 := Lib.hid hx2
  have H1 := Lib.hid (h1.below hb (Nat.le_refl _)); have H2 := Lib.hid (h2.below hb (Nat.le_refl _)); have H3 := Lib.hid (h3.below hb (Nat.le_refl _)); have H4 := Lib.hid (h4.below hb (Nat.le_refl _))
  clear h1 h2 h3 h4 hb hx1 hx2
  go_enter Try.func58, Try.ntmps58
  go_upto_region 1 with fail
  generalize World.alloc (World.alloc w _) _ = W at *
  obtain ⟨k0, k1, k2, k3, k4⟩ := five_facts HX1.out
  obtain ⟨q0, q1, q2, q3, q4⟩ := five_facts HX2.out
  cases e0 : is == is'
  · have HR : Hid (sselB is p a q b is' p' a' q' b' = false) := by show _ = _; simp [sselB, e0]
    go_wp2_with fail
    go_ret
    exact ⟨ret_bool HR.out.symm, HB.out⟩
  · have HC := Lib.hid (psL (a := a) (b := a') H1.out H3.out rfl)
    have HD := Lib.hid (psL (a := b) (b := b') H2.out H4.out rfl)
    cases e1 : ptEq p a p' a'
    · rw [e1] at HC
      have HR : Hid (sselB is p a q b is' p' a' q' b' = false) := by show _ = _; simp [sselB, e1]
      clear e1
      go_wp2_with fail
      refine (HC.out _ (gr_refl W)).mono ?_
      rintro e w1 ⟨rfl, l⟩
      have L := Lib.hid l
      clear l
      go_wp2_with fail
      go_ret
      exact ⟨ret_bool HR.out.symm, gr_tr HB.out L.out⟩
    · rw [e1] at HC
      have HR : Hid (sselB is p a q b is' p' a' q' b' = ptEq q b q' b') := by show _ = _; simp [sselB, e0, e1]
      clear e1
      go_wp2_with fail
      refine (HC.out _ (gr_refl W)).mono ?_
      rintro e w1 ⟨rfl, l⟩
      have L := Lib.hid l
      clear k0 k1 k2 k3 k4 q0 q1 q2 q3 q4
      obtain ⟨k0, k1, k2, k3, k4⟩ := five_facts (blk_below HX1.out l)
      obtain ⟨q0, q1, q2, q3, q4⟩ := five_facts (blk_below HX2.out l)
      clear l
      go_wp2_with fail
      refine (HD.out _ L.out).mono ?_
      rintro e w2 ⟨rfl, l⟩
      have L2 := Lib.hid l
      clear l
      go_wp2_with fail
      go_ret
      exact ⟨ret_bool HR.out.symm, gr_tr HB.out L2.out⟩

set_option maxHeartbeats 2000000 in
theorem rssel_any (is is' : Bool) (p q p' q' : List Int) (a b a' b' : Int) (v1 v2 v3 v4 : Value) (w : World) (h1 : Ints w v1 p) (h2 : Ints w v2 q) (h3 : Ints w v3 p') (h4 : Ints w v4 q') :
    Calls Try.prog 35 #[.agg #[.bool is, v1, .int .i64 a, v2, .int .i64 b], .agg #[.bool is', v3, .int .i64 a', v4, .int .i64 b']] w fun e w' => e = .returned (.bool (sselB is p a q b is' p' a' q' b')) ∧ Below w.heap.size w w' := by
  obtain ⟨a1, n1, c1, rfl⟩ := h1.slice3
  obtain ⟨a2, n2, c2, rfl⟩ := h2.slice3
  obtain ⟨a3, n3, c3, rfl⟩ := h3.slice3
  obtain ⟨a4, n4, c4, rfl⟩ := h4.slice3
  obtain ⟨hb, hx1, hx2⟩ := two_boxes w #[.bool is, .slice a1 n1 c1, .int .i64 a, .slice a2 n2 c2, .int .i64 b] #[.bool is', .slice a3 n3 c3, .int .i64 a', .slice a4 n4 c4, .int .i64 b'] 33 33
  have HB := Lib.hid hb; have HX1 := Lib.hid hx1; have HX2 := Lib.hid hx2
  have H1 := Lib.hid (h1.below hb (Nat.le_refl _)); have H2 := Lib.hid (h2.below hb (Nat.le_refl _)); have H3 := Lib.hid (h3.below hb (Nat.le_refl _)); have H4 := Lib.hid (h4.below hb (Nat.le_refl _))
  clear h1 h2 h3 h4 hb hx1 hx2
  go_enter Try.func35, Try.ntmps35
  go_upto_region 1 with fail
  generalize World.alloc (World.alloc w _) _ = W at *
  obtain ⟨k0, k1, k2, k3, k4⟩ := five_facts HX1.out
  obtain ⟨q0, q1, q2, q3, q4⟩ := five_facts HX2.out
  cases e0 : is == is'
  · have HR : Hid (sselB is p a q b is' p' a' q' b' = false) := by show _ = _; simp [sselB, e0]
    go_wp2_with fail
    go_ret
    exact ⟨ret_bool HR.out.symm, HB.out⟩
  · have HC := Lib.hid (rpsL (a := a) (b := a') H1.out H3.out rfl)
    have HD := Lib.hid (rpsL (a := b) (b := b') H2.out H4.out rfl)
    cases e1 : ptEq p a p' a'
    · rw [e1] at HC
      have HR : Hid (sselB is p a q b is' p' a' q' b' = false) := by show _ = _; simp [sselB, e1]
      clear e1
      go_wp2_with fail
      refine (HC.out _ (gr_refl W)).mono ?_
      rintro e w1 ⟨rfl, l⟩
      have L := Lib.hid l
      clear l
      go_wp2_with fail
      go_ret
      exact ⟨ret_bool HR.out.symm, gr_tr HB.out L.out⟩
    · rw [e1] at HC
      have HR : Hid (sselB is p a q b is' p' a' q' b' = ptEq q b q' b') := by show _ = _; simp [sselB, e0, e1]
      clear e1
      go_wp2_with fail
      refine (HC.out _ (gr_refl W)).mono ?_
      rintro e w1 ⟨rfl, l⟩
      have L := Lib.hid l
      clear k0 k1 k2 k3 k4 q0 q1 q2 q3 q4
      obtain ⟨k0, k1, k2, k3, k4⟩ := five_facts (blk_below HX1.out l)
      obtain ⟨q0, q1, q2, q3, q4⟩ := five_facts (blk_below HX2.out l)
      clear l
      go_wp2_with fail
      refine (HD.out _ L.out).mono ?_
      rintro e w2 ⟨rfl, l⟩
      have L2 := Lib.hid l
      clear l
      go_wp2_with fail
      go_ret
      exact ⟨ret_bool HR.out.symm, gr_tr HB.out L2.out⟩
end Go.Proofs.Ytcbljiiomnhbjaa
