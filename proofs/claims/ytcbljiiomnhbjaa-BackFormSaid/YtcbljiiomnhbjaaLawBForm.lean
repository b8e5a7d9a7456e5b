/- The walk of the law BackForm. (genbform.py wrote it.) -/
import Derived.Test.YtcbljiiomnhbjaaLive11
import Derived.Test.YtcbljiiomnhbjaaOpenNode
namespace Go.Proofs.Ytcbljiiomnhbjaa
set_option maxRecDepth 100000
open Go.RowKit

theorem zeroNd (w : World) : NodeAt Any w [.bool false, .slice none 0 0, .slice none 0 0, .slice none 0 0] noT := .mk (Sl.nil _ _ _ _) (Sl.nil _ _ _ _) (Sl.nil _ _ _ _) rfl (fun i hi => by simp at hi)

set_option maxHeartbeats 8000000 in
set_option maxRecDepth 1000000 in
theorem law_bform (k : Int) (p : List Int) (t : Tree) (ps : List (ByteArray × ByteArray)) (xs : List Int) (v0 v1 v2 v3 v4 : Value) (w : World) (h0 : v0 = .int .i64 k ∧ -9223372036854775808 ≤ k ∧ k ≤ 9223372036854775807) (h1 : Ints w v1 p ∧ I64 p) (h2 : NodeV w v2 t) (h3 : PropsAt Any w v3 ps) (h4 : TextAt Any w v4 xs) :
    Calls Try.prog 4 #[v0, v1, v2, v3, v4] w (Yes w) := by
  obtain ⟨rfl, hk⟩ := h0
  obtain ⟨ip, -⟩ := h1
  obtain ⟨cs, rfl, hn⟩ := h2
  obtain ⟨b1, m1, d1, b2, m2, d2, b3, m3, d3, rfl⟩ := hn.form
  obtain ⟨a1, c1, rfl⟩ := ip.slice
  obtain ⟨a3, c3, rfl⟩ := h3.slice
  obtain ⟨a4, c4, rfl⟩ := h4.slice
  rw [List.length_map] at h3 h4 ⊢
  rw [List.length_map]
  have hbW := gr_al (gr_refl w) (.cells #[.bool t.leaf, .slice b1 m1 d1, .slice b2 m2 d2, .slice b3 m3 d3] 27)
  have BX := Lib.hid (heap_alloc_new w (.cells #[.bool t.leaf, .slice b1 m1 d1, .slice b2 m2 d2, .slice b3 m3 d3] 27))
  have HP := Lib.hid (ip.below hbW (Nat.le_refl _)); have HN := Lib.hid (hn.later hbW (Nat.le_refl _)); have HO := Lib.hid (h3.later hbW (Nat.le_refl _)); have HT := Lib.hid (h4.later hbW (Nat.le_refl _)); have LB := Lib.hid hbW; have HK := Lib.hid hk
  clear ip hn h3 h4 hbW hk
  go_enter Try.func4, Try.ntmps4
  go_upto_region 1 with fail
  generalize World.alloc w _ = W at *
  go_wp2_with fail
  refine (live11_any W).mono ?_
  rintro e W' ⟨rfl, hb⟩
  replace HP := Lib.hid (HP.out.below hb (Nat.le_refl _)); replace HN := Lib.hid (HN.out.later hb (Nat.le_refl _)); replace HO := Lib.hid (HO.out.later hb (Nat.le_refl _)); replace HT := Lib.hid (HT.out.later hb (Nat.le_refl _)); replace BX := Lib.hid (blk_below BX.out hb); replace LB := Lib.hid (gr_tr LB.out hb)
  clear hb
  by_cases h60 : (60 : Int) < (p.length : Int)
  case pos =>
    have qh60 := decide_eq_true h60
    clear h60
    go_wp2_with fail
    go_ret
    exact ⟨rfl, LB.out⟩
  have qh60 := decide_eq_false h60
  clear h60
  obtain ⟨⟨k0, k1, k2, k3⟩, _⟩ := four_facts BX.out
  go_wp2_with fail
  refine (fewN_any t _ Any 100 _ HN.out).mono ?_
  rintro e W' ⟨fw, rfl, hb⟩
  replace HP := Lib.hid (HP.out.below hb (Nat.le_refl _)); replace HN := Lib.hid (HN.out.later hb (Nat.le_refl _)); replace HO := Lib.hid (HO.out.later hb (Nat.le_refl _)); replace HT := Lib.hid (HT.out.later hb (Nat.le_refl _)); replace BX := Lib.hid (blk_below BX.out hb); replace LB := Lib.hid (gr_tr LB.out hb)
  clear hb k0 k1 k2 k3
  cases fw
  case false =>
    go_wp2_with fail
    go_ret
    exact ⟨rfl, LB.out⟩
  by_cases h40 : (40 : Int) < (ps.length : Int)
  case pos =>
    have qh40 := decide_eq_true h40
    clear h40
    go_wp2_with fail
    go_ret
    exact ⟨rfl, LB.out⟩
  have qh40 := decide_eq_false h40
  clear h40
  by_cases h100 : (100 : Int) < (xs.length : Int)
  case pos =>
    have qh100 := decide_eq_true h100
    clear h100
    go_wp2_with fail
    go_ret
    exact ⟨rfl, LB.out⟩
  have qh100 := decide_eq_false h100
  clear h100
  go_wp2_with fail
  refine (fewN_any (.mk false ps [] []) [.bool false, .slice a3 ps.length c3, .slice none 0 0, .slice none 0 0] Any 100 _ (.mk HO.out (Sl.nil _ _ _ _) (Sl.nil _ _ _ _) rfl (fun i hi => by simp at hi))).mono ?_
  rintro e W' ⟨fw, rfl, hb⟩
  replace HP := Lib.hid (HP.out.below hb (Nat.le_refl _)); replace HN := Lib.hid (HN.out.later hb (Nat.le_refl _)); replace HO := Lib.hid (HO.out.later hb (Nat.le_refl _)); replace HT := Lib.hid (HT.out.later hb (Nat.le_refl _)); replace BX := Lib.hid (blk_below BX.out hb); replace LB := Lib.hid (gr_tr LB.out hb)
  clear hb
  cases fw
  case false =>
    go_wp2_with fail
    go_ret
    exact ⟨rfl, LB.out⟩
  clear qh60 qh40 qh100
  by_cases h1k : 1 ≤ k
  case neg =>
    have q1k := decide_eq_false h1k
    have H19 : Hid (¬ (1 ≤ k ∧ k ≤ 9)) := Lib.hid (fun h => h1k h.1)
    clear h1k
    obtain ⟨e0, he0⟩ : ∃ e, formX (kO k) = e := ⟨_, rfl⟩
    have hc := bform_any (kO k) _ W' (show OpV W' (.agg #[.int .i64 k, .slice none 0 0, .slice none 0 0, .int .i64 0, .bool false, .slice none 0 0, .slice none 0 0, .slice none 0 0, .slice none 0 0, .slice none 0 0, .slice none 0 0, .bool false, .slice none 0 0, .int .i64 0, .slice none 0 0, .int .i64 0, .bool false, .slice none 0 0, .int .i64 0, .slice none 0 0, .int .i64 0]) (kO k) from ⟨none, 0, none, 0, none, 0, 0, none, 0, 0, none, 0, 0, none, 0, none, 0, none, 0, none, 0, 0, none, 0, 0, none, 0, 0, none, 0, 0, rfl, ⟨ints_nil _, ints_nil _, zeroNd _, Sl.nil _ _ _ _, Sl.nil _ _ _ _, Sl.nil _ _ _ _, ints_nil _, ints_nil _, ints_nil _, ints_nil _⟩⟩) HK.out
    rw [he0] at hc
    have HC := Lib.hid hc
    have He0 := Lib.hid he0
    clear hc he0
    go_wp2_with fail
    refine (HC.out).mono ?_
    rintro e W' ⟨rfl, hb⟩
    replace HP := Lib.hid (HP.out.below hb (Nat.le_refl _)); replace HN := Lib.hid (HN.out.later hb (Nat.le_refl _)); replace HO := Lib.hid (HO.out.later hb (Nat.le_refl _)); replace HT := Lib.hid (HT.out.later hb (Nat.le_refl _)); replace BX := Lib.hid (blk_below BX.out hb); replace LB := Lib.hid (gr_tr LB.out hb)
    clear hb HC
    obtain rfl : e0 = 1 := by rw [← He0.out]; exact fm_bad _ H19.out
    obtain ⟨⟨k0, k1, k2, k3⟩, _⟩ := four_facts BX.out
    obtain ⟨e9, he9⟩ : ∃ e, formX { kO k with path := p, node := t, old := ps } = e := ⟨_, rfl⟩
    have hc := bform_any { kO k with path := p, node := t, old := ps } _ W' (show OpV W' (.agg #[.int .i64 k, .slice a1 p.length c1, .slice none 0 0, .int .i64 0, .bool t.leaf, .slice b1 m1 d1, .slice b2 m2 d2, .slice b3 m3 d3, .slice a3 ps.length c3, .slice none 0 0, .slice none 0 0, .bool false, .slice none 0 0, .int .i64 0, .slice none 0 0, .int .i64 0, .bool false, .slice none 0 0, .int .i64 0, .slice none 0 0, .int .i64 0]) { kO k with path := p, node := t, old := ps } from ⟨a1, c1, none, 0, b1, m1, d1, b2, m2, d2, b3, m3, d3, a3, c3, none, 0, none, 0, none, 0, 0, none, 0, 0, none, 0, 0, none, 0, 0, rfl, ⟨HP.out, ints_nil _, HN.out, HO.out, Sl.nil _ _ _ _, Sl.nil _ _ _ _, ints_nil _, ints_nil _, ints_nil _, ints_nil _⟩⟩) HK.out
    rw [he9] at hc
    have HC := Lib.hid hc
    have He9 := Lib.hid he9
    clear hc he9
    go_wp2_with fail
    refine (HC.out).mono ?_
    rintro e W' ⟨rfl, hb⟩
    replace HP := Lib.hid (HP.out.below hb (Nat.le_refl _)); replace HN := Lib.hid (HN.out.later hb (Nat.le_refl _)); replace HO := Lib.hid (HO.out.later hb (Nat.le_refl _)); replace HT := Lib.hid (HT.out.later hb (Nat.le_refl _)); replace BX := Lib.hid (blk_below BX.out hb); replace LB := Lib.hid (gr_tr LB.out hb)
    clear hb HC k0 k1 k2 k3
    obtain rfl : e9 = 1 := by rw [← He9.out]; exact fm_bad _ H19.out
    go_wp2_with fail
    go_ret
    exact ⟨rfl, LB.out⟩
  have q1k := decide_eq_true h1k
  by_cases h9k : k ≤ 9
  case neg =>
    have q9k := decide_eq_false h9k
    have H19 : Hid (¬ (1 ≤ k ∧ k ≤ 9)) := Lib.hid (fun h => h9k h.2)
    clear h9k h1k
    obtain ⟨e0, he0⟩ : ∃ e, formX (kO k) = e := ⟨_, rfl⟩
    have hc := bform_any (kO k) _ W' (show OpV W' (.agg #[.int .i64 k, .slice none 0 0, .slice none 0 0, .int .i64 0, .bool false, .slice none 0 0, .slice none 0 0, .slice none 0 0, .slice none 0 0, .slice none 0 0, .slice none 0 0, .bool false, .slice none 0 0, .int .i64 0, .slice none 0 0, .int .i64 0, .bool false, .slice none 0 0, .int .i64 0, .slice none 0 0, .int .i64 0]) (kO k) from ⟨none, 0, none, 0, none, 0, 0, none, 0, 0, none, 0, 0, none, 0, none, 0, none, 0, none, 0, 0, none, 0, 0, none, 0, 0, none, 0, 0, rfl, ⟨ints_nil _, ints_nil _, zeroNd _, Sl.nil _ _ _ _, Sl.nil _ _ _ _, Sl.nil _ _ _ _, ints_nil _, ints_nil _, ints_nil _, ints_nil _⟩⟩) HK.out
    rw [he0] at hc
    have HC := Lib.hid hc
    have He0 := Lib.hid he0
    clear hc he0
    go_wp2_with fail
    refine (HC.out).mono ?_
    rintro e W' ⟨rfl, hb⟩
    replace HP := Lib.hid (HP.out.below hb (Nat.le_refl _)); replace HN := Lib.hid (HN.out.later hb (Nat.le_refl _)); replace HO := Lib.hid (HO.out.later hb (Nat.le_refl _)); replace HT := Lib.hid (HT.out.later hb (Nat.le_refl _)); replace BX := Lib.hid (blk_below BX.out hb); replace LB := Lib.hid (gr_tr LB.out hb)
    clear hb HC
    obtain rfl : e0 = 1 := by rw [← He0.out]; exact fm_bad _ H19.out
    obtain ⟨⟨k0, k1, k2, k3⟩, _⟩ := four_facts BX.out
    obtain ⟨e9, he9⟩ : ∃ e, formX { kO k with path := p, node := t, old := ps } = e := ⟨_, rfl⟩
    have hc := bform_any { kO k with path := p, node := t, old := ps } _ W' (show OpV W' (.agg #[.int .i64 k, .slice a1 p.length c1, .slice none 0 0, .int .i64 0, .bool t.leaf, .slice b1 m1 d1, .slice b2 m2 d2, .slice b3 m3 d3, .slice a3 ps.length c3, .slice none 0 0, .slice none 0 0, .bool false, .slice none 0 0, .int .i64 0, .slice none 0 0, .int .i64 0, .bool false, .slice none 0 0, .int .i64 0, .slice none 0 0, .int .i64 0]) { kO k with path := p, node := t, old := ps } from ⟨a1, c1, none, 0, b1, m1, d1, b2, m2, d2, b3, m3, d3, a3, c3, none, 0, none, 0, none, 0, 0, none, 0, 0, none, 0, 0, none, 0, 0, rfl, ⟨HP.out, ints_nil _, HN.out, HO.out, Sl.nil _ _ _ _, Sl.nil _ _ _ _, ints_nil _, ints_nil _, ints_nil _, ints_nil _⟩⟩) HK.out
    rw [he9] at hc
    have HC := Lib.hid hc
    have He9 := Lib.hid he9
    clear hc he9
    go_wp2_with fail
    refine (HC.out).mono ?_
    rintro e W' ⟨rfl, hb⟩
    replace HP := Lib.hid (HP.out.below hb (Nat.le_refl _)); replace HN := Lib.hid (HN.out.later hb (Nat.le_refl _)); replace HO := Lib.hid (HO.out.later hb (Nat.le_refl _)); replace HT := Lib.hid (HT.out.later hb (Nat.le_refl _)); replace BX := Lib.hid (blk_below BX.out hb); replace LB := Lib.hid (gr_tr LB.out hb)
    clear hb HC k0 k1 k2 k3
    obtain rfl : e9 = 1 := by rw [← He9.out]; exact fm_bad _ H19.out
    go_wp2_with fail
    go_ret
    exact ⟨rfl, LB.out⟩
  have q9k := decide_eq_true h9k
  have H19 := Lib.hid (And.intro h1k h9k)
  clear h1k h9k
  obtain ⟨e0, he0⟩ : ∃ e, formX (kO k) = e := ⟨_, rfl⟩
  have hc := bform_any (kO k) _ W' (show OpV W' (.agg #[.int .i64 k, .slice none 0 0, .slice none 0 0, .int .i64 0, .bool false, .slice none 0 0, .slice none 0 0, .slice none 0 0, .slice none 0 0, .slice none 0 0, .slice none 0 0, .bool false, .slice none 0 0, .int .i64 0, .slice none 0 0, .int .i64 0, .bool false, .slice none 0 0, .int .i64 0, .slice none 0 0, .int .i64 0]) (kO k) from ⟨none, 0, none, 0, none, 0, 0, none, 0, 0, none, 0, 0, none, 0, none, 0, none, 0, none, 0, 0, none, 0, 0, none, 0, 0, none, 0, 0, rfl, ⟨ints_nil _, ints_nil _, zeroNd _, Sl.nil _ _ _ _, Sl.nil _ _ _ _, Sl.nil _ _ _ _, ints_nil _, ints_nil _, ints_nil _, ints_nil _⟩⟩) HK.out
  rw [he0] at hc
  have HC := Lib.hid hc
  have He0 := Lib.hid he0
  clear hc he0
  go_wp2_with fail
  refine (HC.out).mono ?_
  rintro e W' ⟨rfl, hb⟩
  replace HP := Lib.hid (HP.out.below hb (Nat.le_refl _)); replace HN := Lib.hid (HN.out.later hb (Nat.le_refl _)); replace HO := Lib.hid (HO.out.later hb (Nat.le_refl _)); replace HT := Lib.hid (HT.out.later hb (Nat.le_refl _)); replace BX := Lib.hid (blk_below BX.out hb); replace LB := Lib.hid (gr_tr LB.out hb)
  clear hb HC
  have q0 : (e0 == 0) = true := by rw [← He0.out]; exact fm_none k H19.out
  obtain ⟨e1, he1⟩ : ∃ e, formX { kO k with path := p } = e := ⟨_, rfl⟩
  have hc := bform_any { kO k with path := p } _ W' (show OpV W' (.agg #[.int .i64 k, .slice a1 p.length c1, .slice none 0 0, .int .i64 0, .bool false, .slice none 0 0, .slice none 0 0, .slice none 0 0, .slice none 0 0, .slice none 0 0, .slice none 0 0, .bool false, .slice none 0 0, .int .i64 0, .slice none 0 0, .int .i64 0, .bool false, .slice none 0 0, .int .i64 0, .slice none 0 0, .int .i64 0]) { kO k with path := p } from ⟨a1, c1, none, 0, none, 0, 0, none, 0, 0, none, 0, 0, none, 0, none, 0, none, 0, none, 0, 0, none, 0, 0, none, 0, 0, none, 0, 0, rfl, ⟨HP.out, ints_nil _, zeroNd _, Sl.nil _ _ _ _, Sl.nil _ _ _ _, Sl.nil _ _ _ _, ints_nil _, ints_nil _, ints_nil _, ints_nil _⟩⟩) HK.out
  rw [he1] at hc
  have HC := Lib.hid hc
  have He1 := Lib.hid he1
  clear hc he1
  go_wp2_with fail
  refine (HC.out).mono ?_
  rintro e W' ⟨rfl, hb⟩
  replace HP := Lib.hid (HP.out.below hb (Nat.le_refl _)); replace HN := Lib.hid (HN.out.later hb (Nat.le_refl _)); replace HO := Lib.hid (HO.out.later hb (Nat.le_refl _)); replace HT := Lib.hid (HT.out.later hb (Nat.le_refl _)); replace BX := Lib.hid (blk_below BX.out hb); replace LB := Lib.hid (gr_tr LB.out hb)
  clear hb HC
  clear q0 He0
  obtain ⟨e2, he2⟩ : ∃ e, formX { kO k with text := xs } = e := ⟨_, rfl⟩
  have hc := bform_any { kO k with text := xs } _ W' (show OpV W' (.agg #[.int .i64 k, .slice none 0 0, .slice none 0 0, .int .i64 0, .bool false, .slice none 0 0, .slice none 0 0, .slice none 0 0, .slice none 0 0, .slice none 0 0, .slice a4 xs.length c4, .bool false, .slice none 0 0, .int .i64 0, .slice none 0 0, .int .i64 0, .bool false, .slice none 0 0, .int .i64 0, .slice none 0 0, .int .i64 0]) { kO k with text := xs } from ⟨none, 0, none, 0, none, 0, 0, none, 0, 0, none, 0, 0, none, 0, none, 0, a4, c4, none, 0, 0, none, 0, 0, none, 0, 0, none, 0, 0, rfl, ⟨ints_nil _, ints_nil _, zeroNd _, Sl.nil _ _ _ _, Sl.nil _ _ _ _, HT.out, ints_nil _, ints_nil _, ints_nil _, ints_nil _⟩⟩) HK.out
  rw [he2] at hc
  have HC := Lib.hid hc
  have He2 := Lib.hid he2
  clear hc he2
  go_wp2_with fail
  refine (HC.out).mono ?_
  rintro e W' ⟨rfl, hb⟩
  replace HP := Lib.hid (HP.out.below hb (Nat.le_refl _)); replace HN := Lib.hid (HN.out.later hb (Nat.le_refl _)); replace HO := Lib.hid (HO.out.later hb (Nat.le_refl _)); replace HT := Lib.hid (HT.out.later hb (Nat.le_refl _)); replace BX := Lib.hid (blk_below BX.out hb); replace LB := Lib.hid (gr_tr LB.out hb)
  clear hb HC
  obtain ⟨⟨k0, k1, k2, k3⟩, _⟩ := four_facts BX.out
  obtain ⟨e3, he3⟩ : ∃ e, formX { kO k with node := t } = e := ⟨_, rfl⟩
  have hc := bform_any { kO k with node := t } _ W' (show OpV W' (.agg #[.int .i64 k, .slice none 0 0, .slice none 0 0, .int .i64 0, .bool t.leaf, .slice b1 m1 d1, .slice b2 m2 d2, .slice b3 m3 d3, .slice none 0 0, .slice none 0 0, .slice none 0 0, .bool false, .slice none 0 0, .int .i64 0, .slice none 0 0, .int .i64 0, .bool false, .slice none 0 0, .int .i64 0, .slice none 0 0, .int .i64 0]) { kO k with node := t } from ⟨none, 0, none, 0, b1, m1, d1, b2, m2, d2, b3, m3, d3, none, 0, none, 0, none, 0, none, 0, 0, none, 0, 0, none, 0, 0, none, 0, 0, rfl, ⟨ints_nil _, ints_nil _, HN.out, Sl.nil _ _ _ _, Sl.nil _ _ _ _, Sl.nil _ _ _ _, ints_nil _, ints_nil _, ints_nil _, ints_nil _⟩⟩) HK.out
  rw [he3] at hc
  have HC := Lib.hid hc
  have He3 := Lib.hid he3
  clear hc he3
  go_wp2_with fail
  refine (HC.out).mono ?_
  rintro e W' ⟨rfl, hb⟩
  replace HP := Lib.hid (HP.out.below hb (Nat.le_refl _)); replace HN := Lib.hid (HN.out.later hb (Nat.le_refl _)); replace HO := Lib.hid (HO.out.later hb (Nat.le_refl _)); replace HT := Lib.hid (HT.out.later hb (Nat.le_refl _)); replace BX := Lib.hid (blk_below BX.out hb); replace LB := Lib.hid (gr_tr LB.out hb)
  clear hb HC k0 k1 k2 k3
  obtain ⟨e4, he4⟩ : ∃ e, formX { kO k with old := ps } = e := ⟨_, rfl⟩
  have hc := bform_any { kO k with old := ps } _ W' (show OpV W' (.agg #[.int .i64 k, .slice none 0 0, .slice none 0 0, .int .i64 0, .bool false, .slice none 0 0, .slice none 0 0, .slice none 0 0, .slice a3 ps.length c3, .slice none 0 0, .slice none 0 0, .bool false, .slice none 0 0, .int .i64 0, .slice none 0 0, .int .i64 0, .bool false, .slice none 0 0, .int .i64 0, .slice none 0 0, .int .i64 0]) { kO k with old := ps } from ⟨none, 0, none, 0, none, 0, 0, none, 0, 0, none, 0, 0, a3, c3, none, 0, none, 0, none, 0, 0, none, 0, 0, none, 0, 0, none, 0, 0, rfl, ⟨ints_nil _, ints_nil _, zeroNd _, HO.out, Sl.nil _ _ _ _, Sl.nil _ _ _ _, ints_nil _, ints_nil _, ints_nil _, ints_nil _⟩⟩) HK.out
  rw [he4] at hc
  have HC := Lib.hid hc
  have He4 := Lib.hid he4
  clear hc he4
  go_wp2_with fail
  refine (HC.out).mono ?_
  rintro e W' ⟨rfl, hb⟩
  replace HP := Lib.hid (HP.out.below hb (Nat.le_refl _)); replace HN := Lib.hid (HN.out.later hb (Nat.le_refl _)); replace HO := Lib.hid (HO.out.later hb (Nat.le_refl _)); replace HT := Lib.hid (HT.out.later hb (Nat.le_refl _)); replace BX := Lib.hid (blk_below BX.out hb); replace LB := Lib.hid (gr_tr LB.out hb)
  clear hb HC
  obtain ⟨e5, he5⟩ : ∃ e, formX { kO k with dest := p } = e := ⟨_, rfl⟩
  have hc := bform_any { kO k with dest := p } _ W' (show OpV W' (.agg #[.int .i64 k, .slice none 0 0, .slice a1 p.length c1, .int .i64 0, .bool false, .slice none 0 0, .slice none 0 0, .slice none 0 0, .slice none 0 0, .slice none 0 0, .slice none 0 0, .bool false, .slice none 0 0, .int .i64 0, .slice none 0 0, .int .i64 0, .bool false, .slice none 0 0, .int .i64 0, .slice none 0 0, .int .i64 0]) { kO k with dest := p } from ⟨none, 0, a1, c1, none, 0, 0, none, 0, 0, none, 0, 0, none, 0, none, 0, none, 0, none, 0, 0, none, 0, 0, none, 0, 0, none, 0, 0, rfl, ⟨ints_nil _, HP.out, zeroNd _, Sl.nil _ _ _ _, Sl.nil _ _ _ _, Sl.nil _ _ _ _, ints_nil _, ints_nil _, ints_nil _, ints_nil _⟩⟩) HK.out
  rw [he5] at hc
  have HC := Lib.hid hc
  have He5 := Lib.hid he5
  clear hc he5
  go_wp2_with fail
  refine (HC.out).mono ?_
  rintro e W' ⟨rfl, hb⟩
  replace HP := Lib.hid (HP.out.below hb (Nat.le_refl _)); replace HN := Lib.hid (HN.out.later hb (Nat.le_refl _)); replace HO := Lib.hid (HO.out.later hb (Nat.le_refl _)); replace HT := Lib.hid (HT.out.later hb (Nat.le_refl _)); replace BX := Lib.hid (blk_below BX.out hb); replace LB := Lib.hid (gr_tr LB.out hb)
  clear hb HC
  obtain ⟨⟨k0, k1, k2, k3⟩, _⟩ := four_facts BX.out
  obtain ⟨bN, hbN⟩ : ∃ b, eqT t noT = b := ⟨_, rfl⟩
  obtain ⟨bP, hP⟩ : ∃ b, ((p.length : Int) == 0) = b := ⟨_, rfl⟩
  obtain ⟨bT, hT⟩ : ∃ b, ((xs.length : Int) == 0) = b := ⟨_, rfl⟩
  obtain ⟨bO, hO⟩ : ∃ b, ((ps.length : Int) == 0) = b := ⟨_, rfl⟩
  have Q1 := fm_path k H19.out p; have Q2 := fm_text k H19.out xs; have Q3 := fm_node k H19.out t; have Q4 := fm_old k H19.out ps; have Q5 := fm_dest k H19.out p
  rw [He1.out, hP] at Q1; rw [He2.out, hT] at Q2; rw [He3.out, hbN] at Q3; rw [He4.out, hO] at Q4; rw [He5.out, hP] at Q5
  have hc := r4same_any t noT _ [.bool false, .slice none 0 0, .slice none 0 0, .slice none 0 0] Any Any _ HN.out (zeroNd _)
  rw [hbN] at hc
  have HC := Lib.hid hc
  have R1 := Lib.hid Q1; have R2 := Lib.hid Q2; have R3 := Lib.hid Q3; have R4 := Lib.hid Q4; have R5 := Lib.hid Q5
  have h19 := H19.out
  clear hc hbN Q1 Q2 Q3 Q4 Q5 He1 He2 He3 He4 He5 HK H19
  have HHP := Lib.hid hP; have HHT := Lib.hid hT; have HHO := Lib.hid hO; clear hP hT hO
  have H19' := Lib.hid h19; clear h19
  go_wp2_with fail
  refine (HC.out).mono ?_
  rintro e W' ⟨rfl, hb⟩
  replace HP := Lib.hid (HP.out.below hb (Nat.le_refl _)); replace HN := Lib.hid (HN.out.later hb (Nat.le_refl _)); replace HO := Lib.hid (HO.out.later hb (Nat.le_refl _)); replace HT := Lib.hid (HT.out.later hb (Nat.le_refl _)); replace BX := Lib.hid (blk_below BX.out hb); replace LB := Lib.hid (gr_tr LB.out hb)
  clear hb HC k0 k1 k2 k3
  clear BX HP HN HO HT q1k q9k
  go_upto_region 16 with fail
  have h19 := H19'.out
  have hcase : k = 1 ∨ k = 2 ∨ k = 3 ∨ k = 4 ∨ k = 5 ∨ k = 6 ∨ k = 7 ∨ k = 8 ∨ k = 9 := by omega
  clear h19 H19'
  rcases hcase with rfl | rfl | rfl | rfl | rfl | rfl | rfl | rfl | rfl
  · have q1 : (e1 == 0) = true := R1.out.trans (by simp)
    have q5 : (e5 == 0) = bP := R5.out.trans (by simp)
    have q2 : (e2 == 0) = bT := R2.out.trans (by simp)
    have q3 : (e3 == 0) = true := R3.out.trans (by simp)
    have q4 : (e4 == 0) = bO := R4.out.trans (by simp)
    have hP := HHP.out; have hT := HHT.out; have hO := HHO.out
    clear R1 R2 R3 R4 R5 HHP HHT HHO
    go_wp2_with fail
    go_ret
    first | exact ⟨rfl, LB.out⟩ | exact ⟨ret_bool (by simp), LB.out⟩
  · have q1 : (e1 == 0) = true := R1.out.trans (by simp)
    have q5 : (e5 == 0) = bP := R5.out.trans (by simp)
    have q2 : (e2 == 0) = bT := R2.out.trans (by simp)
    have q3 : (e3 == 0) = true := R3.out.trans (by simp)
    have q4 : (e4 == 0) = bO := R4.out.trans (by simp)
    have hP := HHP.out; have hT := HHT.out; have hO := HHO.out
    clear R1 R2 R3 R4 R5 HHP HHT HHO
    go_wp2_with fail
    go_ret
    first | exact ⟨rfl, LB.out⟩ | exact ⟨ret_bool (by simp), LB.out⟩
  · have q1 : (e1 == 0) = true := R1.out.trans (by simp)
    have q5 : (e5 == 0) = bP := R5.out.trans (by simp)
    have q2 : (e2 == 0) = bT := R2.out.trans (by simp)
    have q3 : (e3 == 0) = bN := R3.out.trans (by simp)
    have q4 : (e4 == 0) = true := R4.out.trans (by simp)
    have hP := HHP.out; have hT := HHT.out; have hO := HHO.out
    clear R1 R2 R3 R4 R5 HHP HHT HHO
    go_wp2_with fail
    go_ret
    first | exact ⟨rfl, LB.out⟩ | exact ⟨ret_bool (by simp), LB.out⟩
  · have q1 : (e1 == 0) = true := R1.out.trans (by simp)
    have q5 : (e5 == 0) = bP := R5.out.trans (by simp)
    have q2 : (e2 == 0) = bT := R2.out.trans (by simp)
    have q3 : (e3 == 0) = bN := R3.out.trans (by simp)
    have q4 : (e4 == 0) = bO := R4.out.trans (by simp)
    have hP := HHP.out; have hT := HHT.out; have hO := HHO.out
    clear R1 R2 R3 R4 R5 HHP HHT HHO
    go_wp2_with fail
    go_ret
    first | exact ⟨rfl, LB.out⟩ | exact ⟨ret_bool (by simp), LB.out⟩
  · have q1 : (e1 == 0) = true := R1.out.trans (by simp)
    have q5 : (e5 == 0) = true := R5.out.trans (by simp)
    have q2 : (e2 == 0) = bT := R2.out.trans (by simp)
    have q3 : (e3 == 0) = bN := R3.out.trans (by simp)
    have q4 : (e4 == 0) = bO := R4.out.trans (by simp)
    have hP := HHP.out; have hT := HHT.out; have hO := HHO.out
    clear R1 R2 R3 R4 R5 HHP HHT HHO
    go_wp2_with fail
    go_ret
    first | exact ⟨rfl, LB.out⟩ | exact ⟨ret_bool (by simp), LB.out⟩
  · have q1 : (e1 == 0) = true := R1.out.trans (by simp)
    have q5 : (e5 == 0) = bP := R5.out.trans (by simp)
    have q2 : (e2 == 0) = bT := R2.out.trans (by simp)
    have q3 : (e3 == 0) = bN := R3.out.trans (by simp)
    have q4 : (e4 == 0) = true := R4.out.trans (by simp)
    have hP := HHP.out; have hT := HHT.out; have hO := HHO.out
    clear R1 R2 R3 R4 R5 HHP HHT HHO
    go_wp2_with fail
    go_ret
    first | exact ⟨rfl, LB.out⟩ | exact ⟨ret_bool (by simp), LB.out⟩
  · have q1 : (e1 == 0) = true := R1.out.trans (by simp)
    have q5 : (e5 == 0) = bP := R5.out.trans (by simp)
    have q2 : (e2 == 0) = true := R2.out.trans (by simp)
    have q3 : (e3 == 0) = bN := R3.out.trans (by simp)
    have q4 : (e4 == 0) = bO := R4.out.trans (by simp)
    have hP := HHP.out; have hT := HHT.out; have hO := HHO.out
    clear R1 R2 R3 R4 R5 HHP HHT HHO
    go_wp2_with fail
    go_ret
    first | exact ⟨rfl, LB.out⟩ | exact ⟨ret_bool (by simp), LB.out⟩
  · have q1 : (e1 == 0) = true := R1.out.trans (by simp)
    have q5 : (e5 == 0) = bP := R5.out.trans (by simp)
    have q2 : (e2 == 0) = true := R2.out.trans (by simp)
    have q3 : (e3 == 0) = bN := R3.out.trans (by simp)
    have q4 : (e4 == 0) = bO := R4.out.trans (by simp)
    have hP := HHP.out; have hT := HHT.out; have hO := HHO.out
    clear R1 R2 R3 R4 R5 HHP HHT HHO
    go_wp2_with fail
    go_ret
    first | exact ⟨rfl, LB.out⟩ | exact ⟨ret_bool (by simp), LB.out⟩
  · have q1 : (e1 == 0) = bP := R1.out.trans (by simp)
    have q5 : (e5 == 0) = bP := R5.out.trans (by simp)
    have q2 : (e2 == 0) = bT := R2.out.trans (by simp)
    have q3 : (e3 == 0) = bN := R3.out.trans (by simp)
    have q4 : (e4 == 0) = bO := R4.out.trans (by simp)
    have hP := HHP.out; have hT := HHT.out; have hO := HHO.out
    clear R1 R2 R3 R4 R5 HHP HHT HHO
    go_wp2_with fail
    go_ret
    first | exact ⟨rfl, LB.out⟩ | exact ⟨ret_bool (by simp), LB.out⟩
end Go.Proofs.Ytcbljiiomnhbjaa
