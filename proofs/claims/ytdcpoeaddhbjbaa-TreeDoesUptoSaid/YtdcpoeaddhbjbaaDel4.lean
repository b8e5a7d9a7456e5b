/- Walk of slices.Delete at []api.Node: one element out of a row of the call's own. -/
import Derived.Test.YtdcpoeaddhbjbaaMem4
import Derived.Deep.RegionLaw
namespace Go.Proofs.Ytdcpoeaddhbjbaa
set_option maxRecDepth 100000
open Go.RowKit

theorem zero_nodeV (w : World) : (zeroValue 26).run Try.prog w = .ok (.agg #[.bool false, .slice none 0 0, .slice none 0 0, .slice none 0 0]) w := by kernel_rfl
theorem zero_nodeL : (Builtin.zeroCells (Value.agg #[.bool false, .slice none 0 0, .slice none 0 0, .slice none 0 0]).cells 1).toList = [.bool false, .slice none 0 0, .slice none 0 0, .slice none 0 0] := by kernel_rfl

/-- What the delete leaves. -/
theorem del_row {w : World} {B g n c i : Nat} {e : TypeId} {es : List (List Value)} {zs : List Value} (h : OwnSl w B e 4 80 (.slice (some ⟨g, 0, none⟩) n c) es) (hi : i < n) (hz : zs.length = 4) :
    OwnSl ((w.setCells g (i * 4) (es.drop (i + 1)).flatten).setCells g ((n - 1) * 4) zs) B e 4 80 (.slice (some ⟨g, 0, none⟩) (n - 1) c) (es.eraseIdx i) := by
  have hlen : es.length = n := by obtain ⟨a', c', he⟩ := (h.sl (by decide)).slice; simp only [Value.slice.injEq] at he; omega
  obtain ⟨⟨hl1, h1⟩, h2, h3⟩ := h
  have hel : (es.eraseIdx i).length = n - 1 := by rw [List.length_eraseIdx, if_pos (by omega), hlen]
  have h3d : ∀ x ∈ es.drop (i + 1), x.length = 4 := fun x hx => h3 x (List.mem_of_mem_drop hx)
  have h3t : ∀ x ∈ es.take i, x.length = 4 := fun x hx => h3 x (List.mem_of_mem_take hx)
  have fd := (flat_get (size := 4) (by decide) _ h3d).1
  have ft := (flat_get (size := 4) (by decide) _ h3t).1
  obtain ⟨fe, _⟩ := flat_get (size := 4) (by decide) es h3
  rw [List.length_drop, hlen] at fd
  rw [List.length_take, hlen, Nat.min_eq_left (by omega)] at ft
  have hfl : (es.eraseIdx i).flatten = (es.take i).flatten ++ (es.drop (i + 1)).flatten := by rw [List.eraseIdx_eq_take_drop_succ, List.flatten_append]
  rcases h1 with ⟨h0, _⟩ | ⟨g', cap, cur, hv, hB, hg, hn, hm, hs, ht⟩
  · cases h0
  · simp only [Value.slice.injEq, Option.some.injEq, Addr.mk.injEq] at hv
    obtain ⟨⟨rfl, -⟩, -, rfl⟩ := hv
    rw [hlen] at ht hn
    have hcs : n * 4 ≤ cur.size := by rw [hs]; exact Nat.mul_le_mul_right _ hn
    obtain ⟨cur1, a1, a2, a3⟩ := setCells_block g (es.drop (i + 1)).flatten (i * 4) w cur e (0, 0) hg (by rw [fd]; omega)
    obtain ⟨cur2, b1, b2, b3⟩ := setCells_block g zs ((n - 1) * 4) _ cur1 e (0, 0) a1 (by omega)
    refine ⟨⟨by rw [hfl, List.length_append, ft, fd, hel]; omega, .inr ⟨g, c, cur2, by rw [hel], hB, b1, by rw [hel]; omega, hm, by omega, ?_⟩⟩, by rw [hel]; omega, fun x hx => h3 x (List.mem_of_mem_eraseIdx hx)⟩
    rw [hel, hfl]
    apply List.ext_getElem?
    intro j
    by_cases hj : j < (n - 1) * 4
    · rw [List.getElem?_take, if_pos hj, b3, if_neg (by omega), a3]
      by_cases hji : j < i * 4
      · rw [if_neg (by omega), List.getElem?_append_left (by omega)]
        have e1 : es.flatten = (es.take i).flatten ++ (es.drop i).flatten := by rw [← List.flatten_append, List.take_append_drop]
        have e2 : (cur.toList.take (n * 4))[j]? = es.flatten[j]? := by rw [ht]
        rw [List.getElem?_take, if_pos (by omega), e1, List.getElem?_append_left (by omega)] at e2
        exact e2
      · rw [if_pos (by omega), List.getElem?_append_right (by omega), ft]
    · rw [List.getElem?_eq_none (by rw [List.length_take]; omega), List.getElem?_eq_none (by rw [List.length_append, ft, fd]; omega)]

set_option maxHeartbeats 2000000 in
set_option maxRecDepth 100000 in
theorem del_nodes (es : List (List Value)) (B g n c i : Nat) (x y : Int) (w : World) (h : OwnSl w B 26 4 80 (.slice (some ⟨g, 0, none⟩) n c) es) (hone : ∀ u ∈ es.flatten, u.oneCell' = true) (hi : i < n) (hx : x = i) (hy : y = (i : Int) + 1) :
    Calls Try.prog 99 #[.slice (some ⟨g, 0, none⟩) n c, .int .i64 x, .int .i64 y] w fun e w' => e = .returned (.slice (some ⟨g, 0, none⟩) (n - 1) c) ∧
      OwnSl w' B 26 4 80 (.slice (some ⟨g, 0, none⟩) (n - 1) c) (es.eraseIdx i) ∧ w.heap.size ≤ w'.heap.size ∧ (∀ z, z ≠ g → w'.heap[z]? = w.heap[z]?) ∧ Below g w w' := by
  subst hx
  obtain ⟨j, hj⟩ : ∃ j : Nat, j = i + 1 := ⟨_, rfl⟩
  obtain rfl : y = (j : Int) := by omega
  have hlen : es.length = n := by obtain ⟨a', c', he⟩ := (h.sl (by decide)).slice; simp only [Value.slice.injEq] at he; omega
  have hb80 := h.2.1
  have h3 := h.2.2
  have hcap : n ≤ c ∧ c ≤ maxLen ∧ ∀ k, k < n * 4 → (w.cell? ⟨g, k, none⟩).isSome = true ∧ w.frozen? ⟨g, k, none⟩ = false ∧ w.cell? ⟨g, k, none⟩ = es.flatten[k]? := by
    rcases h.1.2 with ⟨h0, _⟩ | ⟨g', cap, cur, hv, hB, hg, hn, hm, hs, ht⟩
    · cases h0
    · simp only [Value.slice.injEq, Option.some.injEq, Addr.mk.injEq] at hv
      obtain ⟨⟨rfl, -⟩, -, rfl⟩ := hv
      rw [hlen] at hn ht
      have hcs : n * 4 ≤ cur.size := by rw [hs]; exact Nat.mul_le_mul_right _ hn
      refine ⟨hn, hm, fun k hk => ?_⟩
      have hc := cell_of_row w g k cur _ (0, 0) hg
      refine ⟨by rw [hc, Array.getElem?_eq_getElem (by omega)]; rfl, by simp [World.frozen?, hg], ?_⟩
      rw [hc, ← ht, List.getElem?_take, if_pos hk]
      simp
  obtain ⟨hnc, hcm, hcells⟩ := hcap
  unfold maxLen at hcm
  obtain ⟨f1, f2⟩ := flat_get (size := 4) (by decide) es h3
  -- the cells that are moved to the left
  obtain ⟨news, hnews⟩ : ∃ news, news = (es.drop j).flatten := ⟨_, rfl⟩
  have hnl : news.length = (n - j) * 4 := by rw [hnews, (flat_get (size := 4) (by decide) _ (fun x hx => h3 x (List.mem_of_mem_drop hx))).1, List.length_drop, hlen]
  have hget : ∀ t, t < (n - j) * 4 → news[t]? = es.flatten[j * 4 + t]? := by
    intro t ht
    have e1 : es.flatten = (es.take j).flatten ++ (es.drop j).flatten := by rw [← List.flatten_append, List.take_append_drop]
    have e2 : (es.take j).flatten.length = j * 4 := by rw [(flat_get (size := 4) (by decide) _ (fun x hx => h3 x (List.mem_of_mem_take hx))).1, List.length_take, hlen, Nat.min_eq_left (by omega)]
    rw [e1, List.getElem?_append_right (by omega), e2, hnews]
    congr 1
    omega
  obtain ⟨A, hA, hsrc⟩ : ∃ A : Addr, (if c = j then (some ⟨g, 0, none⟩ : Option Addr) else some ⟨g, j * 4, none⟩) = some A ∧ Hid (∀ t u, news[t]? = some u → w.drew.cell? (A.add t) = some u) := by
    by_cases hcj : c = j
    · refine ⟨⟨g, 0, none⟩, by simp [hcj], fun t u hu => ?_⟩
      have h0 : news.length = 0 := by rw [hnl]; omega
      rw [List.length_eq_zero_iff.1 h0] at hu
      simp at hu
    · refine ⟨⟨g, j * 4, none⟩, by simp [hcj], fun t u hu => ?_⟩
      have ht : t < (n - j) * 4 := by
        have := (List.getElem?_eq_some_iff.1 hu).1
        rwa [hnl] at this
      rw [hget t ht] at hu
      rw [Addr.add_lit]
      exact ((hcells (j * 4 + t) (by omega)).2.2).trans hu
  have S1 : Hid (news.length = (n - j) * 4) := Lib.hid hnl
  have S2 : Hid (∀ u ∈ news, u.oneCell' = true) := Lib.hid (by
    intro u hu
    rw [hnews] at hu
    obtain ⟨e, he, hue⟩ := List.mem_flatten.1 hu
    exact hone u (List.mem_flatten.2 ⟨e, List.mem_of_mem_drop he, hue⟩))
  have S3 : Hid (∀ t, t < news.length → (w.drew.cell? ⟨g, 0 + i * 4 + t, none⟩).isSome = true ∧ w.drew.frozen? ⟨g, 0 + i * 4 + t, none⟩ = false) := Lib.hid (by
    intro t ht
    rw [hnl] at ht
    have := hcells (0 + i * 4 + t) (by omega)
    exact ⟨this.1, this.2.1⟩)
  have hrow := del_row (zs := [.bool false, .slice none 0 0, .slice none 0 0, .slice none 0 0]) (h.later (gr_dr (gr_refl w)) (Nat.le_refl _)) hi rfl
  rw [← hj, ← hnews] at hrow
  obtain ⟨W1, hW1⟩ : ∃ W1, W1 = w.drew.setCells g (0 + i * 4) news := ⟨_, rfl⟩
  have hW1b : ∀ k, k < n * 4 → (W1.cell? ⟨g, k, none⟩).isSome = true ∧ W1.frozen? ⟨g, k, none⟩ = false := fun k hk => by
    rw [hW1]
    exact ⟨World.isSome_setCells g news (0 + i * 4) w.drew _ (hcells k hk).1, by rw [World.frozen?_setCells]; exact (hcells k hk).2.1⟩
  have hcl : ∀ ty cc, (Builtin.clear_ #[24] ty #[.slice (some ⟨g, (i + (n - j)) * 4, none⟩) (n - (i + (n - j))) cc]).run Try.prog W1 = .ok (.tuple #[]) (W1.setCells g ((n - 1) * 4) [.bool false, .slice none 0 0, .slice none 0 0, .slice none 0 0]) := fun ty cc => by
    rw [show i + (n - j) = n - 1 by omega, show n - (n - 1) = 1 by omega]
    exact run_clear_one W1 _ 26 ty _ _ Try.underlying24 zero_nodeV zero_nodeL (by simp [Value.oneCell']) g _ cc (fun t ht => (hW1b _ (by simp at ht; omega)).1) (fun t ht => (hW1b _ (by simp at ht; omega)).2)
  have HW := Lib.hid hW1
  have HROW : Hid (OwnSl (W1.setCells g ((n - 1) * 4) [.bool false, .slice none 0 0, .slice none 0 0, .slice none 0 0]) B 26 4 80 (.slice (some ⟨g, 0, none⟩) (n - 1) c) (es.eraseIdx i)) := Lib.hid (by rw [hW1, Nat.zero_add]; exact hrow)
  have HS : Hid (w.heap.size ≤ (W1.setCells g ((n - 1) * 4) [.bool false, .slice none 0 0, .slice none 0 0, .slice none 0 0]).heap.size) := Lib.hid (by rw [setCells_size, hW1, setCells_size]; exact Nat.le_refl _)
  have HO : Hid (∀ z, z ≠ g → (W1.setCells g ((n - 1) * 4) [.bool false, .slice none 0 0, .slice none 0 0, .slice none 0 0]).heap[z]? = w.heap[z]?) := Lib.hid fun z hz => by rw [setCells_other g _ _ _ z hz, hW1, setCells_other g _ _ _ z hz]; rfl
  have HB : Hid (Below g w (W1.setCells g ((n - 1) * 4) [.bool false, .slice none 0 0, .slice none 0 0, .slice none 0 0])) := Lib.hid (setCells_below g (Nat.le_refl _) _ _ _ (by rw [hW1]; exact setCells_below g (Nat.le_refl _) _ _ _ (Below.refl g w).drew))
  have HIN : Hid (n - 1 = i + (n - j)) := Lib.hid (by omega)
  have hcx : ¬ (c = i + (n - j)) := by omega
  have hic : i ≤ c := by omega
  have hjc : j ≤ c := by omega
  have hij : i ≤ j := by omega
  have hjn : j ≤ n := by omega
  have hne : ((i : Int) == (j : Int)) = false := by rw [beq_eq_false_iff_ne]; omega
  have hn63 : n ≤ 9223372036854775807 := by omega
  obtain ⟨i0, hiI, hz0, hz1, hz2⟩ := info_parts info_nodes
  have HI := Lib.hid hiI; have HZ1 := Lib.hid hz1
  have HJ := Lib.hid hj
  clear h hj hy hW1 hW1b hrow hget hcells h3 f1 f2 hone hnl hnews hiI hz0 hz1 hz2 hb80 hlen
  go_enter Try.func99, Try.ntmps99
  go_wp2_with fail
  go_region_law ((refine step_append_room rfl (.tmp 22) (.tmp 25) 24 rfl 26 i0 4 Try.underlying24 HI.out HZ1.out g 0 i c (by simp [Act.eval, Act.put]) A (n - j) (c - j) news (by simp [Act.eval, Act.put]) S1.out hsrc.out S2.out (by omega) S3.out ?_; rw [← HW.out]))
  go_wp2
  go_ret
  refine ⟨by rw [HIN.out]; rfl, HROW.out, HS.out, HO.out, HB.out⟩
end Go.Proofs.Ytdcpoeaddhbjbaa
