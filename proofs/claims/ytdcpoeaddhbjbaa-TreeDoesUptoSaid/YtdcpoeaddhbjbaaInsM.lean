/- Walk of slices.Insert at []api.Node: one element into the midst of a row of the call's own, where there is room. Walk of slices.Insert at []api.Node: one element into the midst of a row of the call's own, where there is no room; all ways in one. -/
import Derived.Test.YtdcpoeaddhbjbaaIns4
import Derived.IntWalk
namespace Go.Proofs.Ytdcpoeaddhbjbaa
set_option maxRecDepth 100000
open Go.RowKit

/- Walk of slices.Insert at []api.Node: one element into the midst of a row of the call's own, where there is room. -/
theorem own_cells {w : World} {B g n c : Nat} {e : TypeId} {es : List (List Value)} (h : OwnSl w B e 4 80 (.slice (some ⟨g, 0, none⟩) n c) es) : es.length = n ∧ n ≤ c ∧ c ≤ maxLen ∧ B ≤ g ∧ g < w.heap.size ∧ (∃ cur : Array Value, w.heap[g]? = some (.cells cur e (0, 0)) ∧ cur.size = c * 4) ∧
    (∀ k, k < c * 4 → (w.cell? ⟨g, k, none⟩).isSome = true ∧ w.frozen? ⟨g, k, none⟩ = false) ∧ ∀ k, k < n * 4 → w.cell? ⟨g, k, none⟩ = es.flatten[k]? := by
  have hlen : es.length = n := by obtain ⟨a', c', he⟩ := (h.sl (by decide)).slice; simp only [Value.slice.injEq] at he; omega
  rcases h.1.2 with ⟨h0, _⟩ | ⟨g', cap, cur, hv, hB, hg, hn, hm, hs, ht⟩
  · cases h0
  · simp only [Value.slice.injEq, Option.some.injEq, Addr.mk.injEq] at hv
    obtain ⟨⟨rfl, -⟩, -, rfl⟩ := hv
    rw [hlen] at hn ht
    have hcs : n * 4 ≤ cur.size := by rw [hs]; exact Nat.mul_le_mul_right _ hn
    refine ⟨hlen, hn, hm, hB, lt_of_block hg, ⟨cur, hg, hs⟩, fun k hk => ?_, fun k hk => ?_⟩
    · have hc := cell_of_row w g k cur _ (0, 0) hg
      exact ⟨by rw [hc, Array.getElem?_eq_getElem (by omega)]; rfl, by simp [World.frozen?, hg]⟩
    · have hc := cell_of_row w g k cur _ (0, 0) hg
      rw [hc, ← ht, List.getElem?_take, if_pos hk]
      simp

set_option maxHeartbeats 4000000 in
set_option maxRecDepth 100000 in
/-- In the midst, in place. -/
theorem ins_shift (es : List (List Value)) (cs : List Value) (B vb g n c i : Nat) (x : Int) (w : World) (h : OwnSl w B 26 4 80 (.slice (some ⟨g, 0, none⟩) n c) es) (hx : x = i) (hi : i < n) (hroom : n + 1 ≤ c) (hcl : cs.length = 4)
    (hv : w.heap[vb]? = some (.cells cs.toArray 26 (0, 0))) (hvg : vb ≠ g) (h1v : ∀ u ∈ cs, u.oneCell' = true) (h1e : ∀ u ∈ es.flatten, u.oneCell' = true) (hb : (n + 1) * 80 ≤ 140737488351232) :
    Calls Try.prog 96 #[.slice (some ⟨g, 0, none⟩) n c, .int .i64 x, .slice (some ⟨vb, 0, none⟩) 1 1] w (Inserted B es i cs (.slice (some ⟨g, 0, none⟩) n c) w) := by
  subst hx
  obtain ⟨hlen, hnc, hcm, hBg, hgl, ⟨cur, hcur, hcsz⟩, hthere, hcells⟩ := own_cells h
  unfold maxLen at hcm
  have h3 := h.2.2
  obtain ⟨q1, q2, q3, q4, q5, q6⟩ := ins_flat (cs := cs) h3 hlen (Nat.le_of_lt hi) hcl
  have hrow := ins_row (cs := cs) (h.later (gr_dr (gr_refl w)) (Nat.le_refl _)) (Nat.le_of_lt hi) hcl hroom hb
  obtain ⟨DR, hDR⟩ : ∃ DR, DR = (es.drop i).flatten := ⟨_, rfl⟩
  rw [← hDR] at hrow q5 q6
  have hsz : (Try.prog.info? 26).map (·.size) = some 4 := by kernel_rfl
  have hcp1 : ∀ ty dc sc, (Builtin.copy_ #[24, 24] ty #[.slice (some ⟨g, (i + 1) * 4, none⟩) (n - i) dc, .slice (some ⟨g, i * 4, none⟩) (n + 1 - i) sc]).run Try.prog w.drew = .ok (goInt ((n - i : Nat) : Int)) (w.drew.setCells g ((i + 1) * 4) DR) := fun ty dc sc => by
    have hmin : Nat.min (n + 1 - i) (n - i) = n - i := by simp only [Nat.min_def]; split <;> omega
    have := run_copy_cellsN (P := Try.prog) w.drew 24 24 ty 26 4 g ((i + 1) * 4) (n - i) dc ⟨g, i * 4, none⟩ (n + 1 - i) sc DR Try.underlying24 hsz (by rw [hmin, q5])
      (fun j v hj => by
        have hj' : j < (n - i) * 4 := by rw [← q5]; exact (List.getElem?_eq_some_iff.1 hj).1
        rw [Addr.add_lit]
        refine (hcells (i * 4 + j) (by omega)).trans ?_
        rw [q6, List.getElem?_append_right (by omega), q4, Nat.add_sub_cancel_left]
        exact hj)
      (fun j hj => (hthere _ (by omega)).1) (fun j hj => (hthere _ (by omega)).2) (fun v hv => h1e v (by rw [q6]; exact List.mem_append_right _ hv))
    rw [hmin] at this
    exact this
  obtain ⟨W1, hW1⟩ : ∃ W1, W1 = w.drew.setCells g ((i + 1) * 4) DR := ⟨_, rfl⟩
  rw [← hW1] at hcp1 hrow
  have hv1 : W1.heap[vb]? = some (.cells cs.toArray 26 (0, 0)) := by rw [hW1, setCells_other g _ _ _ vb hvg]; exact hv
  have ht1 : ∀ k, k < c * 4 → (W1.cell? ⟨g, k, none⟩).isSome = true ∧ W1.frozen? ⟨g, k, none⟩ = false := fun k hk => by
    rw [hW1]
    exact ⟨World.isSome_setCells g DR _ w.drew _ (hthere k hk).1, by rw [World.frozen?_setCells]; exact (hthere k hk).2⟩
  have hcp2 : ∀ ty dc, (Builtin.copy_ #[24, 24] ty #[.slice (some ⟨g, i * 4, none⟩) (n + 1 - i) dc, .slice (some ⟨vb, 0, none⟩) 1 1]).run Try.prog W1 = .ok (goInt 1) (W1.setCells g (i * 4) cs) := fun ty dc => by
    have hmin : Nat.min 1 (n + 1 - i) = 1 := by simp only [Nat.min_def]; split <;> omega
    have := run_copy_cellsN (P := Try.prog) W1 24 24 ty 26 4 g (i * 4) (n + 1 - i) dc ⟨vb, 0, none⟩ 1 1 cs Try.underlying24 hsz (by rw [hmin, hcl])
      (fun j v hj => by rw [Addr.add_lit, cell_of_row W1 vb (0 + j) _ _ (0, 0) hv1]; simpa using hj)
      (fun j hj => (ht1 _ (by omega)).1) (fun j hj => (ht1 _ (by omega)).2) h1v
    rw [hmin] at this
    exact this
  have hov : ∀ lb cb, (callFunc 116 #[.slice (some ⟨vb, 0, none⟩) 1 1, .slice (some ⟨g, (i + 1) * 4, none⟩) lb cb]).run Try.prog w = .ok (.value (.bool false)) w := fun lb cb => by
    rw [run_callFunc_extern Try.func116 (by kernel_rfl) (by kernel_rfl) (by kernel_rfl) (e := Extern.SlicesOverlaps.overlaps #[24, 24] #[4]) (by kernel_rfl),
      Lib.run_overlaps_apart w 24 4 26 Try.underlying24 4 Try.sizeOf26 ⟨vb, 0, none⟩ ⟨g, (i + 1) * 4, none⟩ 1 1 lb cb hvg 26 26 4 (c * 4) (by simp [World.shape?, hv, hcl]) (by simp [World.shape?, hcur, hcsz]) (by omega) (by simp [World.frozen?, hv]) (by simp [World.frozen?, hv])]
    rfl
  have HEND : Hid (Inserted B es i cs (.slice (some ⟨g, 0, none⟩) n c) w (.returned (.slice (some ⟨g, 0, none⟩) (n + 1) c)) (W1.setCells g (i * 4) cs)) := Lib.hid (by
    refine ⟨_, rfl, hrow, ?_, fun x hx hne => ?_, fun C hC hCg => ?_, fun g' hg' => .inl hg'⟩
    · rw [setCells_size, hW1, setCells_size]; exact Nat.le_refl _
    · have hxg : x ≠ g := by rintro rfl; exact hne rfl
      rw [setCells_other g _ _ _ x hxg, hW1, setCells_other g _ _ _ x hxg]
      rfl
    · rw [hW1]
      exact setCells_below g (hCg g rfl) _ _ _ (setCells_below g (hCg g rfl) _ _ _ (Below.refl C w).drew))
  have hz1 : ¬ ((1 : Int) = 0) := by decide
  have hw1 : IntKind.i64.wrap ((i : Int) + 1) = (i : Int) + 1 := IntWalk.i64_in _ (by omega)
  have hz2 : ¬ ((i : Int) = (n : Int)) := by omega
  have hin : i ≤ n := by omega
  have hb1 : (0 : Int) ≤ (i : Int) + 1 := by omega
  have htn : ((i : Int) + 1).toNat = i + 1 := by omega
  have hb2 : ¬ (c = i + 1) := by omega
  have hb3 : (i : Int) ≤ (n : Int) + 1 := by omega
  have hb4 : ¬ (c = i) := by omega
  have hn63 : n + 1 ≤ 9223372036854775807 := by omega
  clear h hW1 hv1 ht1 hrow hcur hcsz hthere hcells q1 q2 q3 q4 q5 q6 h3 hlen hDR hcl hv h1v h1e hsz hvg hgl
  go_enter Try.func96, Try.ntmps96
  go_wp2_with (simp only [hov])
  go_region_law (refine step_copy_eq rfl _ _ 24 24 rfl _ _ (by simp [Act.eval, Act.put]) (by simp [Act.eval, Act.put]) (hcp1 _ _ _) ?_)
  go_wp2_with (at_builtin; refine wpList_copy_eq _ rfl _ _ 24 24 rfl _ _ rfl rfl (hcp2 _ _) ?_)
  go_ret
  exact HEND.out

/- Walk of slices.Insert at []api.Node: one element into the midst of a row of the call's own, where there is no room; all ways in one. -/
/-- What the insert into a new row leaves. -/
theorem grow_row {w : World} {B H n i G : Nat} {es : List (List Value)} {cs : List Value} {ROW : Array Value} {DR TK : List Value} (hcur : w.heap[H]? = some (.cells ROW 26 (0, 0))) (hsz : ROW.size = G * 4) (hlen : es.length = n) (h3 : ∀ x ∈ es, x.length = 4) (hi : i ≤ n) (hc : cs.length = 4) (hG : n + 1 ≤ G) (hGm : G ≤ maxLen)
    (hb : (n + 1) * 80 ≤ 140737488351232) (hB : B ≤ H) (hDR : DR = (es.drop i).flatten) (hTK : TK = (es.take i).flatten) (hpre : ∀ j, j < i * 4 → ROW.toList[j]? = TK[j]?) :
    OwnSl ((w.setCells H (i * 4) cs).drew.setCells H ((i + 1) * 4) DR) B 26 4 80 (.slice (some ⟨H, 0, none⟩) (n + 1) G) (es.insertIdx i cs) := by
  obtain ⟨q1, q2, q3, q4, q5, q6⟩ := ins_flat (cs := cs) h3 hlen hi hc
  rw [← hDR] at q2 q5
  rw [← hTK] at q2 q4
  obtain ⟨cur1, a1, a2, a3⟩ := setCells_block H cs (i * 4) w ROW 26 (0, 0) hcur (by omega)
  obtain ⟨cur2, b1, b2, b3⟩ := setCells_block H DR ((i + 1) * 4) (w.setCells H (i * 4) cs).drew cur1 26 (0, 0) a1 (by omega)
  refine ⟨⟨by rw [q1, q2]; simp only [List.length_append]; omega, .inr ⟨H, G, cur2, by rw [q1], hB, b1, by rw [q1]; exact hG, hGm, by omega, ?_⟩⟩, by rw [q1]; exact hb, q3⟩
  rw [q1, q2]
  apply List.ext_getElem?
  intro j
  by_cases hj : j < (n + 1) * 4
  · rw [List.getElem?_take, if_pos hj, b3]
    by_cases h4 : (i + 1) * 4 ≤ j
    · rw [if_pos (by omega), List.getElem?_append_right (by omega), q4, List.getElem?_append_right (by omega)]
      congr 1
      omega
    · rw [if_neg (by omega), a3]
      by_cases hji : j < i * 4
      · rw [if_neg (by omega), List.getElem?_append_left (by omega)]
        exact hpre j hji
      · rw [if_pos (by omega), List.getElem?_append_right (by omega), q4, List.getElem?_append_left (by omega)]
  · rw [List.getElem?_eq_none (by rw [List.length_take]; omega), List.getElem?_eq_none (by simp only [List.length_append]; omega)]

set_option maxHeartbeats 4000000 in
set_option maxRecDepth 100000 in
/-- In the midst, into a new row. -/
theorem ins_grow (es : List (List Value)) (cs : List Value) (B vb g n c i : Nat) (x : Int) (w : World) (h : OwnSl w B 26 4 80 (.slice (some ⟨g, 0, none⟩) n c) es) (hx : x = i) (hi : i < n) (hroom : c < n + 1) (hB : B ≤ w.heap.size) (hcl : cs.length = 4)
    (hv : w.heap[vb]? = some (.cells cs.toArray 26 (0, 0))) (h1v : ∀ u ∈ cs, u.oneCell' = true) (h1e : ∀ u ∈ es.flatten, u.oneCell' = true) (hb : (n + 1) * 80 ≤ 140737488351232) :
    Calls Try.prog 96 #[.slice (some ⟨g, 0, none⟩) n c, .int .i64 x, .slice (some ⟨vb, 0, none⟩) 1 1] w (Inserted B es i cs (.slice (some ⟨g, 0, none⟩) n c) w) := by
  subst hx
  obtain ⟨hlen, hnc, hcm, hBg, hgl, -, hthere, hcells⟩ := own_cells h
  have hvl := lt_of_block hv
  unfold maxLen at hcm
  have h3 := h.2.2
  obtain ⟨q1, q2, q3, q4, q5, q6⟩ := ins_flat (cs := cs) h3 hlen (Nat.le_of_lt hi) hcl
  obtain ⟨DR, hDR⟩ : ∃ DR, DR = (es.drop i).flatten := ⟨_, rfl⟩
  obtain ⟨TK, hTK⟩ : ∃ TK, TK = (es.take i).flatten := ⟨_, rfl⟩
  rw [← hDR] at q5 q6
  rw [← hTK] at q4 q6
  obtain ⟨i0, hi0, hz0, hzs, hzb⟩ := info_parts info_nodes
  obtain ⟨ZC, hZC⟩ : ∃ ZC : Array Value, ZC = (Value.agg #[.bool false, .slice none 0 0, .slice none 0 0, .slice none 0 0]).cells := ⟨_, rfl⟩
  have hZs : ZC.size = 4 := by rw [hZC]; rfl
  have hsz : (Try.prog.info? 26).map (·.size) = some 4 := by kernel_rfl
  have hold : (Builtin.firstCells i0.size i (.slice (some ⟨g, 0, none⟩) i c)).run Try.prog w.drew = .ok TK.toArray w.drew := by
    rw [hzs]
    exact run_firstCells_some w.drew 4 i ⟨g, 0, none⟩ i c TK q4 (fun j v hj => by
      have hj' : j < i * 4 := by rw [← q4]; exact (List.getElem?_eq_some_iff.1 hj).1
      rw [Addr.add_lit, Nat.zero_add]
      refine (hcells j (by omega)).trans ?_
      rw [q6, List.getElem?_append_left (by omega)]
      exact hj)
  have hkk : (n : Int) + 1 - (i : Int) = ((n + 1 - i : Nat) : Int) := by omega
  have hik : i + (n + 1 - i) = n + 1 := by omega
  have hrz : ∀ ty, (Builtin.append_ #[24, 3] ty #[.slice (some ⟨g, 0, none⟩) i c, .int .i64 ((n : Int) + 1 - (i : Int))]).run Try.prog w =
      .ok (.slice (some ⟨w.heap.size, 0, none⟩) (n + 1) (grownCap w (n + 1) c 26)) (w.drew.alloc (.cells (TK.toArray ++ Builtin.zeroCells ZC (n + 1 - i) ++ Builtin.zeroCells ZC (grownCap w (n + 1) c 26 - (n + 1))) 26)) := fun ty => by
    have h := Lib.run_append_grow_zeros (P := Try.prog) w 24 3 ty 26 i0 _ .i64 .i64 Try.underlying24 Try.underlying3 hi0 hz0 (some ⟨g, 0, none⟩) i c TK hold (n + 1 - i) (by omega) (by omega) (by omega) (by omega) (by rw [hzb]; omega) (by rw [hzb, hik]; exact growslice_fits hroom (by omega))
    rw [hik, ← hZC] at h
    rw [hkk]
    exact h
  have hGn : n + 1 ≤ grownCap w (n + 1) c 26 := grownCap_ge w _ _ _
  have hGm : grownCap w (n + 1) c 26 ≤ maxLen := grownCap_le_maxLen w (n + 1) c 26 (by unfold maxLen; omega)
  obtain ⟨G, hG⟩ : ∃ G, G = grownCap w (n + 1) c 26 := ⟨_, rfl⟩
  rw [← hG] at hrz hGn hGm
  obtain ⟨ROW, hROW⟩ : ∃ ROW : Array Value, ROW = TK.toArray ++ Builtin.zeroCells ZC (n + 1 - i) ++ Builtin.zeroCells ZC (G - (n + 1)) := ⟨_, rfl⟩
  rw [← hROW] at hrz
  have hRs : ROW.size = G * 4 := by
    rw [hROW]
    simp only [Array.size_append, List.size_toArray, size_zeroCells, hZs, q4]
    omega
  have hpre : ∀ j, j < i * 4 → ROW.toList[j]? = TK[j]? := fun j hj => by
    rw [hROW, Array.toList_append, Array.toList_append, List.append_assoc, List.getElem?_append_left (by simpa [q4] using hj)]
  obtain ⟨W1, hW1⟩ : ∃ W1, W1 = w.drew.alloc (.cells ROW 26) := ⟨_, rfl⟩
  rw [← hW1] at hrz
  have hH1 : W1.heap[w.heap.size]? = some (.cells ROW 26 (0, 0)) := by rw [hW1]; exact heap_alloc_new w.drew _
  have hO1 : ∀ x, x < w.heap.size → W1.heap[x]? = w.heap[x]? := fun x hx => by rw [hW1]; exact Below.heap_alloc w.drew _ x hx
  have hN : ∀ j, j < G * 4 → (W1.cell? ⟨w.heap.size, j, none⟩).isSome = true ∧ W1.frozen? ⟨w.heap.size, j, none⟩ = false := fun j hj => by
    refine ⟨?_, by simp [World.frozen?, hH1]⟩
    rw [cell_of_row W1 w.heap.size j ROW _ (0, 0) hH1, Array.getElem?_eq_getElem (by omega)]
    rfl
  have hgH : g ≠ w.heap.size := by omega
  have hcpA : ∀ (W : World), (∀ x, W.cell? x = W1.cell? x) → (∀ x, W.frozen? x = W1.frozen? x) → ∀ ty dc, (Builtin.copy_ #[24, 24] ty #[.slice (some ⟨w.heap.size, i * 4, none⟩) (n + 1 - i) dc, .slice (some ⟨vb, 0, none⟩) 1 1]).run Try.prog W = .ok (goInt 1) (W.setCells w.heap.size (i * 4) cs) := fun W hWc hWf ty dc => by
    have hmin : Nat.min 1 (n + 1 - i) = 1 := by simp only [Nat.min_def]; split <;> omega
    have := run_copy_cellsN (P := Try.prog) W 24 24 ty 26 4 w.heap.size (i * 4) (n + 1 - i) dc ⟨vb, 0, none⟩ 1 1 cs Try.underlying24 hsz (by rw [hmin, hcl])
      (fun j v hj => by rw [Addr.add_lit, hWc, World.cell?_of_block (w := w) (a := ⟨vb, 0 + j, none⟩) (hO1 vb hvl), cell_of_row w vb (0 + j) _ _ (0, 0) hv]; simpa using hj)
      (fun j hj => by rw [hWc]; exact (hN _ (by omega)).1) (fun j hj => by rw [hWf]; exact (hN _ (by omega)).2) h1v
    rw [hmin] at this
    exact this
  have hcpB : ∀ (W : World), (∀ x, W.cell? x = (W1.setCells w.heap.size (i * 4) cs).cell? x) → (∀ x, W.frozen? x = (W1.setCells w.heap.size (i * 4) cs).frozen? x) → ∀ ty dc sc, (Builtin.copy_ #[24, 24] ty #[.slice (some ⟨w.heap.size, (i + 1) * 4, none⟩) (n - i) dc, .slice (some ⟨g, i * 4, none⟩) (n - i) sc]).run Try.prog W = .ok (goInt ((n - i : Nat) : Int)) (W.setCells w.heap.size ((i + 1) * 4) DR) := fun W hWc hWf ty dc sc => by
    have hmin : Nat.min (n - i) (n - i) = n - i := by simp only [Nat.min_def]; split <;> omega
    have := run_copy_cellsN (P := Try.prog) W 24 24 ty 26 4 w.heap.size ((i + 1) * 4) (n - i) dc ⟨g, i * 4, none⟩ (n - i) sc DR Try.underlying24 hsz (by rw [hmin, q5])
      (fun j v hj => by
        have hj' : j < (n - i) * 4 := by rw [← q5]; exact (List.getElem?_eq_some_iff.1 hj).1
        rw [Addr.add_lit, hWc, World.cell?_of_block (w := W1) (a := ⟨g, i * 4 + j, none⟩) (setCells_other _ _ _ _ g hgH), World.cell?_of_block (w := w) (a := ⟨g, i * 4 + j, none⟩) (hO1 g hgl)]
        refine (hcells (i * 4 + j) (by omega)).trans ?_
        rw [q6, List.getElem?_append_right (by omega), q4, Nat.add_sub_cancel_left]
        exact hj)
      (fun j hj => by rw [hWc]; exact World.isSome_setCells _ cs _ W1 _ (hN _ (by omega)).1) (fun j hj => by rw [hWf, World.frozen?_setCells]; exact (hN _ (by omega)).2) (fun v hv => h1e v (by rw [q6]; exact List.mem_append_right _ hv))
    rw [hmin] at this
    exact this
  have HEND : Hid (∀ W, W.heap = ((W1.setCells w.heap.size (i * 4) cs).drew.setCells w.heap.size ((i + 1) * 4) DR).heap → (∀ C, C ≤ w.heap.size → Below C w W) → Inserted B es i cs (.slice (some ⟨g, 0, none⟩) n c) w (.returned (.slice (some ⟨w.heap.size, 0, none⟩) (n + 1) G)) W) := Lib.hid (fun W hW hBel => by
    have hr := grow_row (w := W1) (B := B) hH1 hRs hlen h3 (Nat.le_of_lt hi) hcl hGn hGm hb hB hDR hTK hpre
    refine ⟨_, rfl, hr.keep (fun z _ => by rw [hW]), ?_, fun x hx hne => ?_, fun C hC _ => hBel C hC, fun g' hg' => .inr ?_⟩
    · rw [hW, setCells_size]
      show w.heap.size ≤ (W1.setCells w.heap.size (i * 4) cs).heap.size
      rw [setCells_size, hW1]
      exact (gr_al (gr_dr (gr_refl w)) _).size
    · have hxH : x ≠ w.heap.size := by omega
      rw [hW, setCells_other _ _ _ _ x hxH]
      show (W1.setCells w.heap.size (i * 4) cs).heap[x]? = _
      rw [setCells_other _ _ _ _ x hxH]
      exact hO1 x hx
    · simp only [Value.ownBlock, Option.some.injEq] at hg'
      omega)
  have hz1 : ¬ ((1 : Int) = 0) := by decide
  have hw1 : IntKind.i64.wrap ((i : Int) + 1) = (i : Int) + 1 := IntWalk.i64_in _ (by omega)
  have hz2 : ¬ ((i : Int) = (n : Int)) := by omega
  have hz3 : (c : Int) < (n : Int) + 1 := by omega
  have hin : i ≤ n := by omega
  have hb1 : (0 : Int) ≤ (i : Int) + 1 := by omega
  have htn : ((i : Int) + 1).toNat = i + 1 := by omega
  have hb3 : (i : Int) ≤ (n : Int) + 1 := by omega
  have hb4 : ¬ (c = i) := by omega
  have hGi : ¬ (G = i) := by omega
  have hGim : ¬ (G = i + 1) := by omega
  have hG63 : G ≤ 9223372036854775807 := by unfold maxLen at hGm; omega
  have hn63 : n + 1 ≤ 9223372036854775807 := by omega
  subst hW1
  have hE1 : ∀ x, ((w.alloc (.cells ROW 26)).drew).cell? x = (w.drew.alloc (.cells ROW 26)).cell? x := fun x => rfl
  have hE2 : ∀ x, ((w.alloc (.cells ROW 26)).drew).frozen? x = (w.drew.alloc (.cells ROW 26)).frozen? x := fun x => rfl
  have hF1 : ∀ x, (((w.alloc (.cells ROW 26)).drew.setCells w.heap.size (i * 4) cs).drew).cell? x = ((w.drew.alloc (.cells ROW 26)).setCells w.heap.size (i * 4) cs).cell? x := fun x => rfl
  have hF2 : ∀ x, (((w.alloc (.cells ROW 26)).drew.setCells w.heap.size (i * 4) cs).drew).frozen? x = ((w.drew.alloc (.cells ROW 26)).setCells w.heap.size (i * 4) cs).frozen? x := fun x => rfl
  clear h hH1 hO1 hN hpre hRs hROW hG hthere hcells q1 q2 q3 q4 q5 q6 h3 hlen hDR hTK hcl hv h1v h1e hsz hgl hvl hgH hkk hik hold hi0 hz0 hzs hzb hZC hZs hGm
  go_enter Try.func96, Try.ntmps96
  go_wp2_with (first
    | (at_builtin; refine Lib.wpList_append_run _ rfl _ _ _ _ rfl _ _ rfl rfl _ _ (hrz _) ?_)
    | (at_builtin; refine wpList_copy_eq _ rfl _ _ 24 24 rfl _ _ rfl rfl (hcpA _ hE1 hE2 _ _) ?_))
  go_region_law (refine step_copy_eq rfl _ _ 24 24 rfl (.slice (some ⟨w.heap.size, (i + 1) * 4, none⟩) (n - i) (G - (i + 1))) (.slice (some ⟨g, i * 4, none⟩) (n - i) (c - i)) (by simp [Act.eval, Act.put]) (by simp [Act.eval, Act.put]) (hcpB _ hF1 hF2 3 (G - (i + 1)) (c - i)) ?_)
  go_wp2
  go_ret
  exact HEND.out _ rfl fun C hC => setCells_below _ hC _ _ _ (setCells_below _ hC _ _ _ ((Below.refl C w).alloc hC _).drew).drew

/-- One element into a row of the call's own, wherever. -/
theorem ins_nodes (es : List (List Value)) (cs : List Value) (B vb n c i : Nat) (a : Option Addr) (x : Int) (w : World) (h : OwnSl w B 26 4 80 (.slice a n c) es) (hx : x = i) (hi : i ≤ n) (hB : B ≤ w.heap.size) (hcl : cs.length = 4)
    (hv : w.heap[vb]? = some (.cells cs.toArray 26 (0, 0))) (hvg : ∀ g, (Value.slice a n c).ownBlock = some g → vb ≠ g) (h1v : ∀ u ∈ cs, u.oneCell' = true) (h1e : ∀ u ∈ es.flatten, u.oneCell' = true) (hb : (n + 1) * 80 ≤ 140737488351232) :
    Calls Try.prog 96 #[.slice a n c, .int .i64 x, .slice (some ⟨vb, 0, none⟩) 1 1] w (Inserted B es i cs (.slice a n c) w) := by
  by_cases hin : i = n
  · subst hin
    exact ins_end es cs B vb i c a x w h hx hB hcl (fun j u hj => by rw [cell_of_row w vb (0 + j) _ _ (0, 0) hv]; simpa using hj) h1v hb
  · obtain ⟨g, rfl, _⟩ := h.at_ (by decide) i (by omega)
    by_cases hroom : n + 1 ≤ c
    · exact ins_shift es cs B vb g n c i x w h hx (by omega) hroom hcl hv (hvg g rfl) h1v h1e hb
    · exact ins_grow es cs B vb g n c i x w h hx (by omega) (by omega) hB hcl hv h1v h1e hb
end Go.Proofs.Ytdcpoeaddhbjbaa
