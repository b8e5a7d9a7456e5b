/- Plain Lean: where a path goes by an operation. Plain Lean: how a path stands to one that is shifted; what is moved and moved back. Plain Lean: a node put in, or taken out, leaves all others in their order. Plain Lean: what a split, and what a move moves, is moved back. -/
import Derived.Test.YtcbljiiomnhbjaaRefs
namespace Go.Proofs.Ytcbljiiomnhbjaa
set_option maxRecDepth 100000
open Go.RowKit

/- Plain Lean: where a path goes by an operation. -/
/-- Where a path's node goes; none: it is taken out, or may not be asked. -/
def moveP (p : List Int) (kind : Int) (q to : List Int) (pos : Int) : Option (List Int) :=
  if smallB p = true ∧ smallB q = true ∧ smallB to = true ∧ smallB [pos] = true then
    if q.length = 0 then some p
    else if kind = 1 then some (insL p q)
    else if kind = 2 then (if standsN q p = 3 ∨ standsN q p = 2 then none else if standsN q p = 1 then some (shiftL p (q.length - 1) (-1)) else some p)
    else if kind = 3 then (if q.getD (q.length - 1) 0 = 0 then none else if standsN q p = 2 then some (shiftL (shiftL p q.length pos) (q.length - 1) (-1)) else if standsN q p = 3 ∨ standsN q p = 1 then some (shiftL p (q.length - 1) (-1)) else some p)
    else if kind = 4 then (if standsN q p = 2 ∧ pos ≤ p.getD q.length 0 then some (shiftL (shiftL p q.length (-pos)) (q.length - 1) 1) else if standsN q p = 1 then some (shiftL p (q.length - 1) 1) else some p)
    else if kind = 5 then (if standsN q p = 3 ∨ standsN q p = 2 then some (to ++ p.drop q.length) else if standsN q p = 1 then some (insL (shiftL p (q.length - 1) (-1)) to) else some (insL p to))
    else some p
  else none

/-- What Move gives. -/
def Mv (m : Option (List Int)) (w : World) (e : Ending) (w' : World) : Prop :=
  ∃ v', e = .returned (.tuple #[v', .bool m.isSome]) ∧ Own w' w.heap.size v' (m.getD []) ∧ Below w.heap.size w w'

theorem Mv.none_ {m : Option (List Int)} {w w' : World} (hm : m = none) (hb : Below w.heap.size w w') : Mv m w (.returned (.tuple #[.slice none 0 0, .bool false])) w' := by
  subst hm
  exact ⟨_, rfl, Own.nil _ _, hb⟩
theorem Mv.some_ {m : Option (List Int)} {l : List Int} {w w' : World} {v : Value} (hm : m = some l) (h : Own w' w.heap.size v l) (hb : Below w.heap.size w w') : Mv m w (.returned (.tuple #[v, .bool true])) w' := by
  subst hm
  exact ⟨v, rfl, h, hb⟩

/-- An operation's value: its kind, paths and place; the other cells are what they are. -/
def OpAt (w : World) (v : Value) (kind : Int) (path to : List Int) (pos : Int) : Prop :=
  ∃ pv tv r4 r5 r6 r7 r8 r9 r10 r11 r12 r13 r14 r15 r16 r17 r18 r19 r20 : Value,
    v = .agg #[.int .i64 kind, pv, tv, .int .i64 pos, r4, r5, r6, r7, r8, r9, r10, r11, r12, r13, r14, r15, r16, r17, r18, r19, r20] ∧ Ints w pv path ∧ Ints w tv to

theorem box_cell (w : World) (cs : Array Value) (t : TypeId) (o : Obj) (i : Nat) (x : Value) (h : cs[i]? = some x) : ((w.alloc (.cells cs t)).alloc o).cell? ⟨w.heap.size, i, none⟩ = some x := by
  rw [cell_of_row _ w.heap.size i cs t (0, 0) (by rw [Below.heap_alloc _ _ _ (by simp)]; exact heap_alloc_new w _), h]

theorem small_get {xs : List Int} (h : smallB xs = true) (i : Nat) : 0 ≤ xs.getD i 0 ∧ xs.getD i 0 ≤ 1048576 := by
  rcases Nat.lt_or_ge i xs.length with hi | hi
  · have := smallB_iff.1 h _ (List.getElem_mem hi)
    simpa [List.getD, hi] using this
  · simp [List.getD, hi]
theorem shift_len (xs : List Int) (i : Nat) (n : Int) : (shiftL xs i n).length = xs.length := by simp [shiftL]
theorem shift_get_ne {xs : List Int} {i j : Nat} {n : Int} (h : i ≠ j) : (shiftL xs i n).getD j 0 = xs.getD j 0 := by simp [shiftL, List.getD, h]
theorem shift_get_eq {xs : List Int} {i : Nat} {n : Int} (h : i < xs.length) : (shiftL xs i n).getD i 0 = xs.getD i 0 + n := by simp [shiftL, h]

/-- Is it above, then it is shorter. -/
theorem stands_above_lt {q p : List Int} (h : standsN q p = 2) : q.length < p.length := by
  unfold standsN at h
  split at h
  · omega
  · split at h
    · omega
    · split at h
      · rename_i ha; rw [aboveB_iff] at ha; exact ha.1
      · split at h <;> omega
theorem stands_range (q p : List Int) : standsN q p = 0 ∨ standsN q p = 1 ∨ standsN q p = 2 ∨ standsN q p = 3 := by
  unfold standsN
  split
  · simp
  · split
    · simp
    · split
      · simp
      · split <;> simp

/- Plain Lean: how a path stands to one that is shifted; what is moved and moved back. -/
theorem agree_le {xs ys : List Int} {k j : Nat} (h : agree xs ys k) (hj : j ≤ k) : agree xs ys j := fun i hi => h i (by omega)
theorem agree_same {xs ys : List Int} {k : Nat} (h : agree xs ys k) (he : xs.getD k 0 = ys.getD k 0) : agree xs ys (k + 1) := by
  intro j hj
  by_cases hjk : j = k
  · subst hjk; exact he
  · exact h j (by omega)
theorem agree_shift {q p : List Int} {i k : Nat} {n : Int} (h : agree q p k) (hi : k ≤ i) : agree q (shiftL p i n) k := by
  intro j hj
  rw [shift_get_ne (by omega)]
  exact h j hj
theorem agree_unshift {q p : List Int} {i k : Nat} {n : Int} (h : agree q (shiftL p i n) k) (hi : k ≤ i) : agree q p k := by
  intro j hj
  have := h j hj
  rwa [shift_get_ne (by omega)] at this

theorem above_iff_agree {q p : List Int} : aboveB q p = true ↔ q.length < p.length ∧ agree q p q.length := by
  rw [aboveB_iff]
  refine and_congr_right fun hl => ?_
  constructor
  · intro h
    have : q.take q.length = p.take q.length := by rw [h, List.take_length]
    exact agree_of_take this
  · intro h
    have := take_of_agree h (Nat.le_refl _) (by omega)
    rw [← this, List.take_length]

/-- q stands left of p, above it, or is p: in numbers. -/
theorem stands_one {q p : List Int} {i : Nat} (hi : i + 1 = q.length) : standsN q p = 1 ↔ i < p.length ∧ agree q p i ∧ q.getD i 0 < p.getD i 0 := by
  have hl : leftB q p = true ↔ i < p.length ∧ agree q p i ∧ q.getD i 0 < p.getD i 0 := by
    rw [leftB_iff]
    constructor
    · rintro ⟨k, a, b, c, d⟩
      obtain rfl : k = i := by omega
      exact ⟨b, c, d⟩
    · rintro ⟨b, c, d⟩
      exact ⟨i, hi, b, c, d⟩
  rw [standsN, if_neg (by omega)]
  by_cases hs : q = p
  · rw [if_pos hs]
    subst hs
    simp
  · rw [if_neg hs]
    by_cases ha : aboveB q p = true
    · rw [if_pos ha]
      rw [above_iff_agree] at ha
      constructor
      · intro h; omega
      · rintro ⟨_, _, d⟩
        have := ha.2 i (by omega)
        omega
    · rw [if_neg ha]
      by_cases hlb : leftB q p = true
      · rw [if_pos hlb]
        exact ⟨fun _ => hl.1 hlb, fun _ => rfl⟩
      · rw [if_neg hlb]
        constructor
        · intro h; omega
        · intro h; exact absurd (hl.2 h) hlb
theorem stands_two {q p : List Int} (hq : 0 < q.length) : standsN q p = 2 ↔ q.length < p.length ∧ agree q p q.length := by
  rw [standsN, if_neg (by omega)]
  by_cases hs : q = p
  · rw [if_pos hs]
    subst hs
    simp
  · rw [if_neg hs, ← above_iff_agree]
    by_cases ha : aboveB q p = true
    · rw [if_pos ha]; exact ⟨fun _ => ha, fun _ => rfl⟩
    · rw [if_neg ha]
      constructor
      · intro h; split at h <;> omega
      · intro h; exact absurd h ha
theorem stands_three {q p : List Int} (hq : 0 < q.length) : standsN q p = 3 ↔ q = p := by
  rw [standsN, if_neg (by omega)]
  by_cases hs : q = p
  · rw [if_pos hs]; exact ⟨fun _ => hs, fun _ => rfl⟩
  · rw [if_neg hs]
    constructor
    · intro h
      split at h
      · omega
      · split at h <;> omega
    · intro h; exact absurd h hs
/-- Where q stands left, above, or is it: its beginning is p's, and its last number no greater. -/
theorem stands_some {q p : List Int} {i : Nat} (hi : i + 1 = q.length) (h : standsN q p ≠ 0) : i < p.length ∧ agree q p i ∧ q.getD i 0 ≤ p.getD i 0 := by
  rcases stands_range q p with h0 | h1 | h2 | h3
  · exact absurd h0 h
  · obtain ⟨a, b, c⟩ := (stands_one hi).1 h1
    exact ⟨a, b, by omega⟩
  · obtain ⟨a, b⟩ := (stands_two (by omega)).1 h2
    exact ⟨by omega, agree_le b (by omega), by rw [b i (by omega)]; exact Int.le_refl _⟩
  · have := (stands_three (by omega)).1 h3
    subst this
    exact ⟨by omega, fun _ _ => rfl, Int.le_refl _⟩
theorem stands_no {q p : List Int} {i : Nat} (hi : i + 1 = q.length) (h : ¬ (i < p.length ∧ agree q p i ∧ q.getD i 0 ≤ p.getD i 0)) : standsN q p = 0 := by
  rcases stands_range q p with h0 | h1 | h2 | h3
  · exact h0
  all_goals exact absurd (stands_some hi (by omega)) h

theorem shift_shift {p : List Int} {i : Nat} {n m : Int} : shiftL (shiftL p i n) i m = shiftL p i (n + m) := by
  rcases Nat.lt_or_ge i p.length with h | h
  · rw [shiftL, shift_get_eq h, shiftL, List.set_set, shiftL, Int.add_assoc]
  · simp [shiftL, List.set_eq_of_length_le h]
theorem shift_zero {p : List Int} {i : Nat} : shiftL p i 0 = p := by
  rw [shiftL, Int.add_zero]
  apply List.ext_getElem (by simp)
  intro j h1 h2
  rw [List.getElem_set]
  split
  · rename_i he; subst he; simp [h2]
  · rfl
theorem shift_back {p : List Int} {i : Nat} {n m : Int} (h : n + m = 0) : shiftL (shiftL p i n) i m = p := by rw [shift_shift, h, shift_zero]
theorem shift_comm {p : List Int} {i j : Nat} {n m : Int} (h : i ≠ j) : shiftL (shiftL p i n) j m = shiftL (shiftL p j m) i n := by
  rw [shiftL, shift_get_ne h, shiftL, shiftL, shift_get_ne (Ne.symm h), shiftL, List.set_comm _ _ h]

theorem small_shift {p : List Int} {i : Nat} {n : Int} (h : smallB p = true) (hb : 0 ≤ p.getD i 0 + n ∧ p.getD i 0 + n ≤ 1048576) : smallB (shiftL p i n) = true := by
  rw [smallB_iff] at *
  intro x hx
  rcases List.mem_or_eq_of_mem_set hx with h1 | h1
  · exact h x h1
  · rw [h1]; exact hb

/-- Numbers below the greatest one. -/
def lowB (xs : List Int) : Bool := xs.all fun x => decide (x ≠ 1048576)
theorem low_get {p : List Int} (h : smallB p = true) (hl : lowB p = true) (i : Nat) : 0 ≤ p.getD i 0 ∧ p.getD i 0 < 1048576 := by
  have h1 := small_get h i
  rcases Nat.lt_or_ge i p.length with hi | hi
  · have h2 : p[i] ≠ 1048576 := by simpa using List.all_eq_true.1 hl _ (List.getElem_mem hi)
    have h3 : p.getD i 0 = p[i] := by simp [hi]
    omega
  · have : p.getD i 0 = 0 := by simp [hi]
    omega

/-- What a node put in moves, its being taken out moves back; nothing is moved to where it was put in. -/
theorem insert_back {p q : List Int} (s1 : smallB p = true) (s2 : smallB q = true) (hl : lowB p = true) (hq : 0 < q.length) :
    moveP p 1 q [] 0 = some (insL p q) ∧ insL p q ≠ q ∧ aboveB q (insL p q) = false ∧ moveP (insL p q) 2 q [] 0 = some p ∧ smallB (insL p q) = true ∧ (insL p q).length = p.length := by
  obtain ⟨i, hi⟩ : ∃ i, i + 1 = q.length := ⟨q.length - 1, by omega⟩
  have hi' : q.length - 1 = i := by omega
  have s3 : smallB [] = true := rfl
  have s4 : smallB [0] = true := rfl
  have hq0 : ¬ q.length = 0 := by omega
  have e1 : moveP p 1 q [] 0 = some (insL p q) := by rw [moveP, if_pos ⟨s1, s2, s3, s4⟩, if_neg hq0, if_pos rfl]
  by_cases h0 : standsN q p = 0
  · have ei : insL p q = p := by rw [insL, if_pos h0]
    rw [ei]
    refine ⟨by rw [e1, ei], ?_, ?_, ?_, s1, rfl⟩
    · intro h; have := (stands_three hq).2 h.symm; omega
    · cases ha : aboveB q p
      · rfl
      · rw [above_iff_agree] at ha; have := (stands_two hq).2 ha; omega
    · rw [moveP, if_pos ⟨s1, s2, s3, s4⟩, if_neg hq0, h0]; simp
  · obtain ⟨a, b, c⟩ := stands_some hi h0
    have ei : insL p q = shiftL p i 1 := by rw [insL, if_neg h0, hi']
    have hg := low_get s1 hl i
    have h1 : standsN q (shiftL p i 1) = 1 := (stands_one hi).2 ⟨by rw [shift_len]; exact a, agree_shift b (Nat.le_refl _), by rw [shift_get_eq a]; omega⟩
    have sm : smallB (shiftL p i 1) = true := small_shift s1 (by omega)
    rw [ei]
    refine ⟨by rw [e1, ei], ?_, ?_, ?_, sm, shift_len _ _ _⟩
    · intro h; have := (stands_three hq).2 h.symm; omega
    · cases ha : aboveB q (shiftL p i 1)
      · rfl
      · rw [above_iff_agree] at ha; have := (stands_two hq).2 ha; omega
    · rw [moveP, if_pos ⟨sm, s2, s3, s4⟩, if_neg hq0, h1, hi', shift_back (by omega)]; simp

/- Plain Lean: a node put in, or taken out, leaves all others in their order. -/
theorem cpre_unique {xs ys : List Int} {k : Nat} (h : agree xs ys k) (h1 : k ≤ xs.length) (h2 : k ≤ ys.length) (hd : k < xs.length → k < ys.length → xs.getD k 0 ≠ ys.getD k 0) : cpre xs ys = k := by
  have a := cpre_ge xs ys k h h1 h2
  rcases Nat.lt_or_ge k (cpre xs ys) with hlt | hge
  · obtain ⟨b1, b2⟩ := cpre_le xs ys
    exact absurd (cpre_agree xs ys k hlt) (hd (by omega) (by omega))
  · omega
theorem cpre_ne {xs ys : List Int} (h1 : cpre xs ys < xs.length) (h2 : cpre xs ys < ys.length) : xs.getD (cpre xs ys) 0 ≠ ys.getD (cpre xs ys) 0 := by
  have := cpre_diff xs ys h1 h2
  simpa [h1, h2] using this

theorem cmpI_cpre (xs ys : List Int) : cmpI xs ys = if cpre xs ys < xs.length ∧ cpre xs ys < ys.length then cmp3 (xs.getD (cpre xs ys) 0) (ys.getD (cpre xs ys) 0) else if xs.length < ys.length then -1 else if ys.length < xs.length then 1 else 0 := by
  obtain ⟨b1, b2⟩ := cpre_le xs ys
  have ha := cpre_agree xs ys
  by_cases h : cpre xs ys < xs.length ∧ cpre xs ys < ys.length
  · rw [if_pos h]
    have hd := cpre_diff xs ys h.1 h.2
    rw [cmpI_diff ha h.1 h.2 (by rw [ne_eq, cmp3_zero]; exact hd)]
    simp [h.1, h.2]
  · rw [if_neg h]
    by_cases hx : cpre xs ys < xs.length
    · rw [if_neg (by omega), if_pos (by omega)]
      exact cmpI_longer ha hx (by omega)
    · have hk : cpre xs ys = xs.length := by omega
      rw [hk] at ha
      rw [cmpI_end ha (by omega)]
      by_cases hl : xs.length < ys.length
      · rw [if_pos hl, if_pos hl]
      · rw [if_neg hl, if_neg hl, if_neg (by omega)]

/-- Same lengths, same common part, same comparison there: same order, and above as they were. -/
theorem order_of {a b x y : List Int} (l1 : x.length = a.length) (l2 : y.length = b.length) (hc : cpre x y = cpre a b)
    (hv : cpre a b < a.length → cpre a b < b.length → cmp3 (x.getD (cpre a b) 0) (y.getD (cpre a b) 0) = cmp3 (a.getD (cpre a b) 0) (b.getD (cpre a b) 0)) : cmpI x y = cmpI a b ∧ aboveB x y = aboveB a b := by
  constructor
  · rw [cmpI_cpre, cmpI_cpre a b, hc, l1, l2]
    by_cases h : cpre a b < a.length ∧ cpre a b < b.length
    · rw [if_pos h, if_pos h]
      exact hv h.1 h.2
    · rw [if_neg h, if_neg h]
  · rw [aboveB, aboveB, hc, l1, l2]

/-- One of two is shifted. -/
theorem order_one {q a b : List Int} {i : Nat} {n : Int} (ha : i < a.length ∧ agree q a i) (sep : i < b.length → agree q b i → b.getD i 0 < a.getD i 0 ∧ b.getD i 0 < a.getD i 0 + n) :
    cpre (shiftL a i n) b = cpre a b ∧ (cpre a b < a.length → cpre a b < b.length → cmp3 ((shiftL a i n).getD (cpre a b) 0) (b.getD (cpre a b) 0) = cmp3 (a.getD (cpre a b) 0) (b.getD (cpre a b) 0)) := by
  obtain ⟨c1, c2⟩ := cpre_le a b
  have hag := cpre_agree a b
  have hqb : ∀ j, j ≤ i → j ≤ cpre a b → agree q b j := fun j h1 h2 t ht => by rw [ha.2 t (by omega)]; exact hag t (by omega)
  have hk : cpre a b ≤ i := by
    rcases Nat.lt_or_ge i (cpre a b) with h | h
    · have s := sep (by omega) (hqb i (Nat.le_refl _) (by omega))
      have e := hag i h
      omega
    · exact h
  have hag2 : agree (shiftL a i n) b (cpre a b) := fun j hj => by rw [shift_get_ne (by omega)]; exact hag j hj
  rcases Nat.lt_or_ge (cpre a b) i with hlt | hge
  · have hg : (shiftL a i n).getD (cpre a b) 0 = a.getD (cpre a b) 0 := shift_get_ne (by omega)
    refine ⟨cpre_unique hag2 (by rw [shift_len]; omega) c2 (fun h1 h2 => ?_), fun _ _ => by rw [hg]⟩
    rw [hg]
    rw [shift_len] at h1
    exact cpre_ne h1 h2
  · have hki : cpre a b = i := by omega
    rw [hki] at hag2 c2 ⊢
    have hg : (shiftL a i n).getD i 0 = a.getD i 0 + n := shift_get_eq ha.1
    refine ⟨cpre_unique hag2 (by rw [shift_len]; omega) c2 (fun _ h2 => ?_), fun _ h2 => ?_⟩
    · have s := sep h2 (hqb i (Nat.le_refl _) (by omega))
      rw [hg]
      omega
    · have s := sep h2 (hqb i (Nat.le_refl _) (by omega))
      have e1 : cmp3 (a.getD i 0 + n) (b.getD i 0) = 1 := by rw [cmp3, if_neg (by omega), if_pos (by omega)]
      have e2 : cmp3 (a.getD i 0) (b.getD i 0) = 1 := by rw [cmp3, if_neg (by omega), if_pos (by omega)]
      rw [hg, e1, e2]

theorem cmp3_add (x y n : Int) : cmp3 (x + n) (y + n) = cmp3 x y := by
  unfold cmp3
  split <;> split <;> (try split) <;> (try split) <;> omega

/-- Both are shifted. -/
theorem order_two {q a b : List Int} {i : Nat} {n : Int} (ha : i < a.length ∧ agree q a i) (hb : i < b.length ∧ agree q b i) :
    cpre (shiftL a i n) (shiftL b i n) = cpre a b ∧ (cpre a b < a.length → cpre a b < b.length → cmp3 ((shiftL a i n).getD (cpre a b) 0) ((shiftL b i n).getD (cpre a b) 0) = cmp3 (a.getD (cpre a b) 0) (b.getD (cpre a b) 0)) := by
  obtain ⟨c1, c2⟩ := cpre_le a b
  have hag := cpre_agree a b
  have hi : i ≤ cpre a b := cpre_ge a b i (fun j hj => by rw [← ha.2 j hj, hb.2 j hj]) (by omega) (by omega)
  have ga : ∀ j, (shiftL a i n).getD j 0 = if j = i then a.getD j 0 + n else a.getD j 0 := fun j => by
    split
    · rename_i h; subst h; exact shift_get_eq ha.1
    · exact shift_get_ne (by omega)
  have gb : ∀ j, (shiftL b i n).getD j 0 = if j = i then b.getD j 0 + n else b.getD j 0 := fun j => by
    split
    · rename_i h; subst h; exact shift_get_eq hb.1
    · exact shift_get_ne (by omega)
  refine ⟨cpre_unique (fun j hj => ?_) (by rw [shift_len]; omega) (by rw [shift_len]; omega) (fun h1 h2 => ?_), fun _ _ => ?_⟩
  · rw [ga, gb, hag j hj]
  · rw [shift_len] at h1 h2
    have := cpre_ne h1 h2
    rw [ga, gb]
    split <;> omega
  · rw [ga, gb]
    split
    · exact cmp3_add _ _ _
    · rfl

theorem order_sym {a b x y : List Int} (h : cpre y x = cpre b a ∧ (cpre b a < b.length → cpre b a < a.length → cmp3 (y.getD (cpre b a) 0) (x.getD (cpre b a) 0) = cmp3 (b.getD (cpre b a) 0) (a.getD (cpre b a) 0))) :
    cpre x y = cpre a b ∧ (cpre a b < a.length → cpre a b < b.length → cmp3 (x.getD (cpre a b) 0) (y.getD (cpre a b) 0) = cmp3 (a.getD (cpre a b) 0) (b.getD (cpre a b) 0)) := by
  rw [cpre_comm b a] at h
  refine ⟨by rw [cpre_comm, h.1], fun h1 h2 => ?_⟩
  rw [cmp3_neg, h.2 h2 h1, ← cmp3_neg]

theorem insert_order {a b q : List Int} (hq : 0 < q.length) : cmpI (insL a q) (insL b q) = cmpI a b ∧ aboveB (insL a q) (insL b q) = aboveB a b := by
  obtain ⟨i, hi⟩ : ∃ i, i + 1 = q.length := ⟨q.length - 1, by omega⟩
  have hi' : q.length - 1 = i := by omega
  have sep : ∀ p p' : List Int, standsN q p ≠ 0 → standsN q p' = 0 → i < p'.length → agree q p' i → p'.getD i 0 < p.getD i 0 ∧ p'.getD i 0 < p.getD i 0 + 1 := by
    intro p p' h h' h1 h2
    obtain ⟨_, _, c⟩ := stands_some hi h
    have : ¬ q.getD i 0 ≤ p'.getD i 0 := by
      intro hle
      rcases Int.lt_or_eq_of_le hle with h3 | h3
      · have := (stands_one hi).2 ⟨h1, h2, h3⟩; omega
      · have hag : agree q p' q.length := by rw [← hi]; exact agree_same h2 h3
        rcases Nat.lt_or_ge q.length p'.length with h4 | h4
        · have := (stands_two hq).2 ⟨h4, hag⟩; omega
        · have he : q = p' := agree_eq (by omega) hag
          have := (stands_three hq).2 he
          omega
    omega
  by_cases h1 : standsN q a = 0
  · by_cases h2 : standsN q b = 0
    · simp [insL, h1, h2]
    · obtain ⟨b1, b2, _⟩ := stands_some hi h2
      rw [show insL a q = a from by rw [insL, if_pos h1], show insL b q = shiftL b i 1 from by rw [insL, if_neg h2, hi']]
      obtain ⟨c, v⟩ := order_sym (order_one (q := q) (a := b) (b := a) (i := i) (n := 1) ⟨b1, b2⟩ (sep b a h2 h1))
      exact order_of rfl (shift_len _ _ _) c v
  · obtain ⟨a1, a2, _⟩ := stands_some hi h1
    rw [show insL a q = shiftL a i 1 from by rw [insL, if_neg h1, hi']]
    by_cases h2 : standsN q b = 0
    · rw [show insL b q = b from by rw [insL, if_pos h2]]
      obtain ⟨c, v⟩ := order_one (q := q) (a := a) (b := b) (i := i) (n := 1) ⟨a1, a2⟩ (sep a b h1 h2)
      exact order_of (shift_len _ _ _) rfl c v
    · obtain ⟨b1, b2, _⟩ := stands_some hi h2
      rw [show insL b q = shiftL b i 1 from by rw [insL, if_neg h2, hi']]
      obtain ⟨c, v⟩ := order_two (q := q) (a := a) (b := b) (i := i) (n := 1) ⟨a1, a2⟩ ⟨b1, b2⟩
      exact order_of (shift_len _ _ _) (shift_len _ _ _) c v

/-- A path behind a node was taken out. -/
def remL (p q : List Int) : List Int := if standsN q p = 1 then shiftL p (q.length - 1) (-1) else p
theorem remove_order {a b q : List Int} (hq : 0 < q.length) (ha : standsN q a = 0 ∨ standsN q a = 1) (hb : standsN q b = 0 ∨ standsN q b = 1) : cmpI (remL a q) (remL b q) = cmpI a b ∧ aboveB (remL a q) (remL b q) = aboveB a b := by
  obtain ⟨i, hi⟩ : ∃ i, i + 1 = q.length := ⟨q.length - 1, by omega⟩
  have hi' : q.length - 1 = i := by omega
  have sep : ∀ p p' : List Int, standsN q p = 1 → standsN q p' = 0 → i < p'.length → agree q p' i → p'.getD i 0 < p.getD i 0 ∧ p'.getD i 0 < p.getD i 0 + (-1) := by
    intro p p' h h' h1 h2
    obtain ⟨_, _, c⟩ := (stands_one hi).1 h
    have : ¬ q.getD i 0 ≤ p'.getD i 0 := by
      intro hle
      rcases Int.lt_or_eq_of_le hle with h3 | h3
      · have := (stands_one hi).2 ⟨h1, h2, h3⟩; omega
      · have hag : agree q p' q.length := by rw [← hi]; exact agree_same h2 h3
        rcases Nat.lt_or_ge q.length p'.length with h4 | h4
        · have := (stands_two hq).2 ⟨h4, hag⟩; omega
        · have he : q = p' := agree_eq (by omega) hag
          have := (stands_three hq).2 he
          omega
    omega
  rcases ha with h1 | h1
  · rw [show remL a q = a from by rw [remL, if_neg (by omega)]]
    rcases hb with h2 | h2
    · rw [show remL b q = b from by rw [remL, if_neg (by omega)]]
      exact ⟨rfl, rfl⟩
    · obtain ⟨b1, b2, _⟩ := (stands_one hi).1 h2
      rw [show remL b q = shiftL b i (-1) from by rw [remL, if_pos h2, hi']]
      obtain ⟨c, v⟩ := order_sym (order_one (q := q) (a := b) (b := a) (i := i) (n := -1) ⟨b1, b2⟩ (sep b a h2 h1))
      exact order_of rfl (shift_len _ _ _) c v
  · obtain ⟨a1, a2, _⟩ := (stands_one hi).1 h1
    rw [show remL a q = shiftL a i (-1) from by rw [remL, if_pos h1, hi']]
    rcases hb with h2 | h2
    · rw [show remL b q = b from by rw [remL, if_neg (by omega)]]
      obtain ⟨c, v⟩ := order_one (q := q) (a := a) (b := b) (i := i) (n := -1) ⟨a1, a2⟩ (sep a b h1 h2)
      exact order_of (shift_len _ _ _) rfl c v
    · obtain ⟨b1, b2, _⟩ := (stands_one hi).1 h2
      rw [show remL b q = shiftL b i (-1) from by rw [remL, if_pos h2, hi']]
      obtain ⟨c, v⟩ := order_two (q := q) (a := a) (b := b) (i := i) (n := -1) ⟨a1, a2⟩ ⟨b1, b2⟩
      exact order_of (shift_len _ _ _) (shift_len _ _ _) c v

/-- Of two that are moved by a node put in, or taken out, the order is kept. -/
theorem move_order {a b q to x y : List Int} {kind pos : Int} (hk : kind = 1 ∨ kind = 2) (h1 : moveP a kind q to pos = some x) (h2 : moveP b kind q to pos = some y) : cmpI x y = cmpI a b ∧ aboveB x y = aboveB a b := by
  unfold moveP at h1 h2
  split at h1
  · rename_i ha
    rw [if_pos ⟨by
      split at h2
      · rename_i hb; exact hb.1
      · simp at h2, ha.2⟩] at h2
    by_cases hq : q.length = 0
    · rw [if_pos hq] at h1 h2
      obtain rfl := Option.some.inj h1
      obtain rfl := Option.some.inj h2
      exact ⟨rfl, rfl⟩
    · rw [if_neg hq] at h1 h2
      rcases hk with rfl | rfl
      · rw [if_pos rfl] at h1 h2
        obtain rfl := Option.some.inj h1
        obtain rfl := Option.some.inj h2
        exact insert_order (by omega)
      · rw [if_neg (by decide), if_pos rfl] at h1 h2
        have hx : (standsN q a = 0 ∨ standsN q a = 1) ∧ x = remL a q := by
          rcases stands_range q a with h | h | h | h <;> rw [h] at h1 <;> simp at h1
          · exact ⟨.inl h, by rw [remL, if_neg (by omega)]; exact h1.symm⟩
          · exact ⟨.inr h, by rw [remL, if_pos h]; exact h1.symm⟩
        have hy : (standsN q b = 0 ∨ standsN q b = 1) ∧ y = remL b q := by
          rcases stands_range q b with h | h | h | h <;> rw [h] at h2 <;> simp at h2
          · exact ⟨.inl h, by rw [remL, if_neg (by omega)]; exact h2.symm⟩
          · exact ⟨.inr h, by rw [remL, if_pos h]; exact h2.symm⟩
        rw [hx.2, hy.2]
        exact remove_order (by omega) hx.1 hy.1
  · simp at h1

/- Plain Lean: what a split, and what a move moves, is moved back. -/
theorem stands_ne {q p : List Int} {i : Nat} (hi : i + 1 = q.length) (h1 : i < p.length) (h2 : agree q p i) (h3 : q.getD i 0 ≤ p.getD i 0) : standsN q p ≠ 0 := by
  have hq : 0 < q.length := by omega
  rcases Int.lt_or_eq_of_le h3 with h | h
  · have := (stands_one hi).2 ⟨h1, h2, h⟩; omega
  · have hag : agree q p q.length := by rw [← hi]; exact agree_same h2 h
    rcases Nat.lt_or_ge q.length p.length with h4 | h4
    · have := (stands_two hq).2 ⟨h4, hag⟩; omega
    · have := (stands_three hq).2 (agree_eq (by omega) hag); omega

/-- What was taken out, and is put in again. -/
theorem rem_back {p q : List Int} (hq : 0 < q.length) (h : standsN q p = 0 ∨ standsN q p = 1) : insL (remL p q) q = p := by
  obtain ⟨i, hi⟩ : ∃ i, i + 1 = q.length := ⟨q.length - 1, by omega⟩
  have hi' : q.length - 1 = i := by omega
  rcases h with h | h
  · rw [show remL p q = p from by rw [remL, if_neg (by omega)], insL, if_pos h]
  · obtain ⟨a, b, c⟩ := (stands_one hi).1 h
    rw [show remL p q = shiftL p i (-1) from by rw [remL, if_pos h, hi'], insL,
      if_neg (stands_ne hi (by rw [shift_len]; exact a) (agree_shift b (Nat.le_refl _)) (by rw [shift_get_eq a]; omega)), hi', shift_back (by omega)]

theorem low_shift {p : List Int} {i : Nat} {n : Int} (h : lowB p = true) (hb : p.getD i 0 + n < 1048576) : lowB (shiftL p i n) = true := by
  rw [lowB, List.all_eq_true] at *
  intro x hx
  rcases List.mem_or_eq_of_mem_set hx with h1 | h1
  · exact h x h1
  · rw [h1]; exact decide_eq_true (by omega)

theorem rem_small {p q : List Int} (s1 : smallB p = true) (s2 : smallB q = true) (hl : lowB p = true) (hq : 0 < q.length) :
    smallB (remL p q) = true ∧ lowB (remL p q) = true ∧ (remL p q).length = p.length := by
  obtain ⟨i, hi⟩ : ∃ i, i + 1 = q.length := ⟨q.length - 1, by omega⟩
  have hi' : q.length - 1 = i := by omega
  unfold remL
  split
  · rename_i h
    obtain ⟨a, b, c⟩ := (stands_one hi).1 h
    have g1 := low_get s1 hl i
    have g2 := small_get s2 i
    rw [hi']
    exact ⟨small_shift s1 (by omega), low_shift hl (by omega), shift_len _ _ _⟩
  · exact ⟨s1, hl, rfl⟩

theorem small_append {xs ys : List Int} : smallB (xs ++ ys) = true ↔ smallB xs = true ∧ smallB ys = true := by
  simp only [smallB_iff, List.mem_append]
  constructor
  · intro h; exact ⟨fun x hx => h x (.inl hx), fun x hx => h x (.inr hx)⟩
  · rintro ⟨h1, h2⟩ x (hx | hx)
    · exact h1 x hx
    · exact h2 x hx
theorem low_append {xs ys : List Int} : lowB (xs ++ ys) = true ↔ lowB xs = true ∧ lowB ys = true := by
  simp [lowB, List.all_append]

theorem agree_append (xs ys : List Int) : agree xs (xs ++ ys) xs.length := fun j hj => by simp [List.getD, List.getElem?_append_left hj]

/-- What is moved is moved back. -/
theorem move_back {p q to : List Int} (s1 : smallB p = true) (s2 : smallB q = true) (s3 : smallB to = true) (hl : lowB p = true) (hq : 0 < q.length) (ht : 0 < to.length) :
    ∃ a, moveP p 5 q to 0 = some a ∧ moveP a 5 to q 0 = some p ∧ a.length ≤ to.length + p.length := by
  have s4 : smallB [0] = true := rfl
  have hq0 : ¬ q.length = 0 := by omega
  have ht0 : ¬ to.length = 0 := by omega
  have e1 : moveP p 5 q to 0 = if standsN q p = 3 ∨ standsN q p = 2 then some (to ++ p.drop q.length) else if standsN q p = 1 then some (insL (shiftL p (q.length - 1) (-1)) to) else some (insL p to) := by
    rw [moveP, if_pos ⟨s1, s2, s3, s4⟩, if_neg hq0, if_neg (by decide), if_neg (by decide), if_neg (by decide), if_neg (by decide), if_pos rfl]
  have e2 : ∀ a, smallB a = true → moveP a 5 to q 0 = if standsN to a = 3 ∨ standsN to a = 2 then some (q ++ a.drop to.length) else if standsN to a = 1 then some (insL (shiftL a (to.length - 1) (-1)) q) else some (insL a q) := by
    intro a sa
    rw [moveP, if_pos ⟨sa, s3, s2, s4⟩, if_neg ht0, if_neg (by decide), if_neg (by decide), if_neg (by decide), if_neg (by decide), if_pos rfl]
  by_cases hb : standsN q p = 3 ∨ standsN q p = 2
  · obtain ⟨r, rfl⟩ : ∃ r, p = q ++ r := by
      rcases hb with h | h
      · have := (stands_three hq).1 h; exact ⟨[], by rw [this]; simp⟩
      · obtain ⟨h1, h2⟩ := (stands_two hq).1 h
        refine ⟨p.drop q.length, ?_⟩
        have := take_of_agree h2 (Nat.le_refl _) (by omega)
        rw [List.take_length] at this
        conv => lhs; rw [← List.take_append_drop q.length p]
        rw [← this]
    rw [if_pos hb] at e1
    have ed : (q ++ r).drop q.length = r := by simp
    rw [ed] at e1
    refine ⟨to ++ r, e1, ?_, by simp⟩
    have sa : smallB (to ++ r) = true := small_append.2 ⟨s3, (small_append.1 s1).2⟩
    have hs : standsN to (to ++ r) = 3 ∨ standsN to (to ++ r) = 2 := by
      rcases Nat.eq_zero_or_pos r.length with h | h
      · have : r = [] := List.eq_nil_of_length_eq_zero h
        subst this
        exact .inl ((stands_three ht).2 (by simp))
      · exact .inr ((stands_two ht).2 ⟨by simp; omega, agree_append _ _⟩)
    rw [e2 _ sa, if_pos hs]
    simp
  · have hn : standsN q p = 0 ∨ standsN q p = 1 := by rcases stands_range q p with h | h | h | h <;> omega
    have hr := rem_back hq hn
    obtain ⟨r1, r2, r3⟩ := rem_small s1 s2 hl hq
    rw [if_neg hb] at e1
    have e3 : moveP p 5 q to 0 = some (insL (remL p q) to) := by
      rw [e1]
      by_cases h1 : standsN q p = 1
      · rw [if_pos h1, remL, if_pos h1]
      · rw [if_neg h1, remL, if_neg h1]
    obtain ⟨m1, m2, m3, m4, m5, m6⟩ := insert_back r1 s3 r2 ht
    refine ⟨_, e3, ?_, by omega⟩
    rw [e2 _ m5]
    rw [moveP, if_pos ⟨m5, s3, rfl, s4⟩, if_neg ht0, if_neg (by decide), if_pos rfl] at m4
    rcases stands_range to (insL (remL p q) to) with h | h | h | h
    · rw [h] at m4 ⊢
      simp at m4 ⊢
      rw [m4, hr]
    · rw [h] at m4 ⊢
      simp at m4 ⊢
      rw [m4, hr]
    · rw [h] at m4; simp at m4
    · rw [h] at m4; simp at m4

/-- What a split moves, the merge of the second part moves back. -/
theorem split_back {p q : List Int} {pos : Int} (s1 : smallB p = true) (s2 : smallB q = true) (hl : lowB p = true) (h2 : lowB q = true) (hp : 0 ≤ pos ∧ pos ≤ 1048576) (hq : 0 < q.length) :
    ∃ a, moveP p 4 q [] pos = some a ∧ a ≠ shiftL q (q.length - 1) 1 ∧ moveP a 3 (shiftL q (q.length - 1) 1) [] pos = some p ∧ a.length = p.length := by
  obtain ⟨i, hi⟩ : ∃ i, i + 1 = q.length := ⟨q.length - 1, by omega⟩
  have hi' : q.length - 1 = i := by omega
  have s3 : smallB [] = true := rfl
  have s4 : smallB [pos] = true := by rw [smallB_iff]; simp; omega
  have hq0 : ¬ q.length = 0 := by omega
  have gq := low_get s2 h2 i
  have sn : smallB (shiftL q i 1) = true := small_shift s2 (by omega)
  have hn0 : ¬ (shiftL q i 1).length = 0 := by rw [shift_len]; omega
  have gn : (shiftL q i 1).getD i 0 = q.getD i 0 + 1 := shift_get_eq (by omega)
  have hin : i + 1 = (shiftL q i 1).length := by rw [shift_len]; exact hi
  have hn : 0 < (shiftL q i 1).length := by omega
  rw [hi']
  have e1 : moveP p 4 q [] pos = if standsN q p = 2 ∧ pos ≤ p.getD q.length 0 then some (shiftL (shiftL p q.length (-pos)) i 1) else if standsN q p = 1 then some (shiftL p i 1) else some p := by
    rw [moveP, if_pos ⟨s1, s2, s3, s4⟩, if_neg hq0, if_neg (by decide), if_neg (by decide), if_neg (by decide), if_pos rfl, hi']
  have e2 : ∀ a, smallB a = true → moveP a 3 (shiftL q i 1) [] pos = if standsN (shiftL q i 1) a = 2 then some (shiftL (shiftL a q.length pos) i (-1)) else if standsN (shiftL q i 1) a = 3 ∨ standsN (shiftL q i 1) a = 1 then some (shiftL a i (-1)) else some a := by
    intro a sa
    rw [moveP, if_pos ⟨sa, sn, s3, s4⟩, if_neg hn0, if_neg (by decide), if_neg (by decide), if_pos rfl, shift_len, hi', if_neg (by rw [gn]; omega)]
  by_cases hA : standsN q p = 2 ∧ pos ≤ p.getD q.length 0
  · obtain ⟨ha, hpos⟩ := hA
    obtain ⟨a1, a2⟩ := (stands_two hq).1 ha
    have gp := low_get s1 hl i
    have gp2 := low_get s1 hl q.length
    have hqi : q.getD i 0 = p.getD i 0 := a2 i (by omega)
    have b1 : smallB (shiftL p q.length (-pos)) = true := small_shift s1 (by omega)
    have b2 : smallB (shiftL (shiftL p q.length (-pos)) i 1) = true := small_shift b1 (by rw [shift_get_ne (by omega)]; omega)
    have hag : agree (shiftL q i 1) (shiftL (shiftL p q.length (-pos)) i 1) (shiftL q i 1).length := by
      intro j hj
      rw [shift_len] at hj
      by_cases hji : j = i
      · subst hji
        rw [gn, shift_get_eq (by rw [shift_len]; omega), shift_get_ne (by omega), hqi]
      · rw [shift_get_ne (by omega), shift_get_ne (by omega), shift_get_ne (by omega)]
        exact a2 j hj
    have hlt : (shiftL q i 1).length < (shiftL (shiftL p q.length (-pos)) i 1).length := by simp only [shift_len]; exact a1
    refine ⟨_, by rw [e1, if_pos ⟨ha, hpos⟩], ?_, ?_, by simp only [shift_len]⟩
    · intro h; rw [h] at hlt; omega
    · rw [e2 _ b2, if_pos ((stands_two hn).2 ⟨hlt, hag⟩), shift_comm (n := 1) (m := pos) (by omega), shift_shift, shift_shift]
      rw [show -pos + pos = 0 from by omega, shift_zero, show (1 : Int) + -1 = 0 from rfl, shift_zero]
  · rw [if_neg hA] at e1
    by_cases h1 : standsN q p = 1
    · rw [if_pos h1] at e1
      obtain ⟨a1, a2, a3⟩ := (stands_one hi).1 h1
      have gp := low_get s1 hl i
      have b2 : smallB (shiftL p i 1) = true := small_shift s1 (by omega)
      have hg : (shiftL p i 1).getD i 0 = p.getD i 0 + 1 := shift_get_eq a1
      have hst : standsN (shiftL q i 1) (shiftL p i 1) = 1 := (stands_one hin).2 ⟨by rw [shift_len]; exact a1, fun j hj => by rw [shift_get_ne (by omega), shift_get_ne (by omega)]; exact a2 j hj, by rw [gn, hg]; omega⟩
      refine ⟨_, e1, ?_, ?_, shift_len _ _ _⟩
      · intro h
        have := (stands_three hn).2 h.symm
        omega
      · rw [e2 _ b2, hst]
        simp
        exact shift_back (by omega)
    · rw [if_neg h1] at e1
      have hst : standsN (shiftL q i 1) p = 0 := by
        apply stands_no hin
        rintro ⟨a1, a2, a3⟩
        rw [gn] at a3
        exact h1 ((stands_one hi).2 ⟨a1, fun j hj => by have := a2 j hj; rw [shift_get_ne (by omega)] at this; exact this, by omega⟩)
      refine ⟨_, e1, ?_, ?_, rfl⟩
      · intro h
        have := (stands_three hn).2 h.symm
        omega
      · rw [e2 _ s1, hst]
        simp
end Go.Proofs.Ytcbljiiomnhbjaa
