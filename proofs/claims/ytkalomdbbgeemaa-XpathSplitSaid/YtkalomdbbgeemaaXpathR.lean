/- Plain Lean: a node put in, or taken out, leaves all others in their order. -/
import Derived.Test.YtkalomdbbgeemaaXpathQ
namespace Go.Proofs.Ytkalomdbbgeemaa
open Go.RowKit

theorem cpre_unique {xs ys : List Int} {k : Nat} (h : agree xs ys k) (h1 : k ≤ xs.length) (h2 : k ≤ ys.length) (hd : k < xs.length → k < ys.length → xs.getD k 0 ≠ ys.getD k 0) : cpre xs ys = k := by
  have a := cpre_ge xs ys k h h1 h2
  rcases Nat.lt_or_ge k (cpre xs ys) with hlt | hge
  · obtain ⟨b1, b2⟩ := cpre_le xs ys
    exact absurd (cpre_agree xs ys k hlt) (hd (by omega) (by omega))
  · omega
theorem cpre_ne {xs ys : List Int} (h1 : cpre xs ys < xs.length) (h2 : cpre xs ys < ys.length) : xs.getD (cpre xs ys) 0 ≠ ys.getD (cpre xs ys) 0 := by
  have := cpre_diff xs ys h1 h2
  simpa [h1, h2] using this

theorem cmpI_cpre (xs ys : List Int) : cmpI xs ys = if cpre xs ys < xs.length ∧ cpre xs ys < ys.length then cmp3 (xs.getD (cpre xs ys) 0) (ys.getD (cpre xs ys) 0) else if xs.length < ys.length then -1 else if ys.length < xs.length then 1 else 0 := by
  obtain ⟨b1, b2⟩ := cpre_le xs ys
  have ha := cpre_agree xs ys
  by_cases h : cpre xs ys < xs.length ∧ cpre xs ys < ys.length
  · rw [if_pos h]
    have hd := cpre_diff xs ys h.1 h.2
    rw [cmpI_diff ha h.1 h.2 (by rw [ne_eq, cmp3_zero]; exact hd)]
    simp [h.1, h.2]
  · rw [if_neg h]
    by_cases hx : cpre xs ys < xs.length
    · rw [if_neg (by omega), if_pos (by omega)]
      exact cmpI_longer ha hx (by omega)
    · have hk : cpre xs ys = xs.length := by omega
      rw [hk] at ha
      rw [cmpI_end ha (by omega)]
      by_cases hl : xs.length < ys.length
      · rw [if_pos hl, if_pos hl]
      · rw [if_neg hl, if_neg hl, if_neg (by omega)]

/-- Same lengths, same common part, same comparison there: same order, and above as they were. -/
theorem order_of {a b x y : List Int} (l1 : x.length = a.length) (l2 : y.length = b.length) (hc : cpre x y = cpre a b)
    (hv : cpre a b < a.length → cpre a b < b.length → cmp3 (x.getD (cpre a b) 0) (y.getD (cpre a b) 0) = cmp3 (a.getD (cpre a b) 0) (b.getD (cpre a b) 0)) : cmpI x y = cmpI a b ∧ aboveB x y = aboveB a b := by
  constructor
  · rw [cmpI_cpre, cmpI_cpre a b, hc, l1, l2]
    by_cases h : cpre a b < a.length ∧ cpre a b < b.length
    · rw [if_pos h, if_pos h]
      exact hv h.1 h.2
    · rw [if_neg h, if_neg h]
  · rw [aboveB, aboveB, hc, l1, l2]

/-- One of two is shifted. -/
theorem order_one {q a b : List Int} {i : Nat} {n : Int} (ha : i < a.length ∧ agree q a i) (sep : i < b.length → agree q b i → b.getD i 0 < a.getD i 0 ∧ b.getD i 0 < a.getD i 0 + n) :
    cpre (shiftL a i n) b = cpre a b ∧ (cpre a b < a.length → cpre a b < b.length → cmp3 ((shiftL a i n).getD (cpre a b) 0) (b.getD (cpre a b) 0) = cmp3 (a.getD (cpre a b) 0) (b.getD (cpre a b) 0)) := by
  obtain ⟨c1, c2⟩ := cpre_le a b
  have hag := cpre_agree a b
  have hqb : ∀ j, j ≤ i → j ≤ cpre a b → agree q b j := fun j h1 h2 t ht => by rw [ha.2 t (by omega)]; exact hag t (by omega)
  have hk : cpre a b ≤ i := by
    rcases Nat.lt_or_ge i (cpre a b) with h | h
    · have s := sep (by omega) (hqb i (Nat.le_refl _) (by omega))
      have e := hag i h
      omega
    · exact h
  have hag2 : agree (shiftL a i n) b (cpre a b) := fun j hj => by rw [shift_get_ne (by omega)]; exact hag j hj
  rcases Nat.lt_or_ge (cpre a b) i with hlt | hge
  · have hg : (shiftL a i n).getD (cpre a b) 0 = a.getD (cpre a b) 0 := shift_get_ne (by omega)
    refine ⟨cpre_unique hag2 (by rw [shift_len]; omega) c2 (fun h1 h2 => ?_), fun _ _ => by rw [hg]⟩
    rw [hg]
    rw [shift_len] at h1
    exact cpre_ne h1 h2
  · have hki : cpre a b = i := by omega
    rw [hki] at hag2 c2 ⊢
    have hg : (shiftL a i n).getD i 0 = a.getD i 0 + n := shift_get_eq ha.1
    refine ⟨cpre_unique hag2 (by rw [shift_len]; omega) c2 (fun _ h2 => ?_), fun _ h2 => ?_⟩
    · have s := sep h2 (hqb i (Nat.le_refl _) (by omega))
      rw [hg]
      omega
    · have s := sep h2 (hqb i (Nat.le_refl _) (by omega))
      have e1 : cmp3 (a.getD i 0 + n) (b.getD i 0) = 1 := by rw [cmp3, if_neg (by omega), if_pos (by omega)]
      have e2 : cmp3 (a.getD i 0) (b.getD i 0) = 1 := by rw [cmp3, if_neg (by omega), if_pos (by omega)]
      rw [hg, e1, e2]

theorem cmp3_add (x y n : Int) : cmp3 (x + n) (y + n) = cmp3 x y := by
  unfold cmp3
  split <;> split <;> (try split) <;> (try split) <;> omega

/-- Both are shifted. -/
theorem order_two {q a b : List Int} {i : Nat} {n : Int} (ha : i < a.length ∧ agree q a i) (hb : i < b.length ∧ agree q b i) :
    cpre (shiftL a i n) (shiftL b i n) = cpre a b ∧ (cpre a b < a.length → cpre a b < b.length → cmp3 ((shiftL a i n).getD (cpre a b) 0) ((shiftL b i n).getD (cpre a b) 0) = cmp3 (a.getD (cpre a b) 0) (b.getD (cpre a b) 0)) := by
  obtain ⟨c1, c2⟩ := cpre_le a b
  have hag := cpre_agree a b
  have hi : i ≤ cpre a b := cpre_ge a b i (fun j hj => by rw [← ha.2 j hj, hb.2 j hj]) (by omega) (by omega)
  have ga : ∀ j, (shiftL a i n).getD j 0 = if j = i then a.getD j 0 + n else a.getD j 0 := fun j => by
    split
    · rename_i h; subst h; exact shift_get_eq ha.1
    · exact shift_get_ne (by omega)
  have gb : ∀ j, (shiftL b i n).getD j 0 = if j = i then b.getD j 0 + n else b.getD j 0 := fun j => by
    split
    · rename_i h; subst h; exact shift_get_eq hb.1
    · exact shift_get_ne (by omega)
  refine ⟨cpre_unique (fun j hj => ?_) (by rw [shift_len]; omega) (by rw [shift_len]; omega) (fun h1 h2 => ?_), fun _ _ => ?_⟩
  · rw [ga, gb, hag j hj]
  · rw [shift_len] at h1 h2
    have := cpre_ne h1 h2
    rw [ga, gb]
    split <;> omega
  · rw [ga, gb]
    split
    · exact cmp3_add _ _ _
    · rfl

theorem order_sym {a b x y : List Int} (h : cpre y x = cpre b a ∧ (cpre b a < b.length → cpre b a < a.length → cmp3 (y.getD (cpre b a) 0) (x.getD (cpre b a) 0) = cmp3 (b.getD (cpre b a) 0) (a.getD (cpre b a) 0))) :
    cpre x y = cpre a b ∧ (cpre a b < a.length → cpre a b < b.length → cmp3 (x.getD (cpre a b) 0) (y.getD (cpre a b) 0) = cmp3 (a.getD (cpre a b) 0) (b.getD (cpre a b) 0)) := by
  rw [cpre_comm b a] at h
  refine ⟨by rw [cpre_comm, h.1], fun h1 h2 => ?_⟩
  rw [cmp3_neg, h.2 h2 h1, ← cmp3_neg]

theorem insert_order {a b q : List Int} (hq : 0 < q.length) : cmpI (insL a q) (insL b q) = cmpI a b ∧ aboveB (insL a q) (insL b q) = aboveB a b := by
  obtain ⟨i, hi⟩ : ∃ i, i + 1 = q.length := ⟨q.length - 1, by omega⟩
  have hi' : q.length - 1 = i := by omega
  have sep : ∀ p p' : List Int, standsN q p ≠ 0 → standsN q p' = 0 → i < p'.length → agree q p' i → p'.getD i 0 < p.getD i 0 ∧ p'.getD i 0 < p.getD i 0 + 1 := by
    intro p p' h h' h1 h2
    obtain ⟨_, _, c⟩ := stands_some hi h
    have : ¬ q.getD i 0 ≤ p'.getD i 0 := by
      intro hle
      rcases Int.lt_or_eq_of_le hle with h3 | h3
      · have := (stands_one hi).2 ⟨h1, h2, h3⟩; omega
      · have hag : agree q p' q.length := by rw [← hi]; exact agree_same h2 h3
        rcases Nat.lt_or_ge q.length p'.length with h4 | h4
        · have := (stands_two hq).2 ⟨h4, hag⟩; omega
        · have he : q = p' := agree_eq (by omega) hag
          have := (stands_three hq).2 he
          omega
    omega
  by_cases h1 : standsN q a = 0
  · by_cases h2 : standsN q b = 0
    · simp [insL, h1, h2]
    · obtain ⟨b1, b2, _⟩ := stands_some hi h2
      rw [show insL a q = a from by rw [insL, if_pos h1], show insL b q = shiftL b i 1 from by rw [insL, if_neg h2, hi']]
      obtain ⟨c, v⟩ := order_sym (order_one (q := q) (a := b) (b := a) (i := i) (n := 1) ⟨b1, b2⟩ (sep b a h2 h1))
      exact order_of rfl (shift_len _ _ _) c v
  · obtain ⟨a1, a2, _⟩ := stands_some hi h1
    rw [show insL a q = shiftL a i 1 from by rw [insL, if_neg h1, hi']]
    by_cases h2 : standsN q b = 0
    · rw [show insL b q = b from by rw [insL, if_pos h2]]
      obtain ⟨c, v⟩ := order_one (q := q) (a := a) (b := b) (i := i) (n := 1) ⟨a1, a2⟩ (sep a b h1 h2)
      exact order_of (shift_len _ _ _) rfl c v
    · obtain ⟨b1, b2, _⟩ := stands_some hi h2
      rw [show insL b q = shiftL b i 1 from by rw [insL, if_neg h2, hi']]
      obtain ⟨c, v⟩ := order_two (q := q) (a := a) (b := b) (i := i) (n := 1) ⟨a1, a2⟩ ⟨b1, b2⟩
      exact order_of (shift_len _ _ _) (shift_len _ _ _) c v

/-- A path behind a node was taken out. -/
def remL (p q : List Int) : List Int := if standsN q p = 1 then shiftL p (q.length - 1) (-1) else p
theorem remove_order {a b q : List Int} (hq : 0 < q.length) (ha : standsN q a = 0 ∨ standsN q a = 1) (hb : standsN q b = 0 ∨ standsN q b = 1) : cmpI (remL a q) (remL b q) = cmpI a b ∧ aboveB (remL a q) (remL b q) = aboveB a b := by
  obtain ⟨i, hi⟩ : ∃ i, i + 1 = q.length := ⟨q.length - 1, by omega⟩
  have hi' : q.length - 1 = i := by omega
  have sep : ∀ p p' : List Int, standsN q p = 1 → standsN q p' = 0 → i < p'.length → agree q p' i → p'.getD i 0 < p.getD i 0 ∧ p'.getD i 0 < p.getD i 0 + (-1) := by
    intro p p' h h' h1 h2
    obtain ⟨_, _, c⟩ := (stands_one hi).1 h
    have : ¬ q.getD i 0 ≤ p'.getD i 0 := by
      intro hle
      rcases Int.lt_or_eq_of_le hle with h3 | h3
      · have := (stands_one hi).2 ⟨h1, h2, h3⟩; omega
      · have hag : agree q p' q.length := by rw [← hi]; exact agree_same h2 h3
        rcases Nat.lt_or_ge q.length p'.length with h4 | h4
        · have := (stands_two hq).2 ⟨h4, hag⟩; omega
        · have he : q = p' := agree_eq (by omega) hag
          have := (stands_three hq).2 he
          omega
    omega
  rcases ha with h1 | h1
  · rw [show remL a q = a from by rw [remL, if_neg (by omega)]]
    rcases hb with h2 | h2
    · rw [show remL b q = b from by rw [remL, if_neg (by omega)]]
      exact ⟨rfl, rfl⟩
    · obtain ⟨b1, b2, _⟩ := (stands_one hi).1 h2
      rw [show remL b q = shiftL b i (-1) from by rw [remL, if_pos h2, hi']]
      obtain ⟨c, v⟩ := order_sym (order_one (q := q) (a := b) (b := a) (i := i) (n := -1) ⟨b1, b2⟩ (sep b a h2 h1))
      exact order_of rfl (shift_len _ _ _) c v
  · obtain ⟨a1, a2, _⟩ := (stands_one hi).1 h1
    rw [show remL a q = shiftL a i (-1) from by rw [remL, if_pos h1, hi']]
    rcases hb with h2 | h2
    · rw [show remL b q = b from by rw [remL, if_neg (by omega)]]
      obtain ⟨c, v⟩ := order_one (q := q) (a := a) (b := b) (i := i) (n := -1) ⟨a1, a2⟩ (sep a b h1 h2)
      exact order_of (shift_len _ _ _) rfl c v
    · obtain ⟨b1, b2, _⟩ := (stands_one hi).1 h2
      rw [show remL b q = shiftL b i (-1) from by rw [remL, if_pos h2, hi']]
      obtain ⟨c, v⟩ := order_two (q := q) (a := a) (b := b) (i := i) (n := -1) ⟨a1, a2⟩ ⟨b1, b2⟩
      exact order_of (shift_len _ _ _) (shift_len _ _ _) c v

/-- Of two that are moved by a node put in, or taken out, the order is kept. -/
theorem move_order {a b q to x y : List Int} {kind pos : Int} (hk : kind = 1 ∨ kind = 2) (h1 : moveP a kind q to pos = some x) (h2 : moveP b kind q to pos = some y) : cmpI x y = cmpI a b ∧ aboveB x y = aboveB a b := by
  unfold moveP at h1 h2
  split at h1
  · rename_i ha
    rw [if_pos ⟨by
      split at h2
      · rename_i hb; exact hb.1
      · simp at h2, ha.2⟩] at h2
    by_cases hq : q.length = 0
    · rw [if_pos hq] at h1 h2
      obtain rfl := Option.some.inj h1
      obtain rfl := Option.some.inj h2
      exact ⟨rfl, rfl⟩
    · rw [if_neg hq] at h1 h2
      rcases hk with rfl | rfl
      · rw [if_pos rfl] at h1 h2
        obtain rfl := Option.some.inj h1
        obtain rfl := Option.some.inj h2
        exact insert_order (by omega)
      · rw [if_neg (by decide), if_pos rfl] at h1 h2
        have hx : (standsN q a = 0 ∨ standsN q a = 1) ∧ x = remL a q := by
          rcases stands_range q a with h | h | h | h <;> rw [h] at h1 <;> simp at h1
          · exact ⟨.inl h, by rw [remL, if_neg (by omega)]; exact h1.symm⟩
          · exact ⟨.inr h, by rw [remL, if_pos h]; exact h1.symm⟩
        have hy : (standsN q b = 0 ∨ standsN q b = 1) ∧ y = remL b q := by
          rcases stands_range q b with h | h | h | h <;> rw [h] at h2 <;> simp at h2
          · exact ⟨.inl h, by rw [remL, if_neg (by omega)]; exact h2.symm⟩
          · exact ⟨.inr h, by rw [remL, if_pos h]; exact h2.symm⟩
        rw [hx.2, hy.2]
        exact remove_order (by omega) hx.1 hy.1
  · simp at h1
end Go.Proofs.Ytkalomdbbgeemaa
