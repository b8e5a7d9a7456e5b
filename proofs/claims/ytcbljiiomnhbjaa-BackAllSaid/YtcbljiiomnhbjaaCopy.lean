/- Walk of node.Copy: a copy in blocks of its own. -/
import Derived.Test.YtcbljiiomnhbjaaTree1
import Derived.Deep.RegionHeld3
import Derived.Deep.DeepCutAuto
import Derived.Laws.OwnMore
namespace Go.Proofs.Ytcbljiiomnhbjaa
set_option maxRecDepth 100000
open Go.RowKit

/-- What node.Copy leaves. -/
def Copied (t : Tree) (w : World) (e : Ending) (w' : World) : Prop :=
  ∃ cs : List Value, e = .returned (.agg cs.toArray) ∧ Tr w' (fun b => w.heap.size ≤ b) cs t ∧ Below w.heap.size w w'

/-- The box's cells and marks, later. -/
theorem box3 {W w' : World} {g : Nat} (hb : Below W.heap.size W w') (hg : g < W.heap.size) : (∀ i, w'.cell? ⟨g, i, none⟩ = W.cell? ⟨g, i, none⟩) ∧ (∀ i, w'.frozen? ⟨g, i, none⟩ = W.frozen? ⟨g, i, none⟩) :=
  ⟨fun i => hb.cell (p := ⟨g, i, none⟩) hg, fun i => hb.frozen (p := ⟨g, i, none⟩) hg⟩

theorem node_cells_one {S : Nat → Prop} {w : World} {es : List (List Value)} {ks : List Tree} (hl : es.length = ks.length) (h : ∀ i, i < ks.length → NodeAt S w (es.getD i []) (ks.getD i default)) : ∀ u ∈ es.flatten, u.oneCell' = true := by
  intro u hu
  obtain ⟨e, he, hue⟩ := List.mem_flatten.1 hu
  obtain ⟨i, hi, rfl⟩ := List.getElem_of_mem he
  have := (h i (by omega)).one u
  simp only [List.getD_eq_getElem?_getD, List.getElem?_eq_getElem hi, Option.getD_some] at this
  exact this hue
theorem prop_cells_one (ps : List (ByteArray × ByteArray)) : ∀ u ∈ (ps.map propCells).flatten, u.oneCell' = true := by
  intro u hu
  obtain ⟨e, he, hue⟩ := List.mem_flatten.1 hu
  obtain ⟨p, _, rfl⟩ := List.mem_map.1 he
  simp [propCells] at hue
  rcases hue with rfl | rfl <;> rfl
theorem rune_cells_one (xs : List Int) : ∀ u ∈ (xs.map runeCells).flatten, u.oneCell' = true := by
  intro u hu
  obtain ⟨e, he, hue⟩ := List.mem_flatten.1 hu
  obtain ⟨p, _, rfl⟩ := List.mem_map.1 he
  simp [runeCells] at hue
  subst hue
  rfl

/-- Behind the clones: the box, the result's place, the three slices. -/
def Cloned (w : World) (l : Bool) (ps : List (ByteArray × ByteArray)) (xs : List Int) (es : List (List Value)) (wx : World) : Prop :=
  ∃ pv tv kv : Value, wx.heap[w.heap.size]? = some (.cells #[.bool l, pv, tv, kv] 27 (0, 0)) ∧ wx.heap[w.heap.size + 1]? = some (.cells #[.bool false, .slice none 0 0, .slice none 0 0, .slice none 0 0] 27 (0, 0)) ∧
    OwnSl wx (w.heap.size + 2) 90 2 32 pv (ps.map propCells) ∧ OwnSl wx (w.heap.size + 2) 21 1 4 tv (xs.map runeCells) ∧ OwnSl wx (w.heap.size + 2) 27 4 80 kv es ∧ Below w.heap.size w wx

/-- The world in which the cloning begins. -/
abbrev copyW (w : World) (l : Bool) (v1 v2 v3 : Value) : World := (w.alloc (.cells #[.bool l, v1, v2, v3] 27)).alloc (.cells #[.bool false, .slice none 0 0, .slice none 0 0, .slice none 0 0] 27)

/-- A step of the cloning: the world later, with the facts on the box that the walk reads. -/
def Later (w : World) (l : Bool) (v1 v2 v3 : Value) (w' : World) : Prop := Below (copyW w l v1 v2 v3).heap.size (copyW w l v1 v2 v3) w'
def BoxFacts (g : Nat) (l : Bool) (v1 v2 v3 : Value) (w' : World) : Prop :=
  (w'.cell? ⟨g, 0, none⟩ = some (.bool l) ∧ w'.cell? ⟨g, 1, none⟩ = some v1 ∧ w'.cell? ⟨g, 2, none⟩ = some v2 ∧ w'.cell? ⟨g, 3, none⟩ = some v3) ∧
    (w'.frozen? ⟨g, 0, none⟩ = false ∧ w'.frozen? ⟨g, 1, none⟩ = false ∧ w'.frozen? ⟨g, 2, none⟩ = false ∧ w'.frozen? ⟨g, 3, none⟩ = false)
theorem boxFacts_of {w' : World} {g : Nat} {l : Bool} {v1 v2 v3 : Value} (h : w'.heap[g]? = some (.cells #[.bool l, v1, v2, v3] 27 (0, 0))) : BoxFacts g l v1 v2 v3 w' := by
  have hc := fun i => cell_of_row w' g i _ _ (0, 0) h
  refine ⟨⟨by rw [hc]; rfl, by rw [hc]; rfl, by rw [hc]; rfl, by rw [hc]; rfl⟩, ?_⟩
  simp [World.frozen?, h]
theorem Later.blocks {w : World} {l : Bool} {v1 v2 v3 : Value} {w' : World} (h : Later w l v1 v2 v3 w') : w'.heap[w.heap.size]? = some (.cells #[.bool l, v1, v2, v3] 27 (0, 0)) ∧
    w'.heap[w.heap.size + 1]? = some (.cells #[.bool false, .slice none 0 0, .slice none 0 0, .slice none 0 0] 27 (0, 0)) := by
  constructor
  · rw [Below.block h w.heap.size (by simp; omega), (gr_al (gr_refl (w.alloc (.cells #[.bool l, v1, v2, v3] 27))) _).block w.heap.size (by simp)]
    exact heap_alloc_new w _
  · rw [Below.block h (w.heap.size + 1) (by simp)]
    have := heap_alloc_new (w.alloc (.cells #[.bool l, v1, v2, v3] 27)) (.cells #[.bool false, .slice none 0 0, .slice none 0 0, .slice none 0 0] 27)
    simpa using this
theorem Later.facts {w : World} {l : Bool} {v1 v2 v3 : Value} {w' : World} (h : Later w l v1 v2 v3 w') : BoxFacts w.heap.size l v1 v2 v3 w' := boxFacts_of h.blocks.1
theorem Later.size {w : World} {l : Bool} {v1 v2 v3 : Value} {w' : World} (h : Later w l v1 v2 v3 w') : w.heap.size + 2 ≤ w'.heap.size := by
  have := Below.size h
  simpa using this
theorem Later.next {w : World} {l : Bool} {v1 v2 v3 : Value} {w' w'' : World} (h : Later w l v1 v2 v3 w') (hb : Below w'.heap.size w' w'') : Later w l v1 v2 v3 w'' := Below.trans h (hb.mono (Below.size h))

theorem clone_step1 {S : Nat → Prop} {w : World} {l : Bool} {v1 v2 v3 : Value} {ps : List (ByteArray × ByteArray)} (hp : PropsAt S w v1 ps) (w' : World) (h : Later w l v1 v2 v3 w') :
    Calls Try.prog 52 #[v1] w' fun e w'' => ∃ a n c, e = .returned (.slice a n c) ∧ OwnSl w'' (w.heap.size + 2) 90 2 32 (.slice a n c) (ps.map propCells) ∧ Below w'.heap.size w' w'' ∧ Later w l v1 v2 v3 w'' ∧ BoxFacts w.heap.size l v1 v2 v3 w'' := by
  have hp' : PropsAt S w' v1 ps := (hp.later (gr_al (gr_al (gr_refl w) _) _) (Nat.le_refl _)).later h (Nat.le_refl _)
  refine (clone_props _ S v1 w' hp' (prop_cells_one ps)).mono ?_
  rintro e w'' ⟨v', rfl, ho, hb⟩
  obtain ⟨a, c, rfl⟩ := (ho.sl (by decide)).slice
  exact ⟨a, _, c, rfl, ho.mono h.size, hb, h.next hb, (h.next hb).facts⟩
theorem clone_step2 {S : Nat → Prop} {w : World} {l : Bool} {v1 v2 v3 : Value} {xs : List Int} (hp : TextAt S w v2 xs) (w' : World) (h : Later w l v1 v2 v3 w') :
    Calls Try.prog 51 #[v2] w' fun e w'' => ∃ a n c, e = .returned (.slice a n c) ∧ OwnSl w'' (w.heap.size + 2) 21 1 4 (.slice a n c) (xs.map runeCells) ∧ Below w'.heap.size w' w'' ∧ Later w l v1 v2 v3 w'' ∧ BoxFacts w.heap.size l v1 v2 v3 w'' := by
  have hp' : TextAt S w' v2 xs := (hp.later (gr_al (gr_al (gr_refl w) _) _) (Nat.le_refl _)).later h (Nat.le_refl _)
  refine (clone_runes _ S v2 w' hp' (rune_cells_one xs)).mono ?_
  rintro e w'' ⟨v', rfl, ho, hb⟩
  obtain ⟨a, c, rfl⟩ := (ho.sl (by decide)).slice
  exact ⟨a, _, c, rfl, ho.mono h.size, hb, h.next hb, (h.next hb).facts⟩
theorem clone_step3 {S : Nat → Prop} {w : World} {l : Bool} {v1 v2 v3 : Value} {es : List (List Value)} (hp : Sl S w 4 80 v3 es) (ho : ∀ u ∈ es.flatten, u.oneCell' = true) (w' : World) (h : Later w l v1 v2 v3 w') :
    Calls Try.prog 66 #[v3] w' fun e w'' => ∃ a n c, e = .returned (.slice a n c) ∧ OwnSl w'' (w.heap.size + 2) 27 4 80 (.slice a n c) es ∧ Below w'.heap.size w' w'' ∧ Later w l v1 v2 v3 w'' ∧ BoxFacts w.heap.size l v1 v2 v3 w'' := by
  have hp' : Sl S w' 4 80 v3 es := (hp.later (gr_al (gr_al (gr_refl w) _) _) (Nat.le_refl _)).later h (Nat.le_refl _)
  refine (clone_nodes _ S v3 w' hp' ho).mono ?_
  rintro e w'' ⟨v', rfl, ho, hb⟩
  obtain ⟨a, c, rfl⟩ := (ho.sl (by decide)).slice
  exact ⟨a, _, c, rfl, ho.mono h.size, hb, h.next hb, (h.next hb).facts⟩

/-- The three stores into the box. -/
theorem box_stored {w' : World} {g : Nat} {l : Bool} {v1 v2 v3 u1 u2 u3 : Value} (h : w'.heap[g]? = some (.cells #[.bool l, v1, v2, v3] 27 (0, 0))) :
    (((w'.setCell ⟨g, 1, none⟩ u1).setCell ⟨g, 2, none⟩ u2).setCell ⟨g, 3, none⟩ u3).heap[g]? = some (.cells #[.bool l, u1, u2, u3] 27 (0, 0)) ∧
    ∀ b, b ≠ g → (((w'.setCell ⟨g, 1, none⟩ u1).setCell ⟨g, 2, none⟩ u2).setCell ⟨g, 3, none⟩ u3).heap[b]? = w'.heap[b]? := by
  constructor
  · simp [World.setCell, Array.getElem?_modify, h]
  · intro b hb
    simp [World.setCell, Array.getElem?_modify, Ne.symm hb]
theorem cloned_of {w w' : World} {l : Bool} {v1 v2 v3 u1 u2 u3 : Value} {ps : List (ByteArray × ByteArray)} {xs : List Int} {es : List (List Value)} (h : Later w l v1 v2 v3 w')
    (h1 : OwnSl w' (w.heap.size + 2) 90 2 32 u1 (ps.map propCells)) (h2 : OwnSl w' (w.heap.size + 2) 21 1 4 u2 (xs.map runeCells)) (h3 : OwnSl w' (w.heap.size + 2) 27 4 80 u3 es) :
    Cloned w l ps xs es (((w'.setCell ⟨w.heap.size, 1, none⟩ u1).setCell ⟨w.heap.size, 2, none⟩ u2).setCell ⟨w.heap.size, 3, none⟩ u3) := by
  obtain ⟨e1, e2⟩ := box_stored (u1 := u1) (u2 := u2) (u3 := u3) h.blocks.1
  have hne : ∀ {B : Nat} {e : TypeId} {size bytes : Nat} {v : Value} {es : List (List Value)}, OwnSl w' (w.heap.size + 2) e size bytes v es → ∀ g, v.ownBlock = some g → g ≠ w.heap.size := fun ho g hg => by have := (ho.lt g hg).1; omega
  refine ⟨u1, u2, u3, e1, by rw [e2 _ (by omega)]; exact h.blocks.2, h1.keep fun g hg => e2 g (hne (B := 0) h1 g hg), h2.keep fun g hg => e2 g (hne (B := 0) h2 g hg), h3.keep fun g hg => e2 g (hne (B := 0) h3 g hg), ?_⟩
  have hb : Below w.heap.size w w' := gr_tr (gr_al (gr_al (gr_refl w) _) _) h
  exact ((hb.setCell (p := ⟨w.heap.size, 1, none⟩) (Nat.le_refl _) _).setCell (p := ⟨w.heap.size, 2, none⟩) (Nat.le_refl _) _).setCell (p := ⟨w.heap.size, 3, none⟩) (Nat.le_refl _) _

/-- What holds at each round's head of the copying of the children. -/
def CopyInv (S : Nat → Prop) (w : World) (B : Nat) (l : Bool) (ps : List (ByteArray × ByteArray)) (xs : List Int) (ks : List Tree) (pv tv kv : Value) (k : Nat) (wr : World) : Prop :=
  ∃ es : List (List Value), wr.heap[w.heap.size]? = some (.cells #[.bool l, pv, tv, kv] 27 (0, 0)) ∧ wr.heap[w.heap.size + 1]? = some (.cells #[.bool false, .slice none 0 0, .slice none 0 0, .slice none 0 0] 27 (0, 0)) ∧
    OwnSl wr (w.heap.size + 2) 90 2 32 pv (ps.map propCells) ∧ OwnSl wr (w.heap.size + 2) 21 1 4 tv (xs.map runeCells) ∧ OwnSl wr (w.heap.size + 2) 27 4 80 kv es ∧
    es.length = ks.length ∧ Kids (fun b => S b ∧ b < w.heap.size) wr B k es ks ∧ B ≤ wr.heap.size ∧ Below w.heap.size w wr

theorem apart_of {w : World} {B C : Nat} {e f : TypeId} {s1 s2 b1 b2 : Nat} {v u : Value} {xs ys : List (List Value)} (h : OwnSl w B e s1 b1 v xs) (k : OwnSl w C f s2 b2 u ys) (hef : e ≠ f) : ∀ g, v.ownBlock = some g → u.ownBlock ≠ some g := by
  intro g hg hu
  rcases row_apart h.1 k.1 hef with h0 | h0
  · rw [h0] at hg
    cases hg
  · exact h0 (hg.trans hu.symm)

theorem copy_end {S : Nat → Prop} {w wr w' : World} {B : Nat} {l : Bool} {ps : List (ByteArray × ByteArray)} {xs : List Int} {ks : List Tree} {pv tv kv : Value} (h : CopyInv S w B l ps xs ks pv tv kv ks.length wr)
    (hP : ∀ g, pv.ownBlock = some g → g < B) (hT : ∀ g, tv.ownBlock = some g → g < B) (hK : ∀ g, kv.ownBlock = some g → g < B) (hB : w.heap.size + 2 ≤ B) (hw : ∀ b, b ≠ w.heap.size + 1 → w'.heap[b]? = wr.heap[b]?) :
    Tr w' (fun b => w.heap.size ≤ b) [.bool l, pv, tv, kv] (.mk l ps xs ks) := by
  obtain ⟨es, hb0, hb1, ho1, ho2, ho3, hle, ⟨Fi, h1, h2, h3, h4⟩, hBw, hbw⟩ := h
  have lt1 := ho1.lt
  have lt2 := ho2.lt
  have lt3 := ho3.lt
  have k1 : OwnSl w' (w.heap.size + 2) 90 2 32 pv (ps.map propCells) := ho1.keep fun g hg => hw g (by have := (lt1 g hg).1; omega)
  have k2 : OwnSl w' (w.heap.size + 2) 21 1 4 tv (xs.map runeCells) := ho2.keep fun g hg => hw g (by have := (lt2 g hg).1; omega)
  have k3 : OwnSl w' (w.heap.size + 2) 27 4 80 kv es := ho3.keep fun g hg => hw g (by have := (lt3 g hg).1; omega)
  have a1 := apart_of ho1 ho3 (by decide)
  have a2 := apart_of ho2 ho3 (by decide)
  refine .mk (Fp := fun b => pv.ownBlock = some b ∨ tv.ownBlock = some b) (Fi := Fi) ((k1.sl (by decide)).block _ fun b hb => .inl hb) ((k2.sl (by decide)).block _ fun b hb => .inr hb) (k3.mono (Nat.zero_le _)) hle ?_ ?_ ?_ h3 ?_
  · intro g hg
    refine ⟨by have := (lt3 g hg).1; omega, ?_, fun i hi hF => ?_⟩
    · rintro (h | h)
      · exact a1 g h hg
      · exact a2 g h hg
    · have := h2 i g hi hF
      have := hK g hg
      omega
  · rintro b (h | h)
    · have := (lt1 b h).1; omega
    · have := (lt2 b h).1; omega
  · intro i b hi hF
    have := h2 i b hi hF
    refine ⟨by omega, ?_⟩
    rintro (h | h)
    · have := hP b h; omega
    · have := hT b h; omega
  · intro i hi
    refine (h1 i hi).keep fun b hF => hw b ?_
    have := h2 i b hi hF
    omega

theorem four_block {w' : World} {g : Nat} {x0 x1 x2 x3 u0 u1 u2 u3 : Value} {t : TypeId} {fr : Nat × Nat} (h : w'.heap[g]? = some (.cells #[x0, x1, x2, x3] t fr)) :
    ((((w'.setCell ⟨g, 0, none⟩ u0).setCell ⟨g, 1, none⟩ u1).setCell ⟨g, 2, none⟩ u2).setCell ⟨g, 3, none⟩ u3).heap[g]? = some (.cells #[u0, u1, u2, u3] t fr) := by
  simp [World.setCell, Array.getElem?_modify, h]
/-- The four cells of the result, stored. -/
theorem four_stored {w' : World} {g : Nat} {u0 u1 u2 u3 : Value} : ∀ b, b ≠ g → ((((w'.setCell ⟨g, 0, none⟩ u0).setCell ⟨g, 1, none⟩ u1).setCell ⟨g, 2, none⟩ u2).setCell ⟨g, 3, none⟩ u3).heap[b]? = w'.heap[b]? := by
  intro b hb
  simp [World.setCell, Array.getElem?_modify, Ne.symm hb]

theorem copy_next {S : Nat → Prop} {w wr V w1 : World} {B k g n c : Nat} {l : Bool} {ps : List (ByteArray × ByteArray)} {xs : List Int} {ks : List Tree} {pv tv : Value} {es : List (List Value)} {u0 u1 u2 u3 : Value}
    (hb0 : wr.heap[w.heap.size]? = some (.cells #[.bool l, pv, tv, .slice (some ⟨g, 0, none⟩) n c] 27 (0, 0))) (hb1 : wr.heap[w.heap.size + 1]? = some (.cells #[.bool false, .slice none 0 0, .slice none 0 0, .slice none 0 0] 27 (0, 0)))
    (ho1 : OwnSl wr (w.heap.size + 2) 90 2 32 pv (ps.map propCells)) (ho2 : OwnSl wr (w.heap.size + 2) 21 1 4 tv (xs.map runeCells)) (ho3 : OwnSl wr (w.heap.size + 2) 27 4 80 (.slice (some ⟨g, 0, none⟩) n c) es)
    (hl : es.length = ks.length) (hk : Kids (fun b => S b ∧ b < w.heap.size) wr B k es ks) (hB : B ≤ wr.heap.size) (hbw : Below w.heap.size w wr) (hkn : k < n) (hn : es.length = n)
    (hg : g < B) (hV : Below wr.heap.size wr V) (hb : Below V.heap.size V w1) (ht : Tr w1 (fun b => V.heap.size ≤ b) [u0, u1, u2, u3] (ks.getD k default)) :
    CopyInv S w B l ps xs ks pv tv (.slice (some ⟨g, 0, none⟩) n c) (k + 1) (set4 w1 g (k * 4) u0 u1 u2 u3) := by
  have hw1 : Below wr.heap.size wr w1 := gr_tr hV hb
  have h4 := set4_heap (w := w1) (g := g) (o := k * 4) (u0 := u0) (u1 := u1) (u2 := u2) (u3 := u3)
  have lt0 := lt_of_block hb0
  have lt1 := lt_of_block hb1
  have hgl := (ho3.lt g rfl).1
  have a1 := apart_of ho1 ho3 (by decide)
  have a2 := apart_of ho2 ho3 (by decide)
  have hkk : k < ks.length := by omega
  have hsz := hw1.size
  refine ⟨es.set k [u0, u1, u2, u3], ?_, ?_, ?_, ?_, ?_, by simpa using hl, ?_, ?_, ?_⟩
  · rw [h4 _ (by omega), hw1.block _ lt0, hb0]
  · rw [h4 _ (by omega), hw1.block _ lt1, hb1]
  · exact (ho1.later hw1 (Nat.le_refl _)).keep fun b hb => h4 b (fun h => a1 b hb (by rw [h]; rfl))
  · exact (ho2.later hw1 (Nat.le_refl _)).keep fun b hb => h4 b (fun h => a2 b hb (by rw [h]; rfl))
  · exact (ho3.later hw1 (Nat.le_refl _)).set4 k hkn _ _ _ _
  · exact (hk.later hV).next hkk hl (Nat.le_trans hB hV.size) hb ht h4 set4_size hg fun b hb => ⟨by omega, Nat.lt_of_lt_of_le (Nat.lt_trans hb.2 lt0) hV.size⟩
  · rw [set4_size]
    omega
  · exact set4_below (gr_tr hbw hw1) (by omega)

/-- The facts that the walk reads behind the copying of one child. -/
def KidFacts (b k nb : Nat) (g o : Nat) (v3 x0 x1 x2 x3 : Value) (w : World) : Prop :=
  w.cell? ⟨b, 3, none⟩ = some v3 ∧ (w.cell? ⟨nb, 0, none⟩ = some x0 ∧ w.cell? ⟨nb, 1, none⟩ = some x1 ∧ w.cell? ⟨nb, 2, none⟩ = some x2 ∧ w.cell? ⟨nb, 3, none⟩ = some x3) ∧
    (w.cell? ⟨g, o, none⟩ = some x0 ∧ w.cell? ⟨g, o + 1, none⟩ = some x1 ∧ w.cell? ⟨g, o + 2, none⟩ = some x2 ∧ w.cell? ⟨g, o + 3, none⟩ = some x3) ∧
    (w.frozen? ⟨g, o, none⟩ = false ∧ w.frozen? ⟨g, o + 1, none⟩ = false ∧ w.frozen? ⟨g, o + 2, none⟩ = false ∧ w.frozen? ⟨g, o + 3, none⟩ = false) ∧ k = k
theorem KidFacts.later {b k nb g o : Nat} {v3 x0 x1 x2 x3 : Value} {w w' : World} (h : KidFacts b k nb g o v3 x0 x1 x2 x3 w) (hb : Below w.heap.size w w') : KidFacts b k nb g o v3 x0 x1 x2 x3 w' := by
  obtain ⟨h1, ⟨h2, h3, h4, h5⟩, ⟨h6, h7, h8, h9⟩, ⟨h10, h11, h12, h13⟩, _⟩ := h
  have lb := World.block_lt_of_cell? w _ h1
  have ln := World.block_lt_of_cell? w _ h2
  have lg := World.block_lt_of_cell? w _ h6
  have cb := box3 hb (g := b) lb
  have cn := box3 hb (g := nb) ln
  have cg := box3 hb (g := g) lg
  exact ⟨by rw [cb.1, h1], ⟨by rw [cn.1, h2], by rw [cn.1, h3], by rw [cn.1, h4], by rw [cn.1, h5]⟩, ⟨by rw [cg.1, h6], by rw [cg.1, h7], by rw [cg.1, h8], by rw [cg.1, h9]⟩, ⟨by rw [cg.2, h10], by rw [cg.2, h11], by rw [cg.2, h12], by rw [cg.2, h13]⟩, rfl⟩

theorem held_set4 {w1 : World} {g o b : Nat} {u0 u1 u2 u3 : Value} (hne : g ≠ b) (i : Nat) : (set4 w1 g o u0 u1 u2 u3).cell? ⟨b, i, none⟩ = w1.cell? ⟨b, i, none⟩ :=
  World.cell?_of_block (a := ⟨b, i, none⟩) (set4_heap b (Ne.symm hne))

/-- A child's copying, in the world at hand. -/
def CopiedK (kid : Tree) (b k g : Nat) (v3 x0 x1 x2 x3 : Value) (nb : Nat) (V : World) (e : Ending) (w1 : World) : Prop :=
  ∃ (lk : Bool) (a1 : Option Addr) (n1 c1 : Nat) (a2 : Option Addr) (n2 c2 : Nat) (a3 : Option Addr) (n3 c3 : Nat), e = .returned (.agg #[.bool lk, .slice a1 n1 c1, .slice a2 n2 c2, .slice a3 n3 c3]) ∧
    Tr w1 (fun b => V.heap.size ≤ b) [.bool lk, .slice a1 n1 c1, .slice a2 n2 c2, .slice a3 n3 c3] kid ∧ Below V.heap.size V w1 ∧ KidFacts b k nb g (k * 4) v3 x0 x1 x2 x3 w1
theorem copiedK_of {kid : Tree} {b k g : Nat} {v3 x0 x1 x2 x3 : Value} {nb : Nat} {V : World} (hf : KidFacts b k nb g (k * 4) v3 x0 x1 x2 x3 V) {f : FuncId} {args : Array Value} (h : Calls Try.prog f args V (Copied kid V)) :
    Calls Try.prog f args V (CopiedK kid b k g v3 x0 x1 x2 x3 nb V) := h.mono fun e w1 ⟨cs, he, ht, hb⟩ => by
  obtain ⟨a1, n1, c1, a2, n2, c2, a3, n3, c3, hc⟩ := ht.nodeAt.form
  subst hc
  exact ⟨_, _, _, _, _, _, _, _, _, _, he, ht, hb, hf.later hb⟩

set_option maxHeartbeats 4000000 in
theorem copy_any : ∀ (t : Tree) (cs : List Value) (S : Nat → Prop) (w : World), NodeAt S w cs t → Calls Try.prog 53 #[.agg cs.toArray] w (Copied t w) := by
  refine Tree.ind fun l ps xs ks ih => ?_
  intro cs S w h
  have IH := Lib.hid ih
  clear ih
  cases h with
  | @mk _ _ _ _ pv tv kv es hp ht hk hl hall =>
  have o3 := node_cells_one hl hall
  obtain ⟨a1, n1, c1, rfl⟩ := hp.slice3
  obtain ⟨a2, n2, c2, rfl⟩ := ht.slice3
  obtain ⟨a3, n3, c3, rfl⟩ := hk.slice3
  have H1 := Lib.hid (clone_step1 (w := w) (l := l) (v2 := .slice a2 n2 c2) (v3 := .slice a3 n3 c3) hp)
  have H2 := Lib.hid (clone_step2 (w := w) (l := l) (v1 := .slice a1 n1 c1) (v3 := .slice a3 n3 c3) ht)
  have H3 := Lib.hid (clone_step3 (w := w) (l := l) (v1 := .slice a1 n1 c1) (v2 := .slice a2 n2 c2) hk o3)
  have HL : Hid (Later w l (.slice a1 n1 c1) (.slice a2 n2 c2) (.slice a3 n3 c3) (copyW w l (.slice a1 n1 c1) (.slice a2 n2 c2) (.slice a3 n3 c3))) := by
    show Later _ _ _ _ _ _
    exact Below.refl _ _
  have HA := Lib.hid hall; have HLL := Lib.hid hl
  clear o3 hp ht hk hall hl
  go_enter Try.func53, Try.ntmps53
  go_upto_region 1 with fail
  go_cut [] (fun wx => Cloned w l ps xs es wx)
  case first =>
    obtain ⟨f1, f2⟩ := HL.out.facts
    obtain ⟨c0, c1', c2', c3'⟩ := f1
    obtain ⟨g0, g1, g2, g3⟩ := f2
    have hLater : Later w l (.slice a1 n1 c1) (.slice a2 n2 c2) (.slice a3 n3 c3) (World.drew (copyW w l (.slice a1 n1 c1) (.slice a2 n2 c2) (.slice a3 n3 c3))) := Below.drew HL.out
    unfold copyW at c0 c1' c2' c3' g0 g1 g2 g3 hLater
    clear HL
    generalize ((w.alloc _).alloc _) = W at *
    go_region_with (first
      | (go_at_call 52; refine (H1.out _ hLater).mono ?_; clear c0 c1' c2' c3' g0 g1 g2 g3 hLater; rintro e w1 ⟨p1, q1, r1, rfl, ho1, hb1, hLater, ⟨c0, c1', c2', c3'⟩, ⟨g0, g1, g2, g3⟩⟩)
      | (go_at_call 51; refine (H2.out _ hLater).mono ?_; clear c0 c1' c2' c3' g0 g1 g2 g3 hLater; rintro e w2 ⟨p2, q2, r2, rfl, ho2, hb2, hLater, ⟨c0, c1', c2', c3'⟩, ⟨g0, g1, g2, g3⟩⟩)
      | (go_at_call 66; refine (H3.out _ hLater).mono ?_; clear c0 c1' c2' c3' g0 g1 g2 g3 hLater; rintro e w3 ⟨p3, q3, r3, rfl, ho3, hb3, hLater, ⟨c0, c1', c2', c3'⟩, ⟨g0, g1, g2, g3⟩⟩))
    all_goals (go_wp2_with fail; go_meet; exact cloned_of hLater ((ho1.later hb2 (Nat.le_refl _)).later hb3 (Nat.le_refl _)) (ho2.later hb3 (Nat.le_refl _)) ho3)
  case rest =>
    obtain ⟨pv, tv, kv, hb0, hb1, ho1, ho2, ho3, hbw⟩ := hcut
    clear H1 H2 H3 HL
    obtain ⟨⟨k0, k1, k2, k3⟩, ⟨m0, m1, m2, m3⟩⟩ := boxFacts_of hb0
    obtain ⟨pa, pc, rfl⟩ := (ho1.sl (by decide)).slice
    obtain ⟨ta, tc, rfl⟩ := (ho2.sl (by decide)).slice
    obtain ⟨ka, kc, rfl⟩ := (ho3.sl (by decide)).slice
    have hl := HLL.out
    have hI : CopyInv S w wc.heap.size l ps xs ks (.slice pa (ps.map propCells).length pc) (.slice ta (xs.map runeCells).length tc) (.slice ka es.length kc) 0 wc :=
      ⟨es, hb0, hb1, ho1, ho2, ho3, hl, Kids.start fun i hi => (HA.out i hi).there.later hbw (Nat.le_refl _), Nat.le_refl _, hbw⟩
    have HI := Lib.hid hI
    have HP := Lib.hid (fun g hg => (ho1.lt g hg).2)
    have HT := Lib.hid (fun g hg => (ho2.lt g hg).2)
    have HK := Lib.hid (fun g hg => (ho3.lt g hg).2)
    have hn := ho3.2.1
    generalize hN : es.length = n at *
    have HN := Lib.hid hN
    have HB1 := Lib.hid hb1
    clear hb0 hb1 ho1 ho2 ho3 hbw hI hl hN HA
    obtain ⟨Bz, hBz⟩ : ∃ B, wc.heap.size = B := ⟨_, rfl⟩
    rw [hBz] at HI HP HT HK
    have HB := Lib.hid hBz
    have HZ : Hid (w.heap.size + 2 ≤ Bz) := by
      show _ ≤ _
      rw [← hBz]
      exact lt_of_block HB1.out
    clear hBz
    go_wp2_with fail
    go_loopw [20] (fun i wr => ∃ k : Nat, k ≤ n ∧ i = .int .i64 k ∧ CopyInv S w Bz l ps xs ks (.slice pa (ps.map propCells).length pc) (.slice ta (xs.map runeCells).length tc) (.slice ka n kc) k wr) (fun i _ => n - (intOf i).toNat)
    case atStart => exact ⟨0, Nat.zero_le _, rfl, HI.out⟩
    case round =>
      obtain ⟨k, hk, rfl, es', hb0, hb1, ho1, ho2, ho3, hle, hkids, hBw, hbw⟩ := hrel
      clear k0 k1 k2 k3 m0 m1 m2 m3 HI
      by_cases hlt : k < n
      · obtain ⟨g, rfl, hnc, hgB, hgs, hlen, hr, hth, h4⟩ := ho3.at_ (by decide) k hlt
        have hkid := hkids.rest k (Nat.le_refl _) (by have := HLL.out; omega)
        obtain ⟨a1', n1', c1', a2', n2', c2', a3', n3', c3', hform⟩ := hkid.form
        rw [hform] at hr hkid
        obtain ⟨e0, e1, e2, e3⟩ := range4 hr
        obtain ⟨z0, z1, z2, z3⟩ := there4 hth
        obtain ⟨⟨k0, k1, k2, k3⟩, ⟨m0, m1, m2, m3⟩⟩ := boxFacts_of hb0
        have H0 := Lib.hid hb0; have H1 := Lib.hid hb1; have HLE := Lib.hid hle; have HLN := Lib.hid hlen; have HO1 := Lib.hid ho1; have HO2 := Lib.hid ho2; have HO3 := Lib.hid ho3
        have HKD := Lib.hid hkids; have HKI := Lib.hid hkid; have HBW := Lib.hid hbw
        clear hb0 hb1 hle hlen ho1 ho2 ho3 hkids hkid hbw hform hr hth h4
        generalize (ks.getD k default).leaf = lk at *
        have hV : Below wr.heap.size wr (wr.alloc (.cells #[.bool lk, .slice a1' n1' c1', .slice a2' n2' c2', .slice a3' n3' c3'] 27)) := gr_al (gr_refl wr) _
        have hvb := heap_alloc_new wr (.cells #[.bool lk, .slice a1' n1' c1', .slice a2' n2' c2', .slice a3' n3' c3'] 27)
        obtain ⟨⟨y0, y1, y2, y3⟩, _⟩ := boxFacts_of hvb
        have hbx := box3 hV (lt_of_block H0.out)
        have hbg := box3 hV hgs
        have hF : KidFacts w.heap.size k wr.heap.size g (k * 4) (.slice (some ⟨g, 0, none⟩) n kc) (.bool lk) (.slice a1' n1' c1') (.slice a2' n2' c2') (.slice a3' n3' c3') (wr.alloc (.cells #[.bool lk, .slice a1' n1' c1', .slice a2' n2' c2', .slice a3' n3' c3'] 27)) :=
          ⟨by rw [hbx.1, k3], ⟨y0, y1, y2, y3⟩, ⟨by rw [hbg.1, e0], by rw [hbg.1, e1], by rw [hbg.1, e2], by rw [hbg.1, e3]⟩, ⟨by rw [hbg.2, z0], by rw [hbg.2, z1], by rw [hbg.2, z2], by rw [hbg.2, z3]⟩, rfl⟩
        have hkm : ks.getD k default ∈ ks := by
          have : k < ks.length := by have := HLL.out; omega
          simp [this]
        have HC := Lib.hid (copiedK_of (V := World.drew (wr.alloc (.cells #[.bool lk, .slice a1' n1' c1', .slice a2' n2' c2', .slice a3' n3' c3'] 27))) (hF.later (gr_dr (gr_refl _))) (IH.out (ks.getD k default) hkm _ _ (World.drew (wr.alloc (.cells #[.bool lk, .slice a1' n1' c1', .slice a2' n2' c2', .slice a3' n3' c3'] 27))) ((HKI.out.later hV (Nat.le_refl _)).later (gr_dr (gr_refl _)) (Nat.le_refl _))))
        have HV := Lib.hid hV
        have HF := Lib.hid hF
        clear hV hvb hbx hbg hF hkm y0 y1 y2 y3
        go_wp2_with fail
        have hf := HF.out.later (gr_dr (gr_refl _))
        clear e0 e1 e2 e3 z0 z1 z2 z3 k0 k1 k2 k3 m0 m1 m2 m3 HF
        obtain ⟨k3, ⟨y0, y1, y2, y3⟩, ⟨e0, e1, e2, e3⟩, ⟨z0, z1, z2, z3⟩, _⟩ := hf
        have hn1 : g ≠ w.heap.size := by omega
        have hn2 : g ≠ wr.heap.size := by omega
        generalize wr.alloc _ = V at *
        go_region_held3 (fun w' => w'.cell? ⟨w.heap.size, 3, none⟩ = some (.slice (some ⟨g, 0, none⟩) n kc) ∧ w'.cell? ⟨wr.heap.size, 0, none⟩ = some (.bool lk) ∧ w'.cell? ⟨wr.heap.size, 1, none⟩ = some (.slice a1' n1' c1') ∧ w'.cell? ⟨wr.heap.size, 2, none⟩ = some (.slice a2' n2' c2') ∧ w'.cell? ⟨wr.heap.size, 3, none⟩ = some (.slice a3' n3' c3')) (first | exact ⟨k3, y0, y1, y2, y3⟩ | exact ⟨(held_set4 hn1 3).trans k3, (held_set4 hn2 0).trans y0, (held_set4 hn2 1).trans y1, (held_set4 hn2 2).trans y2, (held_set4 hn2 3).trans y3⟩)
          (first | (go_at_call 53; refine HC.out.mono ?_; clear k3 y0 y1 y2 y3 e0 e1 e2 e3 z0 z1 z2 z3; rintro e w1 ⟨lk', b1, o1, d1, b2, o2, d2, b3, o3, d3, rfl, ht, hb, k3, ⟨y0, y1, y2, y3⟩, ⟨e0, e1, e2, e3⟩, ⟨z0, z1, z2, z3⟩, _⟩))
        have hN := copy_next (S := S) (V := World.drew V) H0.out H1.out HO1.out HO2.out HO3.out HLE.out HKD.out hBw HBW.out hlt HLN.out (HK.out g rfl) (gr_dr HV.out) hb ht
        have HN2 := Lib.hid hN
        clear hN ht hb
        go_wp2_with fail
        go_roundw
        case rel => exact ⟨k + 1, by omega, by go_num, HN2.out⟩
        case measure => simp [intOf]; omega
      · have hkn : k = n := by omega
        subst hkn
        clear hlt
        obtain ⟨⟨k0, k1, k2, k3⟩, ⟨m0, m1, m2, m3⟩⟩ := boxFacts_of hb0
        obtain ⟨⟨k0', k1', k2', k3'⟩, ⟨m0', m1', m2', m3'⟩⟩ := boxFacts_of hb1
        have H0 := Lib.hid hb0; have H1 := Lib.hid hb1; have HLE := Lib.hid hle
        clear hb0 hb1 hle
        go_wp2_with fail
        have hfb := four_block (u0 := .bool l) (u1 := .slice pa ps.length pc) (u2 := .slice ta xs.length tc) (u3 := .slice ka k kc) H1.out
        have hfs := four_stored (w' := wr) (g := w.heap.size + 1) (u0 := .bool l) (u1 := .slice pa ps.length pc) (u2 := .slice ta xs.length tc) (u3 := .slice ka k kc)
        have hfw : Below w.heap.size w ((((wr.setCell ⟨w.heap.size + 1, 0, none⟩ (.bool l)).setCell ⟨w.heap.size + 1, 1, none⟩ (.slice pa ps.length pc)).setCell ⟨w.heap.size + 1, 2, none⟩ (.slice ta xs.length tc)).setCell ⟨w.heap.size + 1, 3, none⟩ (.slice ka k kc)) :=
          (((hbw.setCell (p := ⟨w.heap.size + 1, 0, none⟩) (by simp) _).setCell (p := ⟨w.heap.size + 1, 1, none⟩) (by simp) _).setCell (p := ⟨w.heap.size + 1, 2, none⟩) (by simp) _).setCell (p := ⟨w.heap.size + 1, 3, none⟩) (by simp) _
        obtain ⟨⟨j0, j1, j2, j3⟩, _⟩ := boxFacts_of hfb
        generalize ((((wr.setCell ⟨w.heap.size + 1, 0, none⟩ (.bool l)).setCell ⟨w.heap.size + 1, 1, none⟩ (.slice pa ps.length pc)).setCell ⟨w.heap.size + 1, 2, none⟩ (.slice ta xs.length tc)).setCell ⟨w.heap.size + 1, 3, none⟩ (.slice ka k kc)) = wf at *
        refine bodyPost_ret (v := .agg #[.bool l, .slice pa ps.length pc, .slice ta xs.length tc, .slice ka k kc]) (by simp [results, Try.results53, go_sem, j0, j1, j2, j3]) rfl ?_
        refine ⟨[.bool l, .slice pa ps.length pc, .slice ta xs.length tc, .slice ka k kc], rfl, ?_, hfw⟩
        have hkl := HLL.out
        have hpl : (ps.map propCells).length = ps.length := by simp
        have htl : (xs.map runeCells).length = xs.length := by simp
        have hBz : w.heap.size + 2 ≤ Bz := HZ.out
        rw [hpl] at HP H0 ho1
        rw [htl] at HT H0 ho2
        subst hkl
        exact copy_end (B := Bz) ⟨es', H0.out, H1.out, ho1, ho2, ho3, HLE.out, hkids, hBw, hbw⟩ HP.out HT.out HK.out hBz hfs
end Go.Proofs.Ytcbljiiomnhbjaa
