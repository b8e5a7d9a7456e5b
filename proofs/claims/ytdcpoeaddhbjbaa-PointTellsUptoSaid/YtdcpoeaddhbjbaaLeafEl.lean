/- Walks of redlineref04.Leaf, Elem. -/
import Derived.Test.YtdcpoeaddhbjbaaLast
import Derived.Laws.IdiomStrings
namespace Go.Proofs.Ytdcpoeaddhbjbaa
set_option maxRecDepth 100000
open Go.RowKit

/-- What a function leaves that makes a tree. -/
def Made (S : Nat → Prop) (t : Tree) (w : World) (e : Ending) (w' : World) : Prop := ∃ (l : Bool) (a1 : Option Addr) (n1 c1 : Nat) (a2 : Option Addr) (n2 c2 : Nat) (a3 : Option Addr) (n3 c3 : Nat), e = .returned (.agg #[.bool l, .slice a1 n1 c1, .slice a2 n2 c2, .slice a3 n3 c3]) ∧
    NodeAt S w' [.bool l, .slice a1 n1 c1, .slice a2 n2 c2, .slice a3 n3 c3] t ∧ Below w.heap.size w w'

theorem runes_at (w : World) (B cap : Nat) (rs : List Int) (h : rs.length ≤ cap) (hm : cap ≤ maxLen) (hs : rs.length ≤ 1000000) (hB : B ≤ w.heap.size) :
    TextAt (fun b => B ≤ b) (w.alloc (.cells ((rs.map (Value.int .i32)).toArray ++ Array.replicate (cap - rs.length) (.int .i32 0)) 21)) (.slice (some ⟨w.heap.size, 0, none⟩) rs.length cap) rs := by
  refine ⟨_, cap, by rw [List.length_map], by simpa using h, hm, by simp; omega, ?_, fun _ => ⟨w.heap.size, 0, rfl, fun j hj => ⟨hB, ?_⟩⟩⟩
  · intro e he
    obtain ⟨x, _, rfl⟩ := List.mem_map.1 he
    rfl
  · simp only [List.length_map] at hj
    intro k u hu
    have : (rs.map runeCells).getD j [] = [.int .i32 (rs[j])] := by simp [hj, runeCells]
    rw [this] at hu
    have hk : k = 0 := by
      have := (List.getElem?_eq_some_iff.1 hu).1
      simpa using this
    subst hk
    simp only [List.getElem?_cons_zero, Option.some.injEq] at hu
    subst hu
    rw [cell_of_row _ w.heap.size _ _ _ (0, 0) (heap_alloc_new w _)]
    simp [Array.getElem?_append, hj]

set_option maxHeartbeats 1000000 in
theorem leaf_any (s : ByteArray) (rs : List Int) (hr : Conv.runesFrom s s.size 0 #[] = (rs.map (Value.int .i32)).toArray) (hl : rs.length ≤ 1000000) (w : World) :
    Calls Try.prog 63 #[.string s, .slice none 0 0] w (Made (fun b => w.heap.size ≤ b) (.mk true [] rs []) w) := by
  have hz : (Conv.runesFrom s s.size 0 #[]).size = rs.length := by rw [hr]; simp
  have hcv := fun (w : World) => run_runes_of_string (P := Try.prog) w 9 23 21 s Try.underlying9 Try.underlying23 Try.underlying21 (by rw [hz]; omega)
  simp only [hr, List.size_toArray, List.length_map] at hcv
  have HL := Lib.hid hl
  have G1 := Lib.hid (fun W : World => grownCap_ge W rs.length 0 21)
  have G2 := Lib.hid (fun W : World => grownCap_le_maxLen W rs.length 0 21 (by unfold maxLen; omega))
  clear hr hz hl
  go_enter Try.func63, Try.ntmps63
  go_wp2_with fail
  have g1 := G1.out (w.alloc (.cells #[.bool false, .slice none 0 0, .slice none 0 0, .slice none 0 0] 26))
  have g2 := G2.out (w.alloc (.cells #[.bool false, .slice none 0 0, .slice none 0 0, .slice none 0 0] 26))
  clear hcv G1 G2
  generalize grownCap _ _ _ _ = cap at *
  have hbl := gr_dr (gr_al (gr_al (gr_refl w) (.cells #[.bool true, .slice none 0 0, .slice (some ⟨w.heap.size + 1, 0, none⟩) rs.length cap, .slice none 0 0] 26)) (.cells ((rs.map (Value.int .i32)).toArray ++ Array.replicate (cap - rs.length) (.int .i32 0)) 21))
  have htx := runes_at (w.alloc (.cells #[.bool true, .slice none 0 0, .slice (some ⟨w.heap.size + 1, 0, none⟩) rs.length cap, .slice none 0 0] 26)) w.heap.size cap rs g1 g2 HL.out (by simp)
  rw [show (w.alloc (.cells #[.bool true, .slice none 0 0, .slice (some ⟨w.heap.size + 1, 0, none⟩) rs.length cap, .slice none 0 0] 26)).heap.size = w.heap.size + 1 by simp] at htx
  have hblk := blk_below (heap_alloc_new w (.cells #[.bool true, .slice none 0 0, .slice (some ⟨w.heap.size + 1, 0, none⟩) rs.length cap, .slice none 0 0] 26)) (gr_dr (gr_al (gr_refl _) (.cells ((rs.map (Value.int .i32)).toArray ++ Array.replicate (cap - rs.length) (.int .i32 0)) 21)))
  have htx2 := htx.later (gr_dr (gr_refl _)) (Nat.le_refl _)
  clear htx
  generalize World.drew (World.alloc (World.alloc w _) _) = wf at *
  obtain ⟨⟨j0, j1, j2, j3⟩, _⟩ := four_facts hblk
  refine bodyPost_ret (v := .agg #[.bool true, .slice none 0 0, .slice (some ⟨w.heap.size + 1, 0, none⟩) rs.length cap, .slice none 0 0]) (by simp [results, Try.results63, go_sem, j0, j1, j2, j3]) rfl ?_
  exact ⟨_, _, _, _, _, _, _, _, _, _, rfl, .mk (Sl.nil _ _ _ _) htx2 (Sl.nil _ _ _ _) rfl (fun i hi => by simp at hi), hbl⟩

/-- The name of the property that tells an element's type. -/
def typeS : ByteArray := ⟨#[116, 121, 112, 101]⟩

set_option maxHeartbeats 1000000 in
theorem elem_any (kind : ByteArray) (hk : (!kind.toList.isEmpty) = true) (v : Value) (es : List (List Value)) (ks : List Tree) (w : World) (h : Sl Any w 4 80 v es) (hl : es.length = ks.length) (hall : ∀ i, i < ks.length → NodeAt Any w (es.getD i []) (ks.getD i default)) :
    Calls Try.prog 62 #[.string kind, v] w (Made Any (.mk false [(typeS, kind)] [] ks) w) := by
  obtain ⟨a, c, rfl⟩ := h.slice
  have HS := Lib.hid h; have HL := Lib.hid hl; have HA := Lib.hid hall
  clear h hl hall
  go_enter Try.func62, Try.ntmps62
  go_wp2_with fail
  have hbl := gr_al (gr_al (gr_al (gr_refl w) (.cells #[.bool false, .slice (some ⟨w.heap.size + 1 + 1, 0, none⟩) 1 1, .slice none 0 0, .slice a es.length c] 26)) (.cells #[.bool false, .slice (some ⟨w.heap.size + 1 + 1, 0, none⟩) 1 1, .slice none 0 0, .slice a es.length c] 26)) (.cells #[.string ⟨#[116, 121, 112, 101]⟩, .string kind] 101)
  have hblk := blk_below (blk_below (heap_alloc_new w (.cells #[.bool false, .slice (some ⟨w.heap.size + 1 + 1, 0, none⟩) 1 1, .slice none 0 0, .slice a es.length c] 26)) (gr_al (gr_refl _) (.cells #[.bool false, .slice (some ⟨w.heap.size + 1 + 1, 0, none⟩) 1 1, .slice none 0 0, .slice a es.length c] 26))) (gr_al (gr_refl _) (.cells #[.string ⟨#[116, 121, 112, 101]⟩, .string kind] 101))
  have hpr := heap_alloc_new ((w.alloc (.cells #[.bool false, .slice (some ⟨w.heap.size + 1 + 1, 0, none⟩) 1 1, .slice none 0 0, .slice a es.length c] 26)).alloc (.cells #[.bool false, .slice (some ⟨w.heap.size + 1 + 1, 0, none⟩) 1 1, .slice none 0 0, .slice a es.length c] 26)) (.cells #[.string ⟨#[116, 121, 112, 101]⟩, .string kind] 101)
  rw [show ((w.alloc (.cells #[.bool false, .slice (some ⟨w.heap.size + 1 + 1, 0, none⟩) 1 1, .slice none 0 0, .slice a es.length c] 26)).alloc (.cells #[.bool false, .slice (some ⟨w.heap.size + 1 + 1, 0, none⟩) 1 1, .slice none 0 0, .slice a es.length c] 26)).heap.size = w.heap.size + 1 + 1 by simp] at hpr
  have HA2 := Lib.hid (fun i hi => (HA.out i hi).boxed hbl)
  have HS2 := Lib.hid (HS.out.later hbl (Nat.le_refl _))
  generalize World.alloc (World.alloc (World.alloc w _) _) _ = wf at *
  obtain ⟨⟨j0, j1, j2, j3⟩, _⟩ := four_facts hblk
  refine bodyPost_ret (v := .agg #[.bool false, .slice (some ⟨w.heap.size + 1 + 1, 0, none⟩) 1 1, .slice none 0 0, .slice a es.length c]) (by simp [results, Try.results62, go_sem, j0, j1, j2, j3]) rfl ?_
  refine ⟨_, _, _, _, _, _, _, _, _, _, rfl, .mk ?_ (Sl.nil _ _ _ _) HS2.out HL.out HA2.out, hbl⟩
  refine ⟨_, 1, rfl, Nat.le_refl _, by unfold maxLen; decide, by simp, by simp [propCells], fun _ => ⟨w.heap.size + 1 + 1, 0, rfl, fun j hj => ⟨trivial, fun k u hu => ?_⟩⟩⟩
  have hj0 : j = 0 := by simpa using hj
  subst hj0
  rw [cell_of_row _ (w.heap.size + 1 + 1) _ _ _ (0, 0) hpr]
  simp only [List.map_cons, List.map_nil, List.getD_cons_zero, propCells, typeS, Nat.zero_mul, Nat.zero_add] at hu ⊢
  simpa using hu
end Go.Proofs.Ytdcpoeaddhbjbaa
