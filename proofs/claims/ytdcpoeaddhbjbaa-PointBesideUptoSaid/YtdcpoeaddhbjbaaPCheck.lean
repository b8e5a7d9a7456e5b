/- Walk of point.Check: whether a point may be. -/
import Derived.Test.YtdcpoeaddhbjbaaGet
namespace Go.Proofs.Ytdcpoeaddhbjbaa
set_option maxRecDepth 100000
open Go.RowKit

/-- Whether a point may be, or why not. -/
def checkT (t : Tree) (p : List Int) (off : Int) : Int :=
  match getT t p with
  | none => 5
  | some s => if s.leaf = false then 7 else if off < 0 ∨ (s.text.length : Int) < off then 8 else 0

theorem NodeAt.boxed {S : Nat → Prop} {w w' : World} {cs : List Value} {t : Tree} (h : NodeAt S w cs t) (hb : Below w.heap.size w w') : NodeAt S w' cs t := h.later hb (Nat.le_refl _)

set_option maxHeartbeats 1000000 in
theorem pcheck_any (S : Nat → Prop) (t : Tree) (cs : List Value) (p : List Int) (off : Int) (v : Value) (w : World) (h : NodeAt S w cs t) (hp : Ints w v p) (hi : I64 p) :
    Calls Try.prog 18 #[.agg (Array.mk cs), .agg #[v, .int .i64 off]] w fun e w' => e = .returned (.int .i64 (checkT t p off)) ∧ Below w.heap.size w w' := by
  obtain ⟨a1, n1, c1, a2, n2, c2, a3, n3, c3, rfl⟩ := h.form
  obtain ⟨av, nv, cv, rfl⟩ := hp.slice3
  have hbw := gr_al (gr_al (gr_refl w) (.cells #[.bool t.leaf, .slice a1 n1 c1, .slice a2 n2 c2, .slice a3 n3 c3] 26)) (.cells #[.slice av nv cv, .int .i64 off] 35)
  have hG := get_any S t _ p (.slice av nv cv) _ (h.boxed hbw) (hp.below hbw (Nat.le_refl _)) hi
  have hblk := heap_alloc_new (w.alloc (.cells #[.bool t.leaf, .slice a1 n1 c1, .slice a2 n2 c2, .slice a3 n3 c3] 26)) (.cells #[.slice av nv cv, .int .i64 off] 35)
  have hsz : (w.alloc (.cells #[.bool t.leaf, .slice a1 n1 c1, .slice a2 n2 c2, .slice a3 n3 c3] 26)).heap.size = w.heap.size + 1 := by simp
  rw [hsz] at hblk
  have HG := Lib.hid hG; have HB := Lib.hid hbw; have HK := Lib.hid hblk
  clear hG hbw hp hi h hblk hsz
  go_enter Try.func18, Try.ntmps18
  go_wp2_with fail
  refine HG.out.mono ?_
  rintro e w1 ⟨hb1, hg⟩
  have hb := gr_tr HB.out hb1
  have hblk := blk_below HK.out hb1
  have hl := lt_of_block hblk
  have hcell := fun i => cell_of_row w1 (w.heap.size + 1) i _ _ (0, 0) hblk
  have k0 : w1.cell? ⟨w.heap.size + 1, 0, none⟩ = some (.slice av nv cv) := by rw [hcell]; rfl
  have k1 : w1.cell? ⟨w.heap.size + 1, 1, none⟩ = some (.int .i64 off) := by rw [hcell]; rfl
  have HB2 := Lib.hid hb
  clear HG HB HK hb hblk hcell hb1
  rcases hg with ⟨hg, rfl⟩ | ⟨cs2, s, hg, rfl, ht⟩
  · have HE : Hid (checkT t p off = 5) := by show _ = _; simp [checkT, hg]
    clear hg
    go_wp2
    go_ret
    exact ⟨ret_int HE.out.symm, gr_al HB2.out _⟩
  · have hn := ht.nodeAt
    obtain ⟨pv, tv, kv, es, rfl, h1, h2, h3, _, _⟩ := hn.open_
    obtain ⟨_, _, rfl⟩ := h1.slice
    obtain ⟨ta, tc, rfl⟩ := h2.slice
    obtain ⟨_, _, rfl⟩ := h3.slice
    have hlen := h2.len
    simp only [List.length_map] at hlen
    have hmap : (s.text.map runeCells).length = s.text.length := by simp
    rw [hmap]
    clear h1 h2 h3 ht hn hmap
    by_cases hlf : s.leaf = false
    · have HE : Hid (checkT t p off = 7) := by show _ = _; simp [checkT, hg, hlf]
      rw [hlf]
      clear hg
      go_wp2
      go_ret
      exact ⟨ret_int HE.out.symm, gr_al HB2.out _⟩
    · have hlt : s.leaf = true := by simpa using hlf
      rw [hlt]
      by_cases hneg : off < 0
      · have HE : Hid (checkT t p off = 8) := by show _ = _; simp [checkT, hg, hlt, hneg]
        have hd : decide (off < 0) = true := by simpa using hneg
        clear hg hlf hlt
        go_wp2
        go_ret
        exact ⟨ret_int HE.out.symm, gr_al HB2.out _⟩
      · have hd : decide (off < 0) = false := by simpa using hneg
        by_cases hgt : (s.text.length : Int) < off
        · have HE : Hid (checkT t p off = 8) := by show _ = _; simp [checkT, hg, hlt, hgt]
          clear hg hlf hlt
          go_wp2
          go_ret
          exact ⟨ret_int HE.out.symm, gr_al HB2.out _⟩
        · have HE : Hid (checkT t p off = 0) := by show _ = _; simp [checkT, hg, hlt, hgt, hneg]
          clear hg hlf hlt
          go_wp2
          go_ret
          exact ⟨ret_int HE.out.symm, gr_al HB2.out _⟩
end Go.Proofs.Ytdcpoeaddhbjbaa
