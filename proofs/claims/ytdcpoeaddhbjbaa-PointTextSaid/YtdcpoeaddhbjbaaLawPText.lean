/- The walk of the law PointText. -/
import Derived.Test.YtdcpoeaddhbjbaaLive7
import Derived.Test.YtdcpoeaddhbjbaaOpenNode
namespace Go.Proofs.Ytdcpoeaddhbjbaa
set_option maxRecDepth 100000
open Go.RowKit

/-- How many of a leaf's points are met behind j rounds. -/
def cntP (m j : Nat) : Nat := if j ≤ 2 then 0 else if j ≤ m + 3 then j - 2 else m + 1

/-- What holds at each round's head: the boxes. -/
def PTInv (w : World) (g : Nat) (n k : Array Value) (wr : World) : Prop :=
  Below w.heap.size w wr ∧ wr.heap[w.heap.size]? = some (.cells n 26 (0, 0)) ∧ wr.heap[g]? = some (.cells k 26 (0, 0))
theorem PTInv.later {w : World} {g : Nat} {n k : Array Value} {wr w' : World} (h : PTInv w g n k wr) (hb : Below wr.heap.size wr w') : PTInv w g n k w' :=
  ⟨gr_tr h.1 hb, blk_below h.2.1 hb, blk_below h.2.2 hb⟩

set_option maxHeartbeats 4000000 in
theorem law_ptext (t : Tree) (q : List Int) (v1 v2 : Value) (w : World) (h1 : NodeV w v1 t) (h2 : Ints w v2 q ∧ I64 q) :
    Calls Try.prog 3 #[v1, v2] w (Yes w) := by
  obtain ⟨cs, rfl, hn⟩ := h1
  obtain ⟨a1, n1, c1, a2, n2, c2, a3, n3, c3, rfl⟩ := hn.form
  obtain ⟨hq, hi⟩ := h2
  obtain ⟨aq, cq, rfl⟩ := hq.slice
  have hq8 := hq.len
  have HN := Lib.hid hn; have HQ := Lib.hid hq; have HI := Lib.hid hi
  have HX := Lib.hid (heap_alloc_new w (.cells #[.bool t.leaf, .slice a1 n1 c1, .slice a2 n2 c2, .slice a3 n3 c3] 26))
  have HB := Lib.hid (gr_al (gr_refl w) (.cells #[.bool t.leaf, .slice a1 n1 c1, .slice a2 n2 c2, .slice a3 n3 c3] 26))
  clear hn hq hi
  go_enter Try.func3, Try.ntmps3
  go_wp2_with fail
  generalize World.alloc w _ = W at *
  refine (live7_any W).mono ?_
  rintro e w1 ⟨rfl, hb1⟩
  have HX1 := Lib.hid (blk_below HX.out hb1)
  have HB1 := Lib.hid (gr_tr HB.out hb1)
  clear hb1 HB HX
  obtain ⟨⟨k0, k1, k2, k3⟩, _⟩ := four_facts HX1.out
  go_wp2_with fail
  refine (fewN_any t _ Any 150 _ (HN.out.boxed HB1.out)).mono ?_
  rintro e w2 ⟨fw, rfl, hb2⟩
  have HX2 := Lib.hid (blk_below HX1.out hb2)
  have HB2 := Lib.hid (gr_tr HB1.out hb2)
  clear hb2 HB1 HX1 k0 k1 k2 k3
  obtain ⟨⟨k0, k1, k2, k3⟩, _⟩ := four_facts HX2.out
  cases fw
  · go_wp2_with fail
    go_ret
    exact ⟨rfl, HB2.out⟩
  · by_cases h50 : 50 < q.length
    · have hd : decide (50 < q.length) = true := by simpa using h50
      go_wp2_with fail
      go_ret
      exact ⟨rfl, HB2.out⟩
    · have hd : decide (50 < q.length) = false := by simpa using h50
      have HQ2 := Lib.hid (HQ.out.below HB2.out (Nat.le_refl _))
      go_wp2_with fail
      refine (get_any Any t _ q _ _ (HN.out.boxed HB2.out) HQ2.out HI.out).mono ?_
      rintro e w3 ⟨hb3, hg⟩
      have HX3 := Lib.hid (blk_below HX2.out hb3)
      have HB3 := Lib.hid (gr_tr HB2.out hb3)
      clear hb3 HB2 HX2 k0 k1 k2 k3 HQ2
      rcases hg with ⟨hg, rfl⟩ | ⟨cs2, s, hg, rfl, ht⟩
      · have HC : Hid (∀ off, checkT t q off = 5) := by intro off; simp [checkT, hg]
        have HP : Hid (PTInv w w3.heap.size #[.bool t.leaf, .slice a1 n1 c1, .slice a2 n2 c2, .slice a3 n3 c3] #[.bool false, .slice none 0 0, .slice none 0 0, .slice none 0 0] (w3.alloc (.cells #[.bool false, .slice none 0 0, .slice none 0 0, .slice none 0 0] 26))) := by
          show PTInv _ _ _ _ _
          exact ⟨gr_al HB3.out _, blk_below HX3.out (gr_al (gr_refl _) _), heap_alloc_new w3 _⟩
        clear hg
        go_wp2_with fail
        generalize World.alloc w3 _ = W4 at *
        obtain ⟨⟨y0, y1, y2, y3⟩, _⟩ := four_facts HP.out.2.2
        go_loopw [7, 8] (fun many off wr => ∃ j : Nat, j ≤ 5 ∧ many = .int .i64 0 ∧ off = .int .i64 (-2 + j) ∧ PTInv w w3.heap.size #[.bool t.leaf, .slice a1 n1 c1, .slice a2 n2 c2, .slice a3 n3 c3] #[.bool false, .slice none 0 0, .slice none 0 0, .slice none 0 0] wr) (fun _ off _ => (3 - intOf off).toNat)
        case atStart => exact ⟨0, by omega, rfl, rfl, HP.out⟩
        case round =>
          obtain ⟨j, hj, rfl, rfl, hinv⟩ := hrel
          have HV := Lib.hid hinv
          clear hinv HP y0 y1 y2 y3
          obtain ⟨⟨k0, k1, k2, k3⟩, _⟩ := four_facts HV.out.2.1
          obtain ⟨⟨y0, y1, y2, y3⟩, _⟩ := four_facts HV.out.2.2
          by_cases hlt : j < 5
          · have hc := pcheck_any Any t _ q (-2 + (j : Int)) _ _ (HN.out.boxed HV.out.1) (HQ.out.below HV.out.1 (Nat.le_refl _)) HI.out
            rw [HC.out] at hc
            have HC2 := Lib.hid hc
            clear hc
            go_wp2_with fail
            refine HC2.out.mono ?_
            rintro e w5 ⟨rfl, hb5⟩
            have HV5 := Lib.hid (HV.out.later hb5)
            clear hb5 HV k0 k1 k2 k3 y0 y1 y2 y3
            obtain ⟨⟨y0, y1, y2, y3⟩, _⟩ := four_facts HV5.out.2.2
            go_wp2_with fail
            go_roundw
            case rel => exact ⟨j + 1, by omega, rfl, by go_num, HV5.out⟩
            case measure => simp [intOf]; omega
          · have : j = 5 := by omega
            subst this
            go_wp2_with fail
            go_ret
            exact ⟨rfl, HV.out.1⟩
      · obtain ⟨pv', tv', kv', es', rfl, h1, h2, h3, hkl, _⟩ := ht.nodeAt.open_
        obtain ⟨x1, z1, rfl⟩ := h1.slice
        obtain ⟨ta, tc, rfl⟩ := h2.slice
        obtain ⟨x3, z3, rfl⟩ := h3.slice
        have hm := h2.len
        rw [List.length_map] at hm
        have hmap : (s.text.map runeCells).length = s.text.length := by simp
        have hmap2 : (s.props.map propCells).length = s.props.length := by simp
        rw [hmap, hmap2, hkl]
        clear h1 h2 h3 ht hmap hmap2 hkl
        have HP : Hid (PTInv w w3.heap.size #[.bool t.leaf, .slice a1 n1 c1, .slice a2 n2 c2, .slice a3 n3 c3] #[.bool s.leaf, .slice x1 s.props.length z1, .slice ta s.text.length tc, .slice x3 s.kids.length z3] (w3.alloc (.cells #[.bool s.leaf, .slice x1 s.props.length z1, .slice ta s.text.length tc, .slice x3 s.kids.length z3] 26))) := by
          show PTInv _ _ _ _ _
          exact ⟨gr_al HB3.out _, blk_below HX3.out (gr_al (gr_refl _) _), heap_alloc_new w3 _⟩
        have HC : Hid (∀ off, checkT t q off = if s.leaf = false then 7 else if off < 0 ∨ (s.text.length : Int) < off then 8 else 0) := by intro off; simp only [checkT, hg]
        clear hg
        generalize s.text.length = m at *
        cases hlf : s.leaf
        · have HC7 : Hid (∀ off, checkT t q off = 7) := by intro off; rw [HC.out off, hlf]; rfl
          rw [hlf] at HP
          clear HC hlf
          go_wp2_with fail
          generalize World.alloc w3 _ = W4 at *
          obtain ⟨⟨y0, y1, y2, y3⟩, _⟩ := four_facts HP.out.2.2
          go_loopw [7, 8] (fun many off wr => ∃ j : Nat, j ≤ m + 5 ∧ many = .int .i64 0 ∧ off = .int .i64 (-2 + j) ∧ PTInv w w3.heap.size #[.bool t.leaf, .slice a1 n1 c1, .slice a2 n2 c2, .slice a3 n3 c3] #[.bool false, .slice x1 s.props.length z1, .slice ta m tc, .slice x3 s.kids.length z3] wr) (fun _ off _ => (m + 3 - intOf off).toNat)
          case atStart => exact ⟨0, by omega, rfl, rfl, HP.out⟩
          case round =>
            obtain ⟨j, hj, rfl, rfl, hinv⟩ := hrel
            have HV := Lib.hid hinv
            clear hinv HP y0 y1 y2 y3
            obtain ⟨⟨k0, k1, k2, k3⟩, _⟩ := four_facts HV.out.2.1
            obtain ⟨⟨y0, y1, y2, y3⟩, _⟩ := four_facts HV.out.2.2
            by_cases hlt : j < m + 5
            · have hc := pcheck_any Any t _ q (-2 + (j : Int)) _ _ (HN.out.boxed HV.out.1) (HQ.out.below HV.out.1 (Nat.le_refl _)) HI.out
              rw [HC7.out] at hc
              have HC2 := Lib.hid hc
              clear hc
              go_wp2_with fail
              refine HC2.out.mono ?_
              rintro e w5 ⟨rfl, hb5⟩
              have HV5 := Lib.hid (HV.out.later hb5)
              clear hb5 HV k0 k1 k2 k3 y0 y1 y2 y3
              obtain ⟨⟨y0, y1, y2, y3⟩, _⟩ := four_facts HV5.out.2.2
              go_wp2_with fail
              go_roundw
              case rel => exact ⟨j + 1, by omega, rfl, by go_num, HV5.out⟩
              case measure => simp [intOf]; omega
            · have hjm : j = m + 5 := by omega
              subst hjm
              go_wp2_with fail
              go_ret
              exact ⟨rfl, HV.out.1⟩
        · have HC8 : Hid (∀ off, checkT t q off = if off < 0 ∨ (m : Int) < off then 8 else 0) := by intro off; rw [HC.out off, hlf, if_neg (by decide)]
          rw [hlf] at HP
          clear HC hlf
          go_wp2_with fail
          generalize World.alloc w3 _ = W4 at *
          obtain ⟨⟨y0, y1, y2, y3⟩, _⟩ := four_facts HP.out.2.2
          go_loopw [7, 8] (fun many off wr => ∃ j : Nat, j ≤ m + 5 ∧ many = .int .i64 (cntP m j) ∧ off = .int .i64 (-2 + j) ∧ PTInv w w3.heap.size #[.bool t.leaf, .slice a1 n1 c1, .slice a2 n2 c2, .slice a3 n3 c3] #[.bool true, .slice x1 s.props.length z1, .slice ta m tc, .slice x3 s.kids.length z3] wr) (fun _ off _ => (m + 3 - intOf off).toNat)
          case atStart => exact ⟨0, by omega, rfl, rfl, HP.out⟩
          case round =>
            obtain ⟨j, hj, rfl, rfl, hinv⟩ := hrel
            have HV := Lib.hid hinv
            clear hinv HP y0 y1 y2 y3
            obtain ⟨⟨k0, k1, k2, k3⟩, _⟩ := four_facts HV.out.2.1
            obtain ⟨⟨y0, y1, y2, y3⟩, _⟩ := four_facts HV.out.2.2
            by_cases hlt : j < m + 5
            · have hc := pcheck_any Any t _ q (-2 + (j : Int)) _ _ (HN.out.boxed HV.out.1) (HQ.out.below HV.out.1 (Nat.le_refl _)) HI.out
              rw [HC8.out] at hc
              have hcl : cntP m j ≤ m + 1 := by unfold cntP; split <;> (try split) <;> omega
              by_cases hin : (-2 + (j : Int)) < 0 ∨ (m : Int) < -2 + j
              · have HCN : Hid (cntP m (j + 1) = cntP m j) := by show _ = _; unfold cntP; split <;> split <;> (try split) <;> (try split) <;> omega
                rw [if_pos hin] at hc
                have HC2 := Lib.hid hc
                clear hc hin
                go_wp2_with fail
                refine HC2.out.mono ?_
                rintro e w5 ⟨rfl, hb5⟩
                have HV5 := Lib.hid (HV.out.later hb5)
                clear hb5 HV k0 k1 k2 k3 y0 y1 y2 y3
                obtain ⟨⟨y0, y1, y2, y3⟩, _⟩ := four_facts HV5.out.2.2
                go_wp2_with fail
                go_roundw
                case rel => exact ⟨j + 1, by omega, by rw [HCN.out], by go_num, HV5.out⟩
                case measure => simp [intOf]; omega
              · have HCN : Hid (cntP m (j + 1) = cntP m j + 1) := by show _ = _; unfold cntP; split <;> split <;> (try split) <;> (try split) <;> omega
                rw [if_neg hin] at hc
                have HC2 := Lib.hid hc
                clear hc hin
                go_wp2_with fail
                refine HC2.out.mono ?_
                rintro e w5 ⟨rfl, hb5⟩
                have HV5 := Lib.hid (HV.out.later hb5)
                clear hb5 HV k0 k1 k2 k3 y0 y1 y2 y3
                obtain ⟨⟨y0, y1, y2, y3⟩, _⟩ := four_facts HV5.out.2.2
                go_wp2_with fail
                go_roundw
                case rel => exact ⟨j + 1, by omega, by rw [HCN.out]; go_num, by go_num, HV5.out⟩
                case measure => simp [intOf]; omega
            · have hjm : j = m + 5 := by omega
              subst hjm
              have hcn : cntP m (m + 5) = m + 1 := by unfold cntP; split <;> (try split) <;> omega
              rw [hcn]
              have hcc : (((m + 1 : Nat) : Int) == (m : Int) + 1) = true := by rw [beq_iff_eq]; omega
              clear hcn
              go_wp2_with fail
              go_ret
              exact ⟨rfl, HV.out.1⟩
end Go.Proofs.Ytdcpoeaddhbjbaa
