/- Walk of back.set. -/
import Derived.Test.YtcbljiiomnhbjaaOpX
import Derived.Deep.RegionHeld3
namespace Go.Proofs.Ytcbljiiomnhbjaa
set_option maxRecDepth 100000
open Go.RowKit

theorem setU_snoc : ∀ (xs : List UInt8) (bs : List Bool) (x : UInt8) (b : Bool), xs.length = bs.length → setU (xs ++ [x]) (bs ++ [b]) = setU xs bs ++ if b then [x] else []
  | [], [], x, b, _ => by cases b <;> simp [setU]
  | y :: xs, c :: bs, x, b, h => by
    have ih := setU_snoc xs bs x b (by simpa using h)
    cases c <;> simp [setU, ih]
  | [], _ :: _, _, _, h => by simp at h
  | _ :: _, [], _, _, h => by simp at h
theorem setU_len : ∀ (xs : List UInt8) (bs : List Bool), (setU xs bs).length ≤ xs.length
  | [], [] => by simp [setU]
  | [], _ :: _ => by simp [setU]
  | _ :: _, [] => by simp [setU]
  | x :: xs, true :: bs => by have := setU_len xs bs; simp [setU]; omega
  | x :: xs, false :: bs => by have := setU_len xs bs; simp [setU]; omega
theorem setU_take (xs : List UInt8) (bs : List Bool) (k : Nat) (h1 : k < xs.length) (h2 : k < bs.length) : setU (xs.take (k + 1)) (bs.take (k + 1)) = setU (xs.take k) (bs.take k) ++ if bs.getD k false then [xs.getD k 0] else [] := by
  rw [List.take_succ_eq_append_getElem h1, List.take_succ_eq_append_getElem h2, setU_snoc _ _ _ _ (by simp; omega)]
  simp [h1, h2]

/-- A slice of bytes of the call's own. -/
def OwnB (w : World) (B : Nat) (v : Value) (l : List UInt8) : Prop := w.ownsRow B 5 1 v l.length (l.map fun x => .int .u8 (x.toNat : Int))
theorem OwnB.nil (w : World) (B : Nat) : OwnB w B (.slice none 0 0) [] := World.ownsRow_nil _ _ _ _
theorem OwnB.later {w w' : World} {B : Nat} {v : Value} {l : List UInt8} (h : OwnB w B v l) (hb : Below w.heap.size w w') : OwnB w' B v l := row_below h hb (Nat.le_refl _)
theorem OwnB.slice {w : World} {B : Nat} {v : Value} {l : List UInt8} (h : OwnB w B v l) : ∃ a c, v = .slice a l.length c := by
  obtain ⟨_, h⟩ := h
  rcases h with ⟨rfl, h0⟩ | ⟨g, cap, cur, rfl, _⟩
  · exact ⟨none, 0, by rw [h0]⟩
  · exact ⟨_, _, rfl⟩
theorem OwnB.str {w : World} {B : Nat} {v : Value} {l : List UInt8} (h : OwnB w B v l) : (convert 69 9 v).run Try.prog w = .ok (.string ⟨l.toArray⟩) w := by
  obtain ⟨hl, h⟩ := h
  rcases h with ⟨rfl, h0⟩ | ⟨g, cap, cur, rfl, _, hg, hn, hm, hs, ht⟩
  · have : l = [] := List.eq_nil_of_length_eq_zero h0
    subst this
    rw [run_convert_bytes_string w _ _ 5 none 0 0 Try.underlying69 Try.underlying5 Try.underlying9]
    rfl
  · refine run_convert_bytes_back w _ _ 5 ⟨g, 0, none⟩ cap l Try.underlying69 Try.underlying5 Try.underlying9 fun j hj => ?_
    rw [Addr.add_lit, cell_of_row w g (0 + j) cur _ (0, 0) hg]
    have : (cur.toList.take (l.length * 1))[j]? = (l.map fun x => Value.int .u8 (x.toNat : Int))[j]? := by rw [ht]
    rw [List.getElem?_take, if_pos (by omega)] at this
    rw [Nat.zero_add]
    rw [show cur[j]? = cur.toList[j]? from by simp, this]
    simp [hj]
theorem info_u8 : (Try.prog.info? 5).map (fun i => (i.zero, i.size, i.bytes)) = some (some (.int .u8 0), 1, 1) := by kernel_rfl
/-- The cells of an operation's box. -/
theorem op_facts {w' : World} {g : Nat} {x0 x1 x2 x3 x4 x5 x6 x7 x8 x9 x10 x11 x12 x13 x14 x15 x16 x17 x18 x19 x20 : Value} {t : TypeId} (h : w'.heap[g]? = some (.cells #[x0, x1, x2, x3, x4, x5, x6, x7, x8, x9, x10, x11, x12, x13, x14, x15, x16, x17, x18, x19, x20] t (0, 0))) :
    w'.cell? ⟨g, 0, none⟩ = some x0 ∧ w'.cell? ⟨g, 1, none⟩ = some x1 ∧ w'.cell? ⟨g, 2, none⟩ = some x2 ∧ w'.cell? ⟨g, 3, none⟩ = some x3 ∧ w'.cell? ⟨g, 4, none⟩ = some x4 ∧ w'.cell? ⟨g, 5, none⟩ = some x5 ∧ w'.cell? ⟨g, 6, none⟩ = some x6 ∧ w'.cell? ⟨g, 7, none⟩ = some x7 ∧ w'.cell? ⟨g, 8, none⟩ = some x8 ∧ w'.cell? ⟨g, 9, none⟩ = some x9 ∧ w'.cell? ⟨g, 10, none⟩ = some x10 ∧
    w'.cell? ⟨g, 11, none⟩ = some x11 ∧ w'.cell? ⟨g, 12, none⟩ = some x12 ∧ w'.cell? ⟨g, 13, none⟩ = some x13 ∧ w'.cell? ⟨g, 14, none⟩ = some x14 ∧ w'.cell? ⟨g, 15, none⟩ = some x15 ∧ w'.cell? ⟨g, 16, none⟩ = some x16 ∧ w'.cell? ⟨g, 17, none⟩ = some x17 ∧ w'.cell? ⟨g, 18, none⟩ = some x18 ∧ w'.cell? ⟨g, 19, none⟩ = some x19 ∧ w'.cell? ⟨g, 20, none⟩ = some x20 := by
  have hc := fun i => cell_of_row w' g i _ _ (0, 0) h
  refine ⟨?_, ?_, ?_, ?_, ?_, ?_, ?_, ?_, ?_, ?_, ?_, ?_, ?_, ?_, ?_, ?_, ?_, ?_, ?_, ?_, ?_⟩ <;> (rw [hc]; rfl)
/-- One of the letters and flags of the literal. -/
theorem lit_at {w : World} {g : Nat} {t : TypeId} {b0 b1 b2 b3 b4 b5 b6 b7 b8 : Bool} (h : w.heap[g]? = some (.cells #[.int .u8 112, .bool b0, .int .u8 116, .bool b1, .int .u8 97, .bool b2, .int .u8 110, .bool b3, .int .u8 111, .bool b4, .int .u8 119, .bool b5, .int .u8 120, .bool b6, .int .u8 115, .bool b7, .int .u8 115, .bool b8] t (0, 0))) (k : Nat) (hk : k < 9) :
    w.cell? ⟨g, k * 2, none⟩ = some (.int .u8 ((letters.getD k 0).toNat : Int)) ∧ w.cell? ⟨g, k * 2 + 1, none⟩ = some (.bool ([b0, b1, b2, b3, b4, b5, b6, b7, b8].getD k false)) := by
  have hc := fun i => cell_of_row w g i _ _ (0, 0) h
  obtain rfl | rfl | rfl | rfl | rfl | rfl | rfl | rfl | rfl : k = 0 ∨ k = 1 ∨ k = 2 ∨ k = 3 ∨ k = 4 ∨ k = 5 ∨ k = 6 ∨ k = 7 ∨ k = 8 := by omega
  all_goals exact ⟨by rw [hc]; rfl, by rw [hc]; rfl⟩
theorem one_byte (x : Int) : ∀ u ∈ [Value.int .u8 x], u.oneCell' = true := by
  intro u hu
  simp at hu
  subst hu
  rfl

set_option maxHeartbeats 4000000 in
set_option maxRecDepth 100000 in
theorem bset_any (o : OpF) (v : Value) (w : World) (h : OpV w v o) : Calls Try.prog 37 #[v] w fun e w' => e = .returned (.string ⟨(setX o).toArray⟩) ∧ Below w.heap.size w w' := by
  obtain ⟨a1, c1, a2, c2, p1, m1, d1, p2, m2, d2, p3, m3, d3, a5, c5, a6, c6, a7, c7, f1, g1, h1, f2, g2, h2, i1, j1, k1, i2, j2, k2, rfl, hr⟩ := h
  dsimp only [opC]
  have hbW := gr_al (gr_refl w) (.cells #[.int .i64 o.kind, .slice a1 o.path.length c1, .slice a2 o.dest.length c2, .int .i64 o.pos, .bool o.node.leaf, .slice p1 m1 d1, .slice p2 m2 d2, .slice p3 m3 d3, .slice a5 o.old.length c5, .slice a6 o.new.length c6, .slice a7 o.text.length c7, .bool o.from_.1, .slice f1 g1 h1, .int .i64 o.from_.2.1.2, .slice f2 g2 h2, .int .i64 o.from_.2.2.2, .bool o.into.1, .slice i1 j1 k1, .int .i64 o.into.2.1.2, .slice i2 j2 k2, .int .i64 o.into.2.2.2] 35)
  have hx := heap_alloc_new w (.cells #[.int .i64 o.kind, .slice a1 o.path.length c1, .slice a2 o.dest.length c2, .int .i64 o.pos, .bool o.node.leaf, .slice p1 m1 d1, .slice p2 m2 d2, .slice p3 m3 d3, .slice a5 o.old.length c5, .slice a6 o.new.length c6, .slice a7 o.text.length c7, .bool o.from_.1, .slice f1 g1 h1, .int .i64 o.from_.2.1.2, .slice f2 g2 h2, .int .i64 o.from_.2.2.2, .bool o.into.1, .slice i1 j1 k1, .int .i64 o.into.2.1.2, .slice i2 j2 k2, .int .i64 o.into.2.2.2] 35)
  have HX := Lib.hid hx; have HB := Lib.hid hbW; have HR := Lib.hid (hr.later hbW)
  obtain ⟨b0, hb0⟩ : ∃ b, decide (0 < o.path.length) = b := ⟨_, rfl⟩
  obtain ⟨b1, hb1⟩ : ∃ b, decide (0 < o.dest.length) = b := ⟨_, rfl⟩
  obtain ⟨b2, hb2⟩ : ∃ b, (o.pos != 0) = b := ⟨_, rfl⟩
  obtain ⟨b3, hb3⟩ : ∃ b, eqT o.node noT = b := ⟨_, rfl⟩
  obtain ⟨b4, hb4⟩ : ∃ b, decide (0 < o.old.length) = b := ⟨_, rfl⟩
  obtain ⟨b5, hb5⟩ : ∃ b, decide (0 < o.new.length) = b := ⟨_, rfl⟩
  obtain ⟨b6, hb6⟩ : ∃ b, decide (0 < o.text.length) = b := ⟨_, rfl⟩
  obtain ⟨b7, hb7⟩ : ∃ b, sselB o.from_.1 o.from_.2.1.1 o.from_.2.1.2 o.from_.2.2.1 o.from_.2.2.2 false [] 0 [] 0 = b := ⟨_, rfl⟩
  obtain ⟨b8, hb8⟩ : ∃ b, sselB o.into.1 o.into.2.1.1 o.into.2.1.2 o.into.2.2.1 o.into.2.2.2 false [] 0 [] 0 = b := ⟨_, rfl⟩
  have HFL : Hid (setX o = setU letters [b0, b1, b2, !b3, b4, b5, b6, !b7, !b8]) := Lib.hid (by
    unfold setX flagsX
    rw [hb0, hb1, hb3, hb4, hb5, hb6, hb7, hb8, ← hb2, show decide (o.pos ≠ 0) = (o.pos != 0) by rw [Bool.eq_iff_iff]; simp])
  rw [HFL.out]
  obtain ⟨R, hRR⟩ : ∃ R, setU letters [b0, b1, b2, !b3, b4, b5, b6, !b7, !b8] = R := ⟨_, rfl⟩
  rw [hRR]
  have HRR := Lib.hid hRR
  clear hr hbW hx HFL hRR
  have HC1 := Lib.hid (fun w' (l : Below (w.alloc (.cells #[.int .i64 o.kind, .slice a1 o.path.length c1, .slice a2 o.dest.length c2, .int .i64 o.pos, .bool o.node.leaf, .slice p1 m1 d1, .slice p2 m2 d2, .slice p3 m3 d3, .slice a5 o.old.length c5, .slice a6 o.new.length c6, .slice a7 o.text.length c7, .bool o.from_.1, .slice f1 g1 h1, .int .i64 o.from_.2.1.2, .slice f2 g2 h2, .int .i64 o.from_.2.2.2, .bool o.into.1, .slice i1 j1 k1, .int .i64 o.into.2.1.2, .slice i2 j2 k2, .int .i64 o.into.2.2.2] 35)).heap.size _ w') => nsame_any o.node noT _ [.bool false, .slice none 0 0, .slice none 0 0, .slice none 0 0] Any Any w' (HR.out.later l).node (.mk (Sl.nil _ _ _ _) (Sl.nil _ _ _ _) (Sl.nil _ _ _ _) rfl (fun i hi => by simp at hi)))
  have HC2 := Lib.hid (fun w' (l : Below (w.alloc (.cells #[.int .i64 o.kind, .slice a1 o.path.length c1, .slice a2 o.dest.length c2, .int .i64 o.pos, .bool o.node.leaf, .slice p1 m1 d1, .slice p2 m2 d2, .slice p3 m3 d3, .slice a5 o.old.length c5, .slice a6 o.new.length c6, .slice a7 o.text.length c7, .bool o.from_.1, .slice f1 g1 h1, .int .i64 o.from_.2.1.2, .slice f2 g2 h2, .int .i64 o.from_.2.2.2, .bool o.into.1, .slice i1 j1 k1, .int .i64 o.into.2.1.2, .slice i2 j2 k2, .int .i64 o.into.2.2.2] 35)).heap.size _ w') => ssel_any o.from_.1 false o.from_.2.1.1 o.from_.2.2.1 [] [] o.from_.2.1.2 o.from_.2.2.2 0 0 _ _ _ _ w' (HR.out.later l).fa (HR.out.later l).fb (ints_nil w') (ints_nil w'))
  have HC3 := Lib.hid (fun w' (l : Below (w.alloc (.cells #[.int .i64 o.kind, .slice a1 o.path.length c1, .slice a2 o.dest.length c2, .int .i64 o.pos, .bool o.node.leaf, .slice p1 m1 d1, .slice p2 m2 d2, .slice p3 m3 d3, .slice a5 o.old.length c5, .slice a6 o.new.length c6, .slice a7 o.text.length c7, .bool o.from_.1, .slice f1 g1 h1, .int .i64 o.from_.2.1.2, .slice f2 g2 h2, .int .i64 o.from_.2.2.2, .bool o.into.1, .slice i1 j1 k1, .int .i64 o.into.2.1.2, .slice i2 j2 k2, .int .i64 o.into.2.2.2] 35)).heap.size _ w') => ssel_any o.into.1 false o.into.2.1.1 o.into.2.2.1 [] [] o.into.2.1.2 o.into.2.2.2 0 0 _ _ _ _ w' (HR.out.later l).ia (HR.out.later l).ib (ints_nil w') (ints_nil w'))
  rw [hb3] at HC1; rw [hb7] at HC2; rw [hb8] at HC3
  clear hb3 hb7 hb8
  go_enter Try.func37, Try.ntmps37
  go_upto_region 2 with fail
  generalize World.alloc w _ = W at *
  have HK := Lib.hid (fun w' (l : Below W.heap.size W w') => op_facts (blk_below HX.out l))
  have l := gr_dr (gr_refl W)
  go_region_held3 (fun w' => w'.cell? ⟨w.heap.size, 0, none⟩ = some (.int .i64 o.kind) ∧ w'.cell? ⟨w.heap.size, 1, none⟩ = some (.slice a1 o.path.length c1) ∧ w'.cell? ⟨w.heap.size, 2, none⟩ = some (.slice a2 o.dest.length c2) ∧ w'.cell? ⟨w.heap.size, 3, none⟩ = some (.int .i64 o.pos) ∧ w'.cell? ⟨w.heap.size, 4, none⟩ = some (.bool o.node.leaf) ∧ w'.cell? ⟨w.heap.size, 5, none⟩ = some (.slice p1 m1 d1) ∧ w'.cell? ⟨w.heap.size, 6, none⟩ = some (.slice p2 m2 d2) ∧ w'.cell? ⟨w.heap.size, 7, none⟩ = some (.slice p3 m3 d3) ∧ w'.cell? ⟨w.heap.size, 8, none⟩ = some (.slice a5 o.old.length c5) ∧ w'.cell? ⟨w.heap.size, 9, none⟩ = some (.slice a6 o.new.length c6) ∧ w'.cell? ⟨w.heap.size, 10, none⟩ = some (.slice a7 o.text.length c7) ∧ w'.cell? ⟨w.heap.size, 11, none⟩ = some (.bool o.from_.1) ∧ w'.cell? ⟨w.heap.size, 12, none⟩ = some (.slice f1 g1 h1) ∧ w'.cell? ⟨w.heap.size, 13, none⟩ = some (.int .i64 o.from_.2.1.2) ∧ w'.cell? ⟨w.heap.size, 14, none⟩ = some (.slice f2 g2 h2) ∧ w'.cell? ⟨w.heap.size, 15, none⟩ = some (.int .i64 o.from_.2.2.2) ∧ w'.cell? ⟨w.heap.size, 16, none⟩ = some (.bool o.into.1) ∧ w'.cell? ⟨w.heap.size, 17, none⟩ = some (.slice i1 j1 k1) ∧ w'.cell? ⟨w.heap.size, 18, none⟩ = some (.int .i64 o.into.2.1.2) ∧ w'.cell? ⟨w.heap.size, 19, none⟩ = some (.slice i2 j2 k2) ∧ w'.cell? ⟨w.heap.size, 20, none⟩ = some (.int .i64 o.into.2.2.2))
    (first | with_reducible exact HK.out _ l | with_reducible exact HK.out _ (gr_al l _))
    (first
      | (go_at_call 57; (with_reducible refine (HC1.out _ l).mono ?_); rintro e w1 ⟨rfl, hb⟩; replace l := gr_tr l hb; clear hb)
      | (go_at_call 58; (with_reducible refine (HC2.out _ l).mono ?_); rintro e w1 ⟨rfl, hb⟩; replace l := gr_tr l hb; clear hb)
      | (go_at_call 58; (with_reducible refine (HC3.out _ l).mono ?_); rintro e w1 ⟨rfl, hb⟩; replace l := gr_tr l hb; clear hb))
  have hV := gr_al l (.cells #[.int .u8 112, .bool b0, .int .u8 116, .bool b1, .int .u8 97, .bool b2, .int .u8 110, .bool (!b3), .int .u8 111, .bool b4, .int .u8 119, .bool b5, .int .u8 120, .bool b6, .int .u8 115, .bool (!b7), .int .u8 115, .bool (!b8)] 96)
  have hL := heap_alloc_new w1 (.cells #[.int .u8 112, .bool b0, .int .u8 116, .bool b1, .int .u8 97, .bool b2, .int .u8 110, .bool (!b3), .int .u8 111, .bool b4, .int .u8 119, .bool b5, .int .u8 120, .bool b6, .int .u8 115, .bool (!b7), .int .u8 115, .bool (!b8)] 96)
  have HV := Lib.hid (gr_tr HB.out hV); have HL := Lib.hid hL
  clear hV hL l HK HC1 HC2 HC3 HR HX HB
  generalize World.alloc w1 _ = V at *
  generalize (!b3) = q3 at *
  generalize (!b7) = q7 at *
  generalize (!b8) = q8 at *
  have HAT := Lib.hid (fun w' (l : Below V.heap.size V w') => lit_at (blk_below HL.out l))
  have HFN : Hid ([b0, b1, b2, q3, b4, b5, b6, q7, q8].length = 9) := Lib.hid rfl
  generalize [b0, b1, b2, q3, b4, b5, b6, q7, q8] = fs at *
  obtain ⟨g, hg⟩ : ∃ g, w1.heap.size = g := ⟨_, rfl⟩
  rw [hg] at HAT ⊢
  clear HL hg
  obtain ⟨i0, hi, hz0, hz1, hz2⟩ := info_parts info_u8
  have GI := Lib.hid hi; have GZ0 := Lib.hid hz0; have GZ1 := Lib.hid hz1; have GZ2 := Lib.hid hz2
  clear hi hz0 hz1 hz2 hb0 hb1 hb2 hb4 hb5 hb6
  go_wp2_with fail
  go_loopw [3, 55] (fun v i wr => ∃ k : Nat, k ≤ 9 ∧ i = .int .i64 k ∧ OwnB wr V.heap.size v (setU (letters.take k) (fs.take k)) ∧ Below V.heap.size V wr) (fun _ i _ => 9 - (intOf i).toNat)
  case atStart => exact ⟨0, by omega, rfl, OwnB.nil _ _, gr_refl V⟩
  case round =>
    obtain ⟨k, hk, rfl, ho, hb⟩ := hrel
    obtain ⟨av, cv, rfl⟩ := ho.slice
    have HO := Lib.hid ho; have HBR := Lib.hid hb
    clear ho hb
    by_cases hlt : k < 9
    · obtain ⟨d0, d1⟩ := HAT.out _ HBR.out k hlt
      have HST := Lib.hid (setU_take letters fs k (show k < 9 from hlt) (by have := HFN.out; omega))
      have HLEN := Lib.hid (setU_len (letters.take k) (fs.take k))
      have hlt' : (k : Int) < 9 := by omega
      obtain ⟨f, hf⟩ : ∃ f, fs.getD k false = f := ⟨_, rfl⟩
      rw [hf] at d1 HST
      generalize letters.getD k 0 = x at *
      go_upto_region 5 with fail
      have hal := gr_al (gr_refl wr) (.cells #[.int .u8 (x.toNat : Int), .bool f] 96)
      have hnb := heap_alloc_new wr (.cells #[.int .u8 (x.toNat : Int), .bool f] 96)
      generalize wr.alloc _ = V2 at *
      obtain ⟨⟨e0, e1⟩, _⟩ := two_facts hnb
      have HO2 := Lib.hid (HO.out.later hal); have HB2 := Lib.hid (gr_tr HBR.out hal)
      clear hal hnb d0 d1
      cases f
      · simp only [Bool.false_eq_true, if_false, List.append_nil] at HST
        go_wp2_with fail
        go_roundw
        case rel => exact ⟨k + 1, by omega, by go_num, by rw [HST.out]; exact HO2.out, HB2.out⟩
        case measure => simp [intOf]; omega
      · simp only [if_true] at HST
        generalize hLL : setU (letters.take k) (fs.take k) = L at *
        have hn9 : L.length ≤ 9 := by have := HLEN.out; have h2 : (letters.take k).length ≤ 9 := (by simp [letters]; omega); omega
        have HOR := Lib.hid (show V2.ownsRow V.heap.size 5 1 (.slice av L.length cv) L.length (L.map fun x => .int .u8 (x.toNat : Int)) from HO2.out)
        have H5 : Hid (L.length + 1 ≤ maxLen) := Lib.hid (by unfold maxLen; omega)
        have H6 : Hid ((L.length + 1) * 1 ≤ 140737488355328) := Lib.hid (by omega)
        clear hn9 HLEN
        go_wp2_with (at_builtin; refine wpList_append_any _ rfl _ _ 69 rfl V.heap.size 5 i0 (.int .u8 0) 1 1 Try.underlying69 GI.out GZ0.out GZ1.out GZ2.out rfl (by decide) _ L.length _ rfl (HOR.out.alloc _) (some ⟨V2.heap.size, 0, none⟩) 1 1 [.int .u8 (x.toNat : Int)] rfl rfl (fun h => nomatch h) (one_news _ _ _ _ rfl) (one_byte _) H5.out H6.out (by have := HB2.out.size; simp; omega) ?_)
        intro v' w3 hown hgr
        have HO3 := Lib.hid (show OwnB w3 V.heap.size v' (L ++ [x]) by unfold OwnB; simpa using hown)
        have HB3 := Lib.hid ((gr_al HB2.out _).grown hgr (gr_al HB2.out _).size (fun g hg => (HOR.out.lt g hg).1))
        clear hown hgr
        go_wp2_with fail
        go_roundw
        case rel => exact ⟨k + 1, by omega, by go_num, by rw [HST.out]; exact HO3.out, HB3.out⟩
        case measure => simp [intOf]; omega
    · obtain rfl : k = 9 := by omega
      have hcv := HO.out.str
      have HFE : Hid (setU (letters.take 9) (fs.take 9) = setU letters fs) := Lib.hid (by rw [show letters.take 9 = letters from rfl, List.take_of_length_le (by have := HFN.out; omega)])
      rw [HFE.out, HRR.out] at hcv ⊢
      go_wp2_with fail
      go_ret
      exact ⟨rfl, gr_tr HV.out HBR.out⟩
end Go.Proofs.Ytcbljiiomnhbjaa
