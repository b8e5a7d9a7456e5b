/- Walk of redlinelaw11.live. -/
import Derived.Test.YtcbljiiomnhbjaaBOwn
import Derived.Test.YtcbljiiomnhbjaaBInv
import Derived.Test.YtcbljiiomnhbjaaFormP
namespace Go.Proofs.Ytcbljiiomnhbjaa
set_option maxRecDepth 100000
open Go.RowKit

def liveO : OpF := ⟨4, [0], [], 3, noT, [], [], [], noSel, noSel⟩
def wantO : OpF := ⟨3, [1], [], 3, noT, [], [], [], noSel, noSel⟩
theorem live_form : formX liveO = 0 := by
  rw [formX, if_pos (by decide)]
  have : setX liveO = [112, 97] := by simp [setX, flagsX, liveO, noSel, noT_yes, sselB_self, letters, setU]
  rw [this]
  rfl
theorem live_inv : invE liveO = 0 ∧ invO liveO = wantO := by
  have h : invE liveO = 0 := by rw [invE, if_neg (by rw [live_form]; decide)]; rfl
  refine ⟨h, ?_⟩
  rw [invO, if_neg (by rw [h]; decide)]
  rfl
theorem lit_opv {w : World} {a : Option Addr} {c : Nat} {k : Int} {x : Int} (h : Ints w (.slice a 1 c) [x]) : OpV w (.agg #[.int .i64 k, .slice a 1 c, .slice none 0 0, .int .i64 3, .bool false, .slice none 0 0, .slice none 0 0, .slice none 0 0, .slice none 0 0, .slice none 0 0, .slice none 0 0, .bool false, .slice none 0 0, .int .i64 0, .slice none 0 0, .int .i64 0, .bool false, .slice none 0 0, .int .i64 0, .slice none 0 0, .int .i64 0]) ⟨k, [x], [], 3, noT, [], [], [], noSel, noSel⟩ :=
  ⟨_, _, _, _, _, _, _, _, _, _, _, _, _, _, _, _, _, _, _, _, _, _, _, _, _, _, _, _, _, _, _, rfl, ⟨h, ints_nil w, .mk (Sl.nil _ _ _ _) (Sl.nil _ _ _ _) (Sl.nil _ _ _ _) rfl (fun i hi => by simp at hi), Sl.nil _ _ _ _, Sl.nil _ _ _ _, Sl.nil _ _ _ _, ints_nil w, ints_nil w, ints_nil w, ints_nil w⟩⟩

/-- A whole load of a block, guarded, where the guard lets it be. -/
theorem wpList_load_row_g {P : Program} {ops : Array Oper} {rest : List Oper} {o : Oper} {a : Act} {w : World} {Q : Exit → Act → World → Prop} (hw : Region.wanted o (yielded ops a.tmps) = true) (ty : TypeId) (x : Operand) (ho : o.op = .load ty x)
    (g : Nat) (hx : a.eval x = .pointer (some ⟨g, 0, none⟩)) (t : TypeId) (cs : Array Value) (fr : Nat × Nat) (d : TypeDesc) (hg : w.heap[g]? = some (.cells cs t fr))
    (hu : P.underlying ty = some d) (hd : (match d with | .struct _ | .array _ _ => true | _ => false) = true) (hi : (P.info? ty).map (·.size) = some cs.size)
    (h : wpList P ops Q rest (a.put o.dst (.agg cs)) w) : wpList P ops Q (o :: rest) a w := by
  rw [wpList, if_pos hw]
  exact .inl (wp_load_row ty x ho g hx t cs fr d hg hu hd hi h)

set_option maxHeartbeats 2000000 in
set_option maxRecDepth 100000 in
theorem live11_any (w : World) : Calls Try.prog 9 #[] w fun e w' => e = .returned (.bool true) ∧ Below w.heap.size w w' := by
  have hlit := lit_ints w #[.int .i64 0] 1 w.heap.size [0] rfl rfl rfl (by simp)
  have hinv := binv_any liveO _ _ (lit_opv (k := 4) hlit) (by decide) (by intro x hx; simp [liveO] at hx; omega) (fun o v w h => bown_any o v w h)
  rw [live_inv.1, live_inv.2] at hinv
  have HINV := Lib.hid hinv
  have HB := Lib.hid (gr_al (gr_refl w) (.cells #[.int .i64 0] 3))
  clear hlit hinv
  go_enter Try.func9, Try.ntmps9
  go_wp2_with fail
  refine HINV.out.mono ?_
  rintro e w2 ⟨cs, rfl, hv, hb⟩
  obtain ⟨a1, c1, a2, c2, p1, m1, d1, p2, m2, d2, p3, m3, d3, a5, c5, a6, c6, a7, c7, f1, g1, h1, f2, g2, h2, i1, j1, k1, i2, j2, k2, hcs, hr⟩ := hv
  simp only [Value.agg.injEq] at hcs
  subst hcs
  dsimp only [opC, wantO, noSel, noT, Tree.leaf, List.length_cons, List.length_nil]
  have HR := Lib.hid hr; have HB2 := Lib.hid (gr_tr HB.out hb)
  clear hr hb HINV HB
  have zhX : (#[.int .i64 3, .slice a1 1 c1, .slice a2 0 c2, .int .i64 3, .bool false, .slice p1 m1 d1, .slice p2 m2 d2, .slice p3 m3 d3, .slice a5 0 c5, .slice a6 0 c6, .slice a7 0 c7, .bool false, .slice f1 g1 h1, .int .i64 0, .slice f2 g2 h2, .int .i64 0, .bool false, .slice i1 j1 k1, .int .i64 0, .slice i2 j2 k2, .int .i64 0] : Array Value).all (·.oneCell') = true := by rw [← Array.all_toList]; rfl
  go_upto_region 2 with (refine wpList_store_row rfl 35 _ _ rfl _ _ rfl rfl 35 _ (heap_alloc_new w2 (.cells #[.int .i64 0, .slice none 0 0, .slice none 0 0, .int .i64 0, .bool false, .slice none 0 0, .slice none 0 0, .slice none 0 0, .slice none 0 0, .slice none 0 0, .slice none 0 0, .bool false, .slice none 0 0, .int .i64 0, .slice none 0 0, .int .i64 0, .bool false, .slice none 0 0, .int .i64 0, .slice none 0 0, .int .i64 0] 35)) op_info rfl zhX ?_)
  have hal : Below w2.heap.size w2 ((w2.alloc (.cells #[.int .i64 0, .slice none 0 0, .slice none 0 0, .int .i64 0, .bool false, .slice none 0 0, .slice none 0 0, .slice none 0 0, .slice none 0 0, .slice none 0 0, .slice none 0 0, .bool false, .slice none 0 0, .int .i64 0, .slice none 0 0, .int .i64 0, .bool false, .slice none 0 0, .int .i64 0, .slice none 0 0, .int .i64 0] 35)).setRow w2.heap.size #[.int .i64 3, .slice a1 1 c1, .slice a2 0 c2, .int .i64 3, .bool false, .slice p1 m1 d1, .slice p2 m2 d2, .slice p3 m3 d3, .slice a5 0 c5, .slice a6 0 c6, .slice a7 0 c7, .bool false, .slice f1 g1 h1, .int .i64 0, .slice f2 g2 h2, .int .i64 0, .bool false, .slice i1 j1 k1, .int .i64 0, .slice i2 j2 k2, .int .i64 0]) := (gr_al (gr_refl w2) (.cells #[.int .i64 0, .slice none 0 0, .slice none 0 0, .int .i64 0, .bool false, .slice none 0 0, .slice none 0 0, .slice none 0 0, .slice none 0 0, .slice none 0 0, .slice none 0 0, .bool false, .slice none 0 0, .int .i64 0, .slice none 0 0, .int .i64 0, .bool false, .slice none 0 0, .int .i64 0, .slice none 0 0, .int .i64 0] 35)).trans ⟨rfl, rfl, rfl, by simp, fun b hb => setRow_other _ w2.heap.size b _ (by omega)⟩
  have hbx := setRow_heap (w2.alloc (.cells #[.int .i64 0, .slice none 0 0, .slice none 0 0, .int .i64 0, .bool false, .slice none 0 0, .slice none 0 0, .slice none 0 0, .slice none 0 0, .slice none 0 0, .slice none 0 0, .bool false, .slice none 0 0, .int .i64 0, .slice none 0 0, .int .i64 0, .bool false, .slice none 0 0, .int .i64 0, .slice none 0 0, .int .i64 0] 35)) w2.heap.size _ #[.int .i64 3, .slice a1 1 c1, .slice a2 0 c2, .int .i64 3, .bool false, .slice p1 m1 d1, .slice p2 m2 d2, .slice p3 m3 d3, .slice a5 0 c5, .slice a6 0 c6, .slice a7 0 c7, .bool false, .slice f1 g1 h1, .int .i64 0, .slice f2 g2 h2, .int .i64 0, .bool false, .slice i1 j1 k1, .int .i64 0, .slice i2 j2 k2, .int .i64 0] _ (0, 0) (heap_alloc_new w2 (.cells #[.int .i64 0, .slice none 0 0, .slice none 0 0, .int .i64 0, .bool false, .slice none 0 0, .slice none 0 0, .slice none 0 0, .slice none 0 0, .slice none 0 0, .slice none 0 0, .bool false, .slice none 0 0, .int .i64 0, .slice none 0 0, .int .i64 0, .bool false, .slice none 0 0, .int .i64 0, .slice none 0 0, .int .i64 0] 35))
  have HX := Lib.hid hbx; have HR2 := Lib.hid (HR.out.later hal); have HB3 := Lib.hid (gr_tr HB2.out hal)
  clear zhX hal hbx HR HB2
  generalize World.setRow (w2.alloc _) _ _ = U at *
  have hal := gr_al (gr_refl U) (.cells #[.int .i64 1] 3)
  have hlit := lit_ints U #[.int .i64 1] 1 U.heap.size [1] rfl rfl rfl (by simp)
  have hsame := rs11_yes wantO _ _ _ (show OpV (U.alloc (.cells #[.int .i64 1] 3)) (.agg #[.int .i64 3, .slice a1 1 c1, .slice a2 0 c2, .int .i64 3, .bool false, .slice p1 m1 d1, .slice p2 m2 d2, .slice p3 m3 d3, .slice a5 0 c5, .slice a6 0 c6, .slice a7 0 c7, .bool false, .slice f1 g1 h1, .int .i64 0, .slice f2 g2 h2, .int .i64 0, .bool false, .slice i1 j1 k1, .int .i64 0, .slice i2 j2 k2, .int .i64 0]) wantO from ⟨a1, c1, a2, c2, p1, m1, d1, p2, m2, d2, p3, m3, d3, a5, c5, a6, c6, a7, c7, f1, g1, h1, f2, g2, h2, i1, j1, k1, i2, j2, k2, rfl, HR2.out.later hal⟩) (lit_opv (k := 3) hlit)
  have HSM := Lib.hid hsame; have HB4 := Lib.hid (gr_tr HB3.out hal)
  clear hal hlit hsame HR2 HB3
  go_wp2_with (refine wpList_load_row_g (by rfl) 35 _ rfl _ rfl 35 _ (0, 0) _ HX.out Try.underlying35 rfl op_info ?_)
  refine HSM.out.mono ?_
  rintro e w4 ⟨rfl, hb4⟩
  have HB5 := Lib.hid (gr_tr HB4.out hb4)
  clear hb4 HB4 HSM HX
  go_wp2_with fail
  go_ret
  exact ⟨rfl, HB5.out⟩
end Go.Proofs.Ytcbljiiomnhbjaa
