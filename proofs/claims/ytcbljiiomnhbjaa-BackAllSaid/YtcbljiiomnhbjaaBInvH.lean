/- Words for the walk of back.Inverse; stores of a selection into an operation's box. (geninv.py wrote it.) -/
import Derived.Test.YtcbljiiomnhbjaaOpN
import Derived.Test.YtcbljiiomnhbjaaTrails
import Derived.Deep.RegionHeld3
import Derived.Laws.CopyRow
namespace Go.Proofs.Ytcbljiiomnhbjaa
set_option maxRecDepth 100000
open Go.RowKit

theorem run_storeVar_at {P : Program} (w : World) (g o : Nat) (t ty : TypeId) (old cells : Array Value) (hg : w.heap[g]? = some (.cells old t (0, 0))) (hi : (P.info? ty).map (·.size) = some cells.size)
    (ho : o + cells.size ≤ old.size) (h1 : cells.all (·.oneCell') = true) :
    (storeVar ty ⟨g, o, none⟩ (.agg cells)).run P w = .ok () (w.setRow g (old.toList.take o ++ cells.toList ++ old.toList.drop (o + cells.size)).toArray) := by
  have := run_storeCells_at (P := P) g o t cells.toList 0 old w hg (by simp; omega) (fun v hv => (Array.all_eq_true_iff_forall_mem.1 h1) v (by simpa using hv))
  cases hq : P.info? ty with
  | none => simp [hq] at hi
  | some i =>
    have hs : i.size = cells.size := by simpa [hq] using hi
    simp only [Nat.add_zero, Array.length_toList] at this
    simp [storeVar, sizeOf, typeInfo, hq, Value.cells, hs, this]
theorem wpList_store_at {P : Program} {ops : Array Oper} {rest : List Oper} {o : Oper} {a : Act} {w : World} {Q : Exit → Act → World → Prop} (hgd : o.guard = none) (ty : TypeId) (x y : Operand) (ho : o.op = .store ty x y)
    (g off : Nat) (cells : Array Value) (hx : a.eval x = .pointer (some ⟨g, off, none⟩)) (hy : a.eval y = .agg cells)
    (t : TypeId) (old new : Array Value) (hg : w.heap[g]? = some (.cells old t (0, 0))) (hi : (P.info? ty).map (·.size) = some cells.size)
    (hold : off + cells.size ≤ old.size) (h1 : cells.all (·.oneCell') = true) (hnew : (old.toList.take off ++ cells.toList ++ old.toList.drop (off + cells.size)).toArray = new)
    (h : wpList P ops Q rest (a.put o.dst undef) (w.setRow g new)) : wpList P ops Q (o :: rest) a w :=
  wpList_plain hgd fun K hK => by
    subst hnew
    unfold Oper.wp execOp
    simp only [ho, hx, hy, Instr.storeAt, Instr.sureAddr, Sem.run_bind, Sem.run_pure, Result.andThen_ok, run_storeVar_at w g off t ty old cells hg hi hold h1]
    exact hK _ _ h
theorem wpList_sel11 {ops : Array Oper} {rest : List Oper} {o : Oper} {a : Act} {w : World} {Q : Exit → Act → World → Prop} (hgd : o.guard = none) (x y : Operand) (ho : o.op = .store 33 x y)
    (g : Nat) (y0 y1 y2 y3 y4 : Value) (hx : a.eval x = .pointer (some ⟨g, 11, none⟩)) (hy : a.eval y = .agg #[y0, y1, y2, y3, y4]) (x0 x1 x2 x3 x4 x5 x6 x7 x8 x9 x10 x11 x12 x13 x14 x15 x16 x17 x18 x19 x20 : Value) (t : TypeId)
    (hg : w.heap[g]? = some (.cells #[x0, x1, x2, x3, x4, x5, x6, x7, x8, x9, x10, x11, x12, x13, x14, x15, x16, x17, x18, x19, x20] t (0, 0))) (h1 : [y0, y1, y2, y3, y4].all (·.oneCell') = true)
    (h : wpList Try.prog ops Q rest (a.put o.dst undef) (w.setRow g #[x0, x1, x2, x3, x4, x5, x6, x7, x8, x9, x10, y0, y1, y2, y3, y4, x16, x17, x18, x19, x20])) : wpList Try.prog ops Q (o :: rest) a w :=
  wpList_store_at hgd 33 x y ho g 11 #[y0, y1, y2, y3, y4] hx hy t #[x0, x1, x2, x3, x4, x5, x6, x7, x8, x9, x10, x11, x12, x13, x14, x15, x16, x17, x18, x19, x20] #[x0, x1, x2, x3, x4, x5, x6, x7, x8, x9, x10, y0, y1, y2, y3, y4, x16, x17, x18, x19, x20] hg (show (Try.prog.info? 33).map (·.size) = some 5 by kernel_rfl) (by simp) (by rw [← Array.all_toList]; exact h1) rfl h
theorem wpList_sel16 {ops : Array Oper} {rest : List Oper} {o : Oper} {a : Act} {w : World} {Q : Exit → Act → World → Prop} (hgd : o.guard = none) (x y : Operand) (ho : o.op = .store 33 x y)
    (g : Nat) (y0 y1 y2 y3 y4 : Value) (hx : a.eval x = .pointer (some ⟨g, 16, none⟩)) (hy : a.eval y = .agg #[y0, y1, y2, y3, y4]) (x0 x1 x2 x3 x4 x5 x6 x7 x8 x9 x10 x11 x12 x13 x14 x15 x16 x17 x18 x19 x20 : Value) (t : TypeId)
    (hg : w.heap[g]? = some (.cells #[x0, x1, x2, x3, x4, x5, x6, x7, x8, x9, x10, x11, x12, x13, x14, x15, x16, x17, x18, x19, x20] t (0, 0))) (h1 : [y0, y1, y2, y3, y4].all (·.oneCell') = true)
    (h : wpList Try.prog ops Q rest (a.put o.dst undef) (w.setRow g #[x0, x1, x2, x3, x4, x5, x6, x7, x8, x9, x10, x11, x12, x13, x14, x15, y0, y1, y2, y3, y4])) : wpList Try.prog ops Q (o :: rest) a w :=
  wpList_store_at hgd 33 x y ho g 16 #[y0, y1, y2, y3, y4] hx hy t #[x0, x1, x2, x3, x4, x5, x6, x7, x8, x9, x10, x11, x12, x13, x14, x15, x16, x17, x18, x19, x20] #[x0, x1, x2, x3, x4, x5, x6, x7, x8, x9, x10, x11, x12, x13, x14, x15, y0, y1, y2, y3, y4] hg (show (Try.prog.info? 33).map (·.size) = some 5 by kernel_rfl) (by simp) (by rw [← Array.all_toList]; exact h1) rfl h
def undoO (o : OpF) : OpF := { o with kind := unK o.kind, old := o.new, new := o.old, from_ := o.into, into := o.from_ }
noncomputable def invE (o : OpF) : Int := if formX o ≠ 0 then formX o else if o.kind = 3 then backE o.path else if o.kind = 4 then nextE o.path else 0
def zeroO : OpF := ⟨0, [], [], 0, noT, [], [], [], noSel, noSel⟩
/-- The operation that undoes one. -/
noncomputable def invO (o : OpF) : OpF := if invE o ≠ 0 then zeroO else if o.kind = 5 then { undoO o with path := o.dest, dest := o.path } else if o.kind = 3 then { undoO o with path := backL o.path } else if o.kind = 4 then { undoO o with path := nextL o.path } else undoO o
theorem zero_op (w : World) : OpV w (.agg #[.int .i64 0, .slice none 0 0, .slice none 0 0, .int .i64 0, .bool false, .slice none 0 0, .slice none 0 0, .slice none 0 0, .slice none 0 0, .slice none 0 0, .slice none 0 0, .bool false, .slice none 0 0, .int .i64 0, .slice none 0 0, .int .i64 0, .bool false, .slice none 0 0, .int .i64 0, .slice none 0 0, .int .i64 0]) zeroO :=
  ⟨_, _, _, _, _, _, _, _, _, _, _, _, _, _, _, _, _, _, _, _, _, _, _, _, _, _, _, _, _, _, _, rfl, ⟨ints_nil w, ints_nil w, .mk (Sl.nil _ _ _ _) (Sl.nil _ _ _ _) (Sl.nil _ _ _ _) rfl (fun i hi => by simp at hi), Sl.nil _ _ _ _, Sl.nil _ _ _ _, Sl.nil _ _ _ _, ints_nil w, ints_nil w, ints_nil w, ints_nil w⟩⟩
theorem OpV.agg2 {w : World} {v : Value} {o : OpF} (h : OpV w v o) : ∃ (cs : Array Value) (a1 : Option Addr) (c1 : Nat), v = .agg cs ∧ cs[0]? = some (.int .i64 o.kind) ∧ cs[1]? = some (.slice a1 o.path.length c1) ∧ Ints w (.slice a1 o.path.length c1) o.path ∧ cs.size = 21 := by
  obtain ⟨a1, c1, a2, c2, p1, m1, d1, p2, m2, d2, p3, m3, d3, a5, c5, a6, c6, a7, c7, f1, g1, h1, f2, g2, h2, i1, j1, k1, i2, j2, k2, rfl, hr⟩ := h
  exact ⟨_, _, _, rfl, rfl, rfl, hr.path, rfl⟩
/-- What back.Inverse hands back. -/
def InvP (o : OpF) (er : Int) (w : World) (e : Ending) (w' : World) : Prop := ∃ cs : Array Value, e = .returned (.tuple #[.agg cs, .int .i64 er]) ∧ OpV w' (.agg cs) o ∧ Below w.heap.size w w'
theorem InvP.zero {w w' : World} {o' : OpF} {er er' : Int} (ho : o' = zeroO) (he : er' = er) (hb : Below w.heap.size w w') : InvP o' er' w (.returned (.tuple #[.agg #[.int .i64 0, .slice none 0 0, .slice none 0 0, .int .i64 0, .bool false, .slice none 0 0, .slice none 0 0, .slice none 0 0, .slice none 0 0, .slice none 0 0, .slice none 0 0, .bool false, .slice none 0 0, .int .i64 0, .slice none 0 0, .int .i64 0, .bool false, .slice none 0 0, .int .i64 0, .slice none 0 0, .int .i64 0], .int .i64 er])) w' := by
  subst ho he
  exact ⟨_, rfl, zero_op w', hb⟩
theorem OpOw.mono {w : World} {B C : Nat} {o : OpF} {v1 v2 : Value} {nc : List Value} {v5 v6 v7 f1 f2 i1 i2 : Value} (h : OpOw w B o v1 v2 nc v5 v6 v7 f1 f2 i1 i2) (hC : C ≤ B) : OpOw w C o v1 v2 nc v5 v6 v7 f1 f2 i1 i2 :=
  ⟨h.path.mono hC, h.dest.mono hC, h.node.weaken fun _ hb => Nat.le_trans hC hb, h.old.mono hC, h.new.mono hC, h.text.mono hC, h.fa.mono hC, h.fb.mono hC, h.ia.mono hC, h.ib.mono hC⟩
/-- What back.Inverse hands back: all its slices are its own. -/
def InvN (o : OpF) (er : Int) (w : World) (e : Ending) (w' : World) : Prop := ∃ cs : Array Value, e = .returned (.tuple #[.agg cs, .int .i64 er]) ∧ OpN w' w.heap.size (.agg cs) o ∧ Below w.heap.size w w'
theorem InvN.p {o : OpF} {er : Int} {w w' : World} {e : Ending} (h : InvN o er w e w') : InvP o er w e w' := by
  obtain ⟨cs, h1, h2, h3⟩ := h
  exact ⟨cs, h1, h2.opV, h3⟩
theorem zero_tr (w : World) (F : Nat → Prop) : Tr w F [.bool false, .slice none 0 0, .slice none 0 0, .slice none 0 0] noT :=
  Tr.mk (Fp := fun _ => False) (Fi := fun _ _ => False) (Sl.nil _ _ _ _) (Sl.nil _ _ _ _) (OwnSl.nil _ _ _ _ _) rfl (fun g h => by simp [Value.ownBlock] at h) (fun b h => h.elim) (fun i b _ h => h.elim) (fun i j b _ _ _ h => h.elim) (fun i hi => absurd hi (Nat.not_lt_zero _))
theorem zero_opN (w : World) (B : Nat) : OpN w B (.agg #[.int .i64 0, .slice none 0 0, .slice none 0 0, .int .i64 0, .bool false, .slice none 0 0, .slice none 0 0, .slice none 0 0, .slice none 0 0, .slice none 0 0, .slice none 0 0, .bool false, .slice none 0 0, .int .i64 0, .slice none 0 0, .int .i64 0, .bool false, .slice none 0 0, .int .i64 0, .slice none 0 0, .int .i64 0]) zeroO :=
  ⟨_, _, _, _, _, _, _, _, _, _, _, _, _, _, _, _, _, _, _, _, _, _, _, _, _, _, _, _, _, _, _, rfl, ⟨Own.nil _ _, Own.nil _ _, zero_tr w _, OwnSl.nil _ _ _ _ _, OwnSl.nil _ _ _ _ _, OwnSl.nil _ _ _ _ _, Own.nil _ _, Own.nil _ _, Own.nil _ _, Own.nil _ _⟩⟩
theorem InvN.zero {w w' : World} {o' : OpF} {er er' : Int} (ho : o' = zeroO) (he : er' = er) (hb : Below w.heap.size w w') : InvN o' er' w (.returned (.tuple #[.agg #[.int .i64 0, .slice none 0 0, .slice none 0 0, .int .i64 0, .bool false, .slice none 0 0, .slice none 0 0, .slice none 0 0, .slice none 0 0, .slice none 0 0, .slice none 0 0, .bool false, .slice none 0 0, .int .i64 0, .slice none 0 0, .int .i64 0, .bool false, .slice none 0 0, .int .i64 0, .slice none 0 0, .int .i64 0], .int .i64 er])) w' := by
  subst ho he
  exact ⟨_, rfl, zero_opN w' _, hb⟩
theorem op_info : (Try.prog.info? 35).map (·.size) = some 21 := by kernel_rfl
end Go.Proofs.Ytcbljiiomnhbjaa
