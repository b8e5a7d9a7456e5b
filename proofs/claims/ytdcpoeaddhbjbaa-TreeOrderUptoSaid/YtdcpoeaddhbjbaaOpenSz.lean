/- Opening an argument that is a node, where a bound on all that comes in is given: so many nodes and runes at the most. -/
import Derived.Test.YtdcpoeaddhbjbaaOpenBulk
import Derived.Test.YtdcpoeaddhbjbaaWalk
namespace Go.Proofs.Ytdcpoeaddhbjbaa
set_option maxRecDepth 100000
open Go.ChangeShapes Go.WideShapes Go.ChangeAt Go.RowKit Go.Deep

theorem one_bulk {H : Type} (d : DataW H) : 1 ≤ Rows.uptoBulk d := by
  cases d with
  | lit x => cases x <;> simp [Rows.uptoBulk]
  | _ => simp [Rows.uptoBulk]
theorem ones_bulk {H : Type} (D : Nat → DataW H) : ∀ l : List Nat, l.length ≤ Rows.uptoBulkAll (l.map D)
  | [] => by simp
  | i :: l => by
    have h1 := one_bulk (D i)
    have h2 := ones_bulk D l
    simp only [List.map_cons, Rows.uptoBulkAll, List.length_cons]
    omega
theorem size_bulkS {H : Type} (K : Nat → Tree) (D : Nat → DataW H) : ∀ l : List Nat, (∀ i ∈ l, szT (K i) ≤ Rows.uptoBulk (D i)) → szK (l.map K) ≤ Rows.uptoBulkAll (l.map D)
  | [], _ => by simp [szK]
  | i :: l, h => by
    have h1 := h i (by simp)
    have h2 := size_bulkS K D l fun j hj => h j (by simp [hj])
    simp only [List.map_cons, szK, Rows.uptoBulkAll]
    omega

theorem open_node_atS {H : Type} {enc : TypeId × Value → H} {w : World} {held : Bool} : ∀ (k fuel : Nat) (cs : List Value) (x : DataW H × List MemPlace), SizeOf.sizeOf x.1 ≤ k →
    DataW.trod enc Try.prog w 0 (fun _ => true) held fuel 26 cs = some x → (∀ n ∈ x.1.weights Try.prog 26, n ≤ reachBytes) → ∃ t, NodeAt Any w cs t ∧ szT t ≤ Rows.uptoBulk x.1 := by
  intro k
  induction k with
  | zero =>
    intro fuel cs x hk
    have : 0 < SizeOf.sizeOf x.1 := by cases x.1 <;> simp <;> omega
    omega
  | succ k ih =>
    intro fuel cs x hk h hw
    obtain ⟨xs, n, _, rfl, hl, hlen, hf⟩ := DataW.trod_struct Try.underlying26 h
    rw [show Try.prog.cellsOf 26 = 4 from by kernel_rfl] at hl
    match xs, hlen, cs, hl with
    | [y0, y1, y2, y3], _, [c0, c1, c2, c3], _ =>
      have f0 := hf 0 _ rfl
      have f1 := hf 1 _ rfl
      have f2 := hf 2 _ rfl
      have f3 := hf 3 _ rfl
      have k0 : Try.prog.cellsOf 4 = 1 := by kernel_rfl
      have k1 : Try.prog.cellsOf 22 = 1 := by kernel_rfl
      have k2 : Try.prog.cellsOf 23 = 1 := by kernel_rfl
      have k3 : Try.prog.cellsOf 24 = 1 := by kernel_rfl
      simp [k0, k1, k2, k3] at f0 f1 f2 f3
      have wt : ∀ (j : Nat) (t : TypeId) (y : DataW H × List MemPlace), ((Try.prog.underlying 26).map fun d => match d with | .struct fs => (fs.toList.map (·.type))[j]? | _ => none) = some (some t) →
          [y0.1, y1.1, y2.1, y3.1][j]? = some y.1 → ∀ m ∈ y.1.weights Try.prog t, m ≤ reachBytes := by
        intro j t y ht hy m hm
        refine hw m ?_
        rw [Try.underlying26] at ht
        simp only [Option.map_some, Option.some.injEq] at ht
        simp only [List.map_cons, List.map_nil, DataW.weights, Try.underlying26]
        exact DataW.weights_mem_each ht hy m hm
      obtain ⟨b, hb, _⟩ := DataW.trod_bool Try.underlying4 f0
      obtain rfl : c0 = .bool b := by simpa using hb
      obtain ⟨es1, n1, D1, P1, s1, _, e1⟩ := open_slB (size := 2) (bytes := 32) Try.underlying22 (by kernel_rfl) (by kernel_rfl) (by decide) f1 (wt 1 _ y1 (by rw [Try.underlying26]; rfl) rfl)
      obtain ⟨es2, n2, D2, P2, s2, u2, e2⟩ := open_slB (size := 1) (bytes := 4) Try.underlying23 (by kernel_rfl) (by kernel_rfl) (by decide) f2 (wt 2 _ y2 (by rw [Try.underlying26]; rfl) rfl)
      obtain ⟨es3, n3, D3, P3, s3, u3, e3⟩ := open_slB (size := 4) (bytes := 80) Try.underlying24 (by kernel_rfl) (by kernel_rfl) (by decide) f3 (wt 3 _ y3 (by rw [Try.underlying26]; rfl) rfl)
      obtain ⟨ps, rfl⟩ : ∃ ps : List (ByteArray × ByteArray), es1 = ps.map propCells := map_form fun i hi => by
        obtain ⟨z0, z1, m, _, hl, g0, g1⟩ := trod_struct2 Try.underlying101 (e1 i hi).1
        have ks : Try.prog.cellsOf 9 = 1 := by kernel_rfl
        rw [show Try.prog.cellsOf 101 = 2 from by kernel_rfl] at hl
        match es1.getD i [], hl, g0, g1 with
        | [d0, d1], _, g0, g1 =>
          simp [ks] at g0 g1
          obtain ⟨u0, hu0, _⟩ := DataW.trod_string Try.underlying9 g0
          obtain ⟨u1, hu1, _⟩ := DataW.trod_string Try.underlying9 g1
          exact ⟨(u0, u1), by simp at hu0 hu1; rw [hu0, hu1]; rfl⟩
      obtain ⟨rs, rfl⟩ : ∃ rs : List Int, es2 = rs.map runeCells := map_form fun i hi => by
        obtain ⟨z, hz, _⟩ := DataW.trod_int Try.underlying21 (e2 i hi).1
        exact ⟨z, hz⟩
      have hks : ∀ i, i < es3.length → ∃ t, NodeAt Any w (es3.getD i []) t ∧ szT t ≤ Rows.uptoBulk (D3 i) := fun i hi => by
        obtain ⟨g1, g2, g3⟩ := e3 i hi
        refine ih _ _ _ ?_ g1 g2
        simp at hk g3 ⊢
        omega
      obtain ⟨K, hK⟩ := choose_lt (p := fun i t => NodeAt Any w (es3.getD i []) t ∧ szT t ≤ Rows.uptoBulk (D3 i)) hks
      refine ⟨.mk b ps rs ((List.range es3.length).map K), .mk s1 s2 s3 (by simp) fun i hi => ?_, ?_⟩
      · simp only [List.length_map, List.length_range] at hi
        have := (hK i hi).1
        simpa [hi] using this
      · have hone := ones_bulk D2 (List.range (rs.map runeCells).length)
        rw [List.length_range, List.length_map] at hone
        rw [List.length_map] at u2
        have hsum := size_bulkS K D3 (List.range es3.length) fun i hi => (hK i (List.mem_range.1 hi)).2
        rw [szT]
        simp only [List.map_cons, List.map_nil, Rows.uptoBulk, Rows.uptoBulkAll]
        omega

theorem open_nodeS {H : Type} {enc : TypeId × Value → H} {w : World} {v : Value} {d : DataW H} {p : List MemPlace} {held : Bool}
    (h : DataW.Trod enc Try.prog w 0 (fun _ => true) held 26 v d p) {base : Nat} (hv0 : Value.okWide Try.prog w .any base 26 v) (hw : ∀ n ∈ d.weights Try.prog 26, n ≤ reachBytes) (hb : Rows.uptoBulk d ≤ 1048576) :
    ∃ t, NodeV w v t ∧ szT t ≤ 1048576 := by
  obtain ⟨cs, rfl, hsz⟩ := okWide_struct Try.underlying26 hv0
  obtain ⟨fuel, hf⟩ := h
  obtain ⟨t, ht, hs⟩ := open_node_atS _ fuel _ (d, p) (Nat.le_refl _) hf hw
  exact ⟨t, ⟨cs.toList, by simp, ht⟩, Nat.le_trans hs hb⟩
end Go.Proofs.Ytdcpoeaddhbjbaa
