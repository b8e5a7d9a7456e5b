/- Opening arguments: a slice of ints that came in reads as a list of integers. -/
import Derived.Test.YtcbljiiomnhbjaaBase
import Derived.Test.YtcbljiiomnhbjaaRows
import Derived.ProofKit
import Derived.OpenShut
import Derived.ShutString
import Derived.ChangeOld
import Derived.SizedLaws
namespace Go.Proofs.Ytcbljiiomnhbjaa
set_option maxRecDepth 100000
open Go.ChangeShapes Go.WideShapes Go.ChangeAt Go.RowKit

theorem own : ownKnob Try.prog.godebug = none := by kernel_rfl
theorem laidOut : laidOutB Try.prog = true := by kernel_rfl
theorem bytes_int : Try.prog.bytesOf 3 = 8 := by kernel_rfl

theorem wf_i64 {n : Int} (h : (Lit.int .i64 n).wf = true) : -9223372036854775808 ≤ n ∧ n ≤ 9223372036854775807 := by
  simp [Lit.wf, IntKind.min, IntKind.max, IntKind.bits, IntKind.signed] at h
  omega

theorem weights_le {H : Type} {P : Program} {ts : List TypeId} {ds : List (DataW H)} (h : (DataW.weightsEach P ts ds).all (· ≤ reachBytes) = true) {j : Nat} {t : TypeId} {d : DataW H} (ht : ts[j]? = some t) (hd : ds[j]? = some d) :
    ∀ n ∈ d.weights P t, n ≤ reachBytes := fun n hn => by
  have := List.all_eq_true.1 h _ (DataW.weights_mem_each ht hd n hn)
  simpa using this

theorem open_path_at {H : Type} {enc : TypeId × Value → H} {w : World} {a : Option Addr} {len cap : Nat} {d : DataW H} {p : List MemPlace} {held : Bool}
    (h : DataW.Trod enc Try.prog w 0 (fun _ => true) held 22 (.slice a len cap) d p) (hw : ∀ n ∈ d.weights Try.prog 22, n ≤ reachBytes) :
    ∃ xs, Ints w (.slice a len cap) xs ∧ I64 xs := by
  obtain ⟨fuel, hf⟩ := h
  rcases open_ints Try.underlying22 Try.underlying3 (by kernel_rfl) hf with ⟨hcs, _⟩ | ⟨x, l, c, zs, hcs, _, hl, hm, hz, hx, hcell, hwz⟩
  · simp [Value.cells] at hcs
    obtain ⟨rfl, rfl, rfl⟩ := hcs
    exact ⟨[], ⟨none, 0, rfl, Nat.le_refl _, by simp [maxLen], by simp, (fun h => by omega)⟩, fun x hx => by simp at hx⟩
  · simp [Value.cells] at hcs
    obtain ⟨rfl, rfl, rfl⟩ := hcs
    simp only [if_true] at hz
    simp only [Prod.mk.injEq] at hx
    obtain ⟨rfl, _⟩ := hx
    have hb := hw _ (by simp only [DataW.weights, Try.underlying22]; exact List.mem_cons_self ..)
    rw [bytes_int] at hb
    simp only [lits, List.length_map, List.length_take, List.length_drop, reachBytes] at hb
    have htl : (zs.take len).length = len := by simp; omega
    refine ⟨zs.take len, ⟨some x, cap, by rw [htl], by omega, hm, by omega, fun hp => ?_⟩, fun y hy => wf_i64 (hwz y (List.mem_of_mem_take hy))⟩
    have h0 := hcell 0 (by omega)
    obtain ⟨b, off, spot⟩ := x
    cases spot with
    | some s => simp [World.cell?, Addr.add] at h0; split at h0 <;> cases h0
    | none =>
      refine ⟨b, off, rfl, fun j hj => ?_⟩
      have := hcell j (by omega)
      rw [Addr.add_lit] at this
      rw [this]
      have : j < len := by omega
      simp [this]
theorem open_path {H : Type} {enc : TypeId × Value → H} {w : World} {v : Value} {d : DataW H} {p : List MemPlace} {held : Bool}
    (h : DataW.Trod enc Try.prog w 0 (fun _ => true) held 22 v d p) {base : Nat} (hv0 : Value.okWide Try.prog w .any base 22 v) (hw : ∀ n ∈ d.weights Try.prog 22, n ≤ reachBytes) :
    ∃ xs, Ints w v xs ∧ I64 xs := by
  obtain ⟨a, len, cap, rfl⟩ := okWide_slice Try.underlying22 hv0
  exact open_path_at h hw
end Go.Proofs.Ytcbljiiomnhbjaa
