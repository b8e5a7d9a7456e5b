/- Walks of Go's slices.Grow (of nil) and slices.Concat at []int; of redlineref02.With. -/
import Derived.Test.YtdcpoeaddhbjbaaRefs
import Derived.Lib.AppendZerosOnto
import Derived.Lib.SliceRun
namespace Go.Proofs.Ytdcpoeaddhbjbaa
set_option maxRecDepth 100000
open Go.RowKit

/-- Appending a slice of ints onto one of the call's own, in one law. -/
theorem own_append {w1 : World} {B : Nat} {v' : Value} {xs ys : List Int} (hown : w1.ownsRow B 3 1 v' (xs.length + ys.length) (xs.map (Value.int .i64) ++ ys.map (Value.int .i64))) (hb : (xs.length + ys.length) * 8 ≤ 140737488351232) :
    Own w1 B v' (xs ++ ys) := ⟨by rw [List.length_append, List.map_append]; exact hown, by rw [List.length_append]; exact hb⟩

set_option maxHeartbeats 1000000 in
theorem rwith_any (xs ys : List Int) (v1 v2 : Value) (w : World) (h1 : Ints w v1 xs) (h2 : Ints w v2 ys) (hl : (xs.length + ys.length) * 8 ≤ 140737488351232) :
    Calls Try.prog 107 #[v1, v2] w fun e w' => ∃ v', e = .returned v' ∧ Own w' w.heap.size v' (xs ++ ys) ∧ Below w.heap.size w w' := by
  obtain ⟨a2, c2, rfl⟩ := h2.slice
  obtain ⟨i0, hi, hz0, hz1, hz2⟩ := info_parts info_int
  have HI := Lib.hid hi; have HZ0 := Lib.hid hz0; have HZ1 := Lib.hid hz1; have HZ2 := Lib.hid hz2
  have HB := Lib.hid hl
  clear hi hz0 hz1 hz2 hl
  go_enter Try.func107, Try.ntmps107
  go_wp2_with fail
  refine (rcopy_any xs v1 _ h1).mono ?_
  rintro e w1 ⟨v', rfl, ho, hb⟩
  obtain ⟨_, s2, s3⟩ := (h2.below hb (Nat.le_refl _)).src
  have H2 := Lib.hid s2; have H3 := Lib.hid s3; have HO := Lib.hid ho
  have H1 : Hid ((ys.map (Value.int .i64)).length = ys.length * 1) := by show _ = _; simp
  have H5 : Hid (xs.length + ys.length ≤ maxLen) := by show _ ≤ _; have := HB.out; unfold maxLen; omega
  have H6 : Hid ((xs.length + ys.length) * 8 ≤ 140737488355328) := by show _ ≤ _; have := HB.out; omega
  clear s2 s3 ho
  go_wp2_with (at_builtin; refine wpList_append_any _ rfl _ _ 27 rfl w.heap.size 3 i0 (.int .i64 0) 1 8 Try.underlying27 HI.out HZ0.out HZ1.out HZ2.out rfl (by decide) _ xs.length (xs.map (Value.int .i64)) rfl HO.out.1 a2 ys.length c2 (ys.map (Value.int .i64)) rfl H1.out H2.out H3.out (ints_one ys) H5.out H6.out hb.size ?_)
  intro v2 w2 hown hgrow
  go_wp2
  go_ret
  exact ⟨_, rfl, own_append hown HB.out, hb.grown hgrow hb.size (fun g hg => (HO.out.1.lt g hg).1)⟩

/-- All of them, one behind the other. -/
def flatK (xss : List (List Int)) (k : Nat) : List Int := (xss.take k).flatten
theorem flatK_succ {xss : List (List Int)} {k : Nat} (h : k < xss.length) : flatK xss (k + 1) = flatK xss k ++ xss.getD k [] := by
  unfold flatK
  rw [List.take_succ_eq_append_getElem h, List.flatten_append]
  simp [h]
theorem flatK_le (xss : List (List Int)) (k : Nat) : (flatK xss k).length ≤ xss.flatten.length := by
  have h : xss.flatten = flatK xss k ++ (xss.drop k).flatten := by
    unfold flatK
    rw [← List.flatten_append, List.take_append_drop]
  rw [h, List.length_append]
  omega
theorem flatK_all (xss : List (List Int)) : flatK xss xss.length = xss.flatten := by simp [flatK]

end Go.Proofs.Ytdcpoeaddhbjbaa
