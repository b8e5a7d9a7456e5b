/- Walk of redlinelaw07.short: some answer; opening an argument that is a point. -/
import Derived.Test.YtdcpoeaddhbjbaaLive7
namespace Go.Proofs.Ytdcpoeaddhbjbaa
set_option maxRecDepth 100000
open Go.RowKit

/-- Points in a slice, of which only the form is known. -/
def PtsForm (w : World) (v : Value) (n : Nat) : Prop := ∃ es : List (List Value), Sl Any w 2 32 v es ∧ es.length = n ∧ ∀ e ∈ es, ∃ a m c o, e = [.slice a m c, .int .i64 o]

set_option maxHeartbeats 1000000 in
theorem short7_any (n : Nat) (v : Value) (w : World) (h : PtsForm w v n) : Calls Try.prog 30 #[v] w (SomeBool w) := by
  obtain ⟨es, hs, hl, hf⟩ := h
  obtain ⟨a, c, rfl⟩ := hs.slice
  have hlen := hs.len
  rw [hl] at hs hlen
  rw [hl]
  have HS := Lib.hid hs; have HL := Lib.hid hl; have HF := Lib.hid hf
  clear hs hl hf
  go_enter Try.func30, Try.ntmps30
  go_wp2
  go_loopw [7] (fun i wr => ∃ k : Nat, k ≤ n ∧ i = .int .i64 k ∧ Below w.heap.size w wr) (fun i _ => n - (intOf i).toNat)
  case atStart => exact ⟨0, Nat.zero_le _, rfl, Below.refl _ _⟩
  case round =>
    obtain ⟨k, hk, rfl, hb⟩ := hrel
    have HB := Lib.hid hb
    by_cases hlt : k < n
    · obtain ⟨b, off, rfl, hc, _, hr, _⟩ := (HS.out.later hb (Nat.le_refl _)).at_ k hlt
      obtain ⟨a1, m1, c1, o1, hform⟩ := HF.out (es.getD k []) (by have := HL.out; simp [show k < es.length by omega])
      rw [hform] at hr
      have e0 : wr.cell? ⟨b, off + k * 2, none⟩ = some (.slice a1 m1 c1) := hr 0 _ rfl
      have e1 : wr.cell? ⟨b, off + k * 2 + 1, none⟩ = some (.int .i64 o1) := hr 1 _ rfl
      clear hform hr hb
      by_cases hm : 50 < m1
      · have hd : decide (50 < m1) = true := by simpa using hm
        go_wp2_with fail
        go_ret
        exact ⟨_, rfl, gr_al HB.out _⟩
      · have hd : decide (50 < m1) = false := by simpa using hm
        go_wp2_with fail
        go_roundw
        case rel => exact ⟨k + 1, by omega, by go_num, gr_al HB.out _⟩
        case measure => simp [intOf]; omega
    · have : k = n := by omega
      subst this
      clear hb
      go_wp2_with fail
      go_ret
      exact ⟨_, rfl, HB.out⟩

/-- A literal slice of points. -/
theorem pts_lit {w : World} {g n : Nat} {cs : Array Value} (es : List (List Value)) (hg : w.heap.size = g) (hn : es.length = n) (hs : n ≤ 1000) (hc : cs = es.flatten.toArray) (hf : ∀ e ∈ es, ∃ a m c o, e = [.slice a m c, .int .i64 o]) :
    PtsForm (w.alloc (.cells cs 35)) (.slice (some ⟨g, 0, none⟩) n n) n := by
  subst hg hn hc
  have h2 : ∀ e ∈ es, e.length = 2 := fun e he => by obtain ⟨a, m, c, o, rfl⟩ := hf e he; rfl
  obtain ⟨f1, f2⟩ := flat_get (size := 2) (by decide) es h2
  refine ⟨es, ⟨_, _, rfl, Nat.le_refl _, by unfold maxLen; omega, by omega, h2, fun _ => ⟨w.heap.size, 0, rfl, fun j hj => ⟨trivial, fun k u hu => ?_⟩⟩⟩, rfl, hf⟩
  rw [cell_of_row _ w.heap.size _ _ _ (0, 0) (heap_alloc_new w _)]
  have hk : k < 2 := by
    have := (List.getElem?_eq_some_iff.1 hu).1
    rwa [h2 (es.getD j []) (by simp [hj])] at this
  rw [List.getElem?_toArray, f2, show (0 + j * 2 + k) / 2 = j by omega, show (0 + j * 2 + k) % 2 = k by omega]
  exact hu

/-- A point's value. -/
def PointV (w : World) (v : Value) (x : List Int × Int) : Prop := ∃ a n c, v = .agg #[.slice a n c, .int .i64 x.2] ∧ Ints w (.slice a n c) x.1 ∧ I64 x.1
end Go.Proofs.Ytdcpoeaddhbjbaa
