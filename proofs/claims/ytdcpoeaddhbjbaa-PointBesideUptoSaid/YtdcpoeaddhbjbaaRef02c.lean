/- Walks of package redlineref02: Copy, Parent, Next, Back. -/
import Derived.Test.YtdcpoeaddhbjbaaTrail5
namespace Go.Proofs.Ytdcpoeaddhbjbaa
set_option maxRecDepth 100000
open Go.RowKit

theorem Ints.src {w : World} {a : Option Addr} {n cap : Nat} {xs : List Int} (h : Ints w (.slice a n cap) xs) :
    xs.length = n ∧ (a = none → n = 0 ∧ cap = 0) ∧ ∀ ad, a = some ad → ∀ j u, (xs.map (Value.int .i64))[j]? = some u → w.cell? (ad.add j) = some u := by
  obtain ⟨a', cap', he, l1, hm, hb, ho⟩ := h
  simp only [Value.slice.injEq] at he
  obtain ⟨rfl, rfl, rfl⟩ := he
  refine ⟨rfl, fun hn => ?_, fun ad had j u hu => ?_⟩
  · subst hn
    rcases Nat.eq_zero_or_pos cap with h0 | hp
    · exact ⟨by omega, h0⟩
    · obtain ⟨b, off, hbo, _⟩ := ho hp
      cases hbo
  · have hj : j < xs.length := by simpa using (List.getElem?_eq_some_iff.1 hu).1
    obtain ⟨b, off, rfl, hc⟩ := ho (by omega)
    obtain rfl := Option.some.inj had
    rw [Addr.add_lit, hc j hj]
    simpa [hj] using hu

theorem ints_one (xs : List Int) : ∀ u ∈ xs.map (Value.int .i64), u.oneCell' = true := by
  intro u hu
  obtain ⟨x, _, rfl⟩ := List.mem_map.1 hu
  rfl

set_option maxHeartbeats 400000 in
theorem rcopy_any (xs : List Int) (v : Value) (w : World) (h : Ints w v xs) :
    Calls Try.prog 111 #[v] w fun e w' => ∃ v', e = .returned v' ∧ Own w' w.heap.size v' xs ∧ Below w.heap.size w w' := by
  obtain ⟨a, cap, rfl⟩ := h.slice
  have HB := Lib.hid h.len
  obtain ⟨_, s2, s3⟩ := h.src
  have H2 := Lib.hid s2; have H3 := Lib.hid s3
  have H1 : Hid ((xs.map (Value.int .i64)).length = xs.length * 1) := by show _ = _; simp
  have H5 : Hid (0 + xs.length ≤ maxLen) := by show _ ≤ _; have := HB.out; unfold maxLen; omega
  have H6 : Hid ((0 + xs.length) * 8 ≤ 140737488355328) := by show _ ≤ _; have := HB.out; omega
  clear s2 s3 h
  obtain ⟨i0, hi, hz0, hz1, hz2⟩ := info_parts info_int
  have HI := Lib.hid hi; have HZ0 := Lib.hid hz0; have HZ1 := Lib.hid hz1; have HZ2 := Lib.hid hz2
  clear hi hz0 hz1 hz2
  go_enter Try.func111, Try.ntmps111
  go_wp2_with (at_builtin; refine wpList_append_any _ rfl _ _ 27 rfl w.heap.size 3 i0 (.int .i64 0) 1 8 Try.underlying27 HI.out HZ0.out HZ1.out HZ2.out rfl (by decide) _ 0 [] rfl (World.ownsRow_nil _ _ _ _) a xs.length cap (xs.map (Value.int .i64)) rfl H1.out H2.out H3.out (ints_one xs) H5.out H6.out (Nat.le_refl _) ?_)
  intro v' w1 hown hgrow
  go_wp2
  go_ret
  refine ⟨v', rfl, ⟨by simpa using hown, HB.out⟩, ?_⟩
  exact (Below.refl _ w).grown hgrow (Nat.le_refl _) (by intro k hk; simp [Value.ownBlock] at hk)

set_option maxHeartbeats 400000 in
theorem rparent_any (xs : List Int) (v : Value) (w : World) (h : Ints w v xs) :
    Calls Try.prog 97 #[v] w (Two (parentL xs) (parentE xs) w) := by
  obtain ⟨a1, c1, rfl, l1, _, b1, _⟩ := id h
  by_cases h0 : xs.length = 0
  · have q : (((xs.length : Nat) : Int) == 0) = true := by simp [h0]
    have H0 := Lib.hid h0
    clear h0
    go_enter Try.func97, Try.ntmps97
    go_wp2
    go_ret2
    exact Two.nil (by simp [parentL, H0.out]) (by rw [parentE, if_pos H0.out]) (Below.refl _ _)
  · have q : (((xs.length : Nat) : Int) == 0) = false := by rw [beq_eq_false_iff_ne]; omega
    have H0 := Lib.hid h0
    have p : 0 < xs.length := by omega
    clear h0
    go_enter Try.func97, Try.ntmps97
    go_wp2_with fail
    refine (rcopy_any (parentL xs) _ _ (h.take (by omega))).mono ?_
    rintro e w2 ⟨v', rfl, ho, hb⟩
    go_wp2
    go_ret2
    exact Two.mk ho (by rw [parentE, if_neg H0.out]) hb

end Go.Proofs.Ytdcpoeaddhbjbaa
