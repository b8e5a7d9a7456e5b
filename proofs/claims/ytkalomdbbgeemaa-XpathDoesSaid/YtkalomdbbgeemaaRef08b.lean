/- The walk of redlineref08.Move, all cases joined. -/
import Derived.Test.YtkalomdbbgeemaaRef08
import Derived.Test.YtkalomdbbgeemaaLawStays
namespace Go.Proofs.Ytkalomdbbgeemaa
open Go.RowKit

theorem rmove_any (xs q to : List Int) (kind pos : Int) (v1 v2 : Value) (w : World) (h1 : Ints w v1 xs) (h2 : OpAt w v2 kind q to pos) (hlen : (to.length + xs.length) * 8 ≤ 140737488351232) :
    Calls Try.prog 41 #[v1, v2] w (Mv (moveP xs kind q to pos) w) := by
  cases s1 : smallB xs
  · exact rmove_e1 xs q to pos kind v1 v2 w h1 h2 s1 (by simp [moveP, s1])
  cases s2 : smallB q
  · exact rmove_e2 xs q to pos kind v1 v2 w h1 h2 s1 s2 (by simp [moveP, s2])
  cases s3 : smallB to
  · exact rmove_e3 xs q to pos kind v1 v2 w h1 h2 s1 s2 s3 (by simp [moveP, s3])
  by_cases p1 : pos < 0
  · exact rmove_e4 xs q to pos kind v1 v2 w h1 h2 s1 s2 s3 p1 (by rw [moveP, if_neg]; rintro ⟨_, _, _, h⟩; exact (small_one.1 h).1 p1)
  by_cases p2 : 1048576 < pos
  · exact rmove_e5 xs q to pos kind v1 v2 w h1 h2 s1 s2 s3 p1 p2 (by rw [moveP, if_neg]; rintro ⟨_, _, _, h⟩; exact (small_one.1 h).2 p2)
  have s4 : smallB [pos] = true := small_one.2 ⟨p1, p2⟩
  have hS : smallB xs = true ∧ smallB q = true ∧ smallB to = true ∧ smallB [pos] = true := ⟨s1, s2, s3, s4⟩
  rcases Nat.eq_zero_or_pos q.length with h0 | hq
  · exact rmove_z xs q to pos kind v1 v2 w h1 h2 s1 s2 s3 p1 p2 h0 (by rw [moveP, if_pos hS, if_pos h0])
  have hq' : ¬ q.length = 0 := by omega
  have hM := Eq.refl (moveP xs kind q to pos)
  conv at hM =>
    rhs
    unfold moveP
  rw [if_pos hS, if_neg hq'] at hM
  by_cases k1 : kind = 1
  · subst k1
    rw [if_pos rfl] at hM
    rcases stands_range q xs with hh | hh | hh | hh
    · exact rmove_k1h0 xs q to pos v1 v2 w h1 h2 s1 s2 s3 p1 p2 hq hh (by rw [hM, insL, if_pos hh])
    · exact rmove_k1h1 xs q to pos v1 v2 w h1 h2 s1 s2 s3 p1 p2 hq hh (by rw [hM, insL, if_neg (by omega)])
    · exact rmove_k1h2 xs q to pos v1 v2 w h1 h2 s1 s2 s3 p1 p2 hq hh (by rw [hM, insL, if_neg (by omega)])
    · exact rmove_k1h3 xs q to pos v1 v2 w h1 h2 s1 s2 s3 p1 p2 hq hh (by rw [hM, insL, if_neg (by omega)])
  rw [if_neg k1] at hM
  by_cases k2 : kind = 2
  · subst k2
    rw [if_pos rfl] at hM
    rcases stands_range q xs with hh | hh | hh | hh
    · exact rmove_k2h0 xs q to pos v1 v2 w h1 h2 s1 s2 s3 p1 p2 hq hh (by rw [hM, hh]; simp)
    · exact rmove_k2h1 xs q to pos v1 v2 w h1 h2 s1 s2 s3 p1 p2 hq hh (by rw [hM, hh]; simp)
    · exact rmove_k2h2 xs q to pos v1 v2 w h1 h2 s1 s2 s3 p1 p2 hq hh (by rw [hM, hh]; simp)
    · exact rmove_k2h3 xs q to pos v1 v2 w h1 h2 s1 s2 s3 p1 p2 hq hh (by rw [hM, hh]; simp)
  rw [if_neg k2] at hM
  by_cases k3 : kind = 3
  · subst k3
    rw [if_pos rfl] at hM
    by_cases hz : q.getD (q.length - 1) 0 = 0
    · rw [if_pos hz] at hM
      rcases stands_range q xs with hh | hh | hh | hh
      · exact rmove_k3zh0 xs q to pos v1 v2 w h1 h2 s1 s2 s3 p1 p2 hz hq hh hM
      · exact rmove_k3zh1 xs q to pos v1 v2 w h1 h2 s1 s2 s3 p1 p2 hz hq hh hM
      · exact rmove_k3zh2 xs q to pos v1 v2 w h1 h2 s1 s2 s3 p1 p2 hz hq hh hM
      · exact rmove_k3zh3 xs q to pos v1 v2 w h1 h2 s1 s2 s3 p1 p2 hz hq hh hM
    · rw [if_neg hz] at hM
      rcases stands_range q xs with hh | hh | hh | hh
      · exact rmove_k3h0 xs q to pos v1 v2 w h1 h2 s1 s2 s3 p1 p2 hz hq hh (by rw [hM, hh]; simp)
      · exact rmove_k3h1 xs q to pos v1 v2 w h1 h2 s1 s2 s3 p1 p2 hz hq hh (by rw [hM, hh]; simp)
      · exact rmove_k3h2 xs q to pos v1 v2 w h1 h2 s1 s2 s3 p1 p2 hz hq hh (by rw [hM, hh]; simp)
      · exact rmove_k3h3 xs q to pos v1 v2 w h1 h2 s1 s2 s3 p1 p2 hz hq hh (by rw [hM, hh]; simp)
  rw [if_neg k3] at hM
  by_cases k4 : kind = 4
  · subst k4
    rw [if_pos rfl] at hM
    rcases stands_range q xs with hh | hh | hh | hh
    · exact rmove_k4h0 xs q to pos v1 v2 w h1 h2 s1 s2 s3 p1 p2 hq hh (by rw [hM, hh]; simp)
    · exact rmove_k4h1 xs q to pos v1 v2 w h1 h2 s1 s2 s3 p1 p2 hq hh (by rw [hM, hh]; simp)
    · by_cases hz : pos ≤ xs.getD q.length 0
      · exact rmove_k4h2y xs q to pos v1 v2 w h1 h2 s1 s2 s3 p1 p2 hz hq hh (by rw [hM, if_pos ⟨hh, hz⟩])
      · exact rmove_k4h2n xs q to pos v1 v2 w h1 h2 s1 s2 s3 p1 p2 hz hq hh (by rw [hM, if_neg (fun h => hz h.2), hh]; simp)
    · exact rmove_k4h3 xs q to pos v1 v2 w h1 h2 s1 s2 s3 p1 p2 hq hh (by rw [hM, hh]; simp)
  rw [if_neg k4] at hM
  by_cases k5 : kind = 5
  · subst k5
    rw [if_pos rfl] at hM
    rcases stands_range q xs with hh | hh | hh | hh
    · rcases Nat.eq_zero_or_pos to.length with t0 | t0
      · exact rmove_k5h0tz xs q to pos v1 v2 w h1 h2 s1 s2 s3 p1 p2 t0 hq hh (by rw [hM, hh]; simp)
      rcases stands_range to (xs) with ht | ht | ht | ht
      · exact rmove_k5h0t0 xs q to pos v1 v2 w h1 h2 s1 s2 s3 p1 p2 t0 ht hq hh (by rw [hM, hh]; simp)
      · exact rmove_k5h0t1 xs q to pos v1 v2 w h1 h2 s1 s2 s3 p1 p2 t0 ht hq hh (by rw [hM, hh]; simp)
      · exact rmove_k5h0t2 xs q to pos v1 v2 w h1 h2 s1 s2 s3 p1 p2 t0 ht hq hh (by rw [hM, hh]; simp)
      · exact rmove_k5h0t3 xs q to pos v1 v2 w h1 h2 s1 s2 s3 p1 p2 t0 ht hq hh (by rw [hM, hh]; simp)
    · rcases Nat.eq_zero_or_pos to.length with t0 | t0
      · exact rmove_k5h1tz xs q to pos v1 v2 w h1 h2 s1 s2 s3 p1 p2 t0 hq hh (by rw [hM, hh]; simp)
      rcases stands_range to (shiftL xs (q.length - 1) (-1)) with ht | ht | ht | ht
      · exact rmove_k5h1t0 xs q to pos v1 v2 w h1 h2 s1 s2 s3 p1 p2 t0 ht hq hh (by rw [hM, hh]; simp)
      · exact rmove_k5h1t1 xs q to pos v1 v2 w h1 h2 s1 s2 s3 p1 p2 t0 ht hq hh (by rw [hM, hh]; simp)
      · exact rmove_k5h1t2 xs q to pos v1 v2 w h1 h2 s1 s2 s3 p1 p2 t0 ht hq hh (by rw [hM, hh]; simp)
      · exact rmove_k5h1t3 xs q to pos v1 v2 w h1 h2 s1 s2 s3 p1 p2 t0 ht hq hh (by rw [hM, hh]; simp)
    · exact rmove_k5h2 xs q to pos v1 v2 w h1 h2 s1 s2 s3 p1 p2 hlen hq hh (by rw [hM, hh]; simp)
    · obtain ⟨a, c, he, hle, _⟩ := id h1
      have hqx : q.length ≤ xs.length := (stands_len (q := q) (p := xs) (by rw [hh]; decide)).2
      rcases Nat.lt_or_ge q.length c with hc | hc
      · exact rmove_k5h3r xs q to pos v1 v2 w h1 h2 s1 s2 s3 p1 p2 hlen (by intro a' n' c' h; rw [he] at h; simp only [Value.slice.injEq] at h; omega) hq hh (by rw [hM, hh]; simp)
      · exact rmove_k5h3n xs q to pos v1 v2 w h1 h2 s1 s2 s3 p1 p2 hlen (by intro a' n' c' h; rw [he] at h; simp only [Value.slice.injEq] at h; omega) hq hh (by rw [hM, hh]; simp)
  rw [if_neg k5] at hM
  rcases stands_range q xs with hh | hh | hh | hh
  · exact rmove_koh0 xs q to pos kind v1 v2 w h1 h2 s1 s2 s3 p1 p2 k1 k2 k3 k4 k5 hq hh hM
  · exact rmove_koh1 xs q to pos kind v1 v2 w h1 h2 s1 s2 s3 p1 p2 k1 k2 k3 k4 k5 hq hh hM
  · exact rmove_koh2 xs q to pos kind v1 v2 w h1 h2 s1 s2 s3 p1 p2 k1 k2 k3 k4 k5 hq hh hM
  · exact rmove_koh3 xs q to pos kind v1 v2 w h1 h2 s1 s2 s3 p1 p2 k1 k2 k3 k4 k5 hq hh hM
end Go.Proofs.Ytkalomdbbgeemaa
