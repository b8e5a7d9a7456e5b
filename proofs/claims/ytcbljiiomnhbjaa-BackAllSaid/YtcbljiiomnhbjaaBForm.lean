/- Walk of back.Form. -/
import Derived.Test.YtcbljiiomnhbjaaBSet
import Derived.IntWalk
namespace Go.Proofs.Ytcbljiiomnhbjaa
set_option maxRecDepth 100000
open Go.RowKit

theorem OpV.later {w w' : World} {v : Value} {o : OpF} (h : OpV w v o) (hb : Below w.heap.size w w') : OpV w' v o := by
  obtain ⟨a1, c1, a2, c2, p1, m1, d1, p2, m2, d2, p3, m3, d3, a5, c5, a6, c6, a7, c7, f1, g1, h1, f2, g2, h2, i1, j1, k1, i2, j2, k2, rfl, hr⟩ := h
  exact ⟨a1, c1, a2, c2, p1, m1, d1, p2, m2, d2, p3, m3, d3, a5, c5, a6, c6, a7, c7, f1, g1, h1, f2, g2, h2, i1, j1, k1, i2, j2, k2, rfl, hr.later hb⟩
theorem OpV.agg {w : World} {v : Value} {o : OpF} (h : OpV w v o) : ∃ cs : Array Value, v = .agg cs ∧ cs[0]? = some (.int .i64 o.kind) ∧ cs.size = 21 := by
  obtain ⟨a1, c1, a2, c2, p1, m1, d1, p2, m2, d2, p3, m3, d3, a5, c5, a6, c6, a7, c7, f1, g1, h1, f2, g2, h2, i1, j1, k1, i2, j2, k2, rfl, hr⟩ := h
  exact ⟨_, rfl, rfl, rfl⟩
theorem conv_bytes (l : List UInt8) (w : World) : (convert 9 69 (.string ⟨l.toArray⟩)).run Try.prog w = .ok (.slice (some ⟨w.heap.size, 0, none⟩) l.length (grownCap w l.length 0 5))
    (w.drew.alloc (.cells (bytesRow ⟨l.toArray⟩ (grownCap w l.length 0 5)) 5 ((bytesRow ⟨l.toArray⟩ (grownCap w l.length 0 5)).size, (bytesRow ⟨l.toArray⟩ (grownCap w l.length 0 5)).size + 1))) :=
  run_bytes_of_string w 9 69 5 ⟨l.toArray⟩ Try.underlying9 Try.underlying69 Try.underlying5
theorem byv_new2 (w : World) (l : List UInt8) (cap : Nat) (ty : TypeId) (fr : Nat × Nat) (hl : l.length * 16 ≤ 140737488351232) : ByV ((w.alloc (.cells (bytesRow ⟨l.toArray⟩ cap) ty fr)).drew) (.slice (some ⟨w.heap.size, 0, none⟩) l.length cap) l :=
  ⟨_, _, rfl, hl, fun j hj => by
    show (w.alloc (.cells (bytesRow ⟨l.toArray⟩ cap) ty fr)).cell? ⟨w.heap.size, j, none⟩ = _
    rw [World.cell?_alloc_mark w (bytesRow ⟨l.toArray⟩ cap) ty fr j, bytesRow_at _ _ _ (by simpa using hj)]
    simp⟩
theorem byv_at {w : World} {b cap : Nat} {l : List UInt8} (h : ByV w (.slice (some ⟨b, 0, none⟩) l.length cap) l) (k : Nat) (hk : k < l.length) : w.cell? ⟨b, k, none⟩ = some (.int .u8 (l[k].toNat : Int)) := by
  obtain ⟨b', cap', he, _, hc⟩ := h
  simp only [Value.slice.injEq, Option.some.injEq, Addr.mk.injEq, true_and, and_true] at he
  obtain ⟨rfl, _⟩ := he
  exact hc k hk
theorem setX_len (o : OpF) : (setX o).length ≤ 9 := setU_len letters (flagsX o)
theorem hasS_len (k : Int) : (hasS k).length ≤ 3 := by unfold hasS; split <;> simp

set_option maxHeartbeats 400000 in
theorem bform_any (o : OpF) (v : Value) (w : World) (h : OpV w v o) (hk : -9223372036854775808 ≤ o.kind ∧ o.kind ≤ 9223372036854775807) : Calls Try.prog 14 #[v] w fun e w' => e = .returned (.int .i64 (formX o)) ∧ Below w.heap.size w w' := by
  obtain ⟨cs, rfl, h0, hsz⟩ := h.agg
  have hbW := gr_al (gr_refl w) (.cells cs 35)
  have hx := heap_alloc_new w (.cells cs 35)
  have HX := Lib.hid hx; have HB := Lib.hid hbW; have HO := Lib.hid (h.later hbW)
  have HC0 : Hid (∀ w', Below (w.alloc (.cells cs 35)).heap.size (w.alloc (.cells cs 35)) w' → w'.cell? ⟨w.heap.size, 0, none⟩ = some (.int .i64 o.kind)) := Lib.hid (fun w' l => by
    rw [cell_of_row w' w.heap.size 0 _ _ (0, 0) (blk_below hx l), h0])
  have HINF : Hid ((Try.prog.info? 35).map (·.size) = some cs.size) := Lib.hid (by rw [hsz]; kernel_rfl)
  have HK := Lib.hid hk
  clear h h0 hsz hbW hx hk
  by_cases h19 : 1 ≤ o.kind ∧ o.kind ≤ 9
  · have hd : decide (1 ≤ o.kind ∧ o.kind ≤ 9) = true := decide_eq_true h19
    have HD := Lib.hid hd
    have HF : Hid (formX o = if ∀ x ∈ setX o, x ∈ hasS o.kind then 0 else 1) := Lib.hid (by rw [formX, if_pos h19])
    rw [HF.out]
    obtain ⟨L, hL⟩ : ∃ L, setX o = L := ⟨_, rfl⟩
    have HLN := Lib.hid (setX_len o)
    have HSN := Lib.hid (hasS_len o.kind)
    have HSET := Lib.hid (fun w' hv => bset_any o (.agg cs) w' hv)
    rw [hL] at HLN HSET ⊢
    obtain ⟨r, hr⟩ : ∃ r, (if ∀ x ∈ L, x ∈ hasS o.kind then (0 : Int) else 1) = r := ⟨_, rfl⟩
    rw [hr]
    have HR0 : Hid ((∀ x ∈ L, x ∈ hasS o.kind) → r = 0) := Lib.hid (fun h => by rw [← hr, if_pos h])
    have HR1 : Hid ((¬ ∀ x ∈ L, x ∈ hasS o.kind) → r = 1) := Lib.hid (fun h => by rw [← hr, if_neg h])
    clear hd h19 HF hL hr
    have hcv := conv_bytes
    go_enter Try.func14, Try.ntmps14
    go_upto_region 1 with fail
    generalize World.alloc w _ = W at *
    have l := gr_dr (gr_refl W)
    go_region_held3 (fun w' => w'.cell? ⟨w.heap.size, 0, none⟩ = some (.int .i64 o.kind))
      (with_reducible exact HC0.out _ l)
      (first
        | (go_at_call 36; refine (has_any _).mono ?_; rintro e w1 ⟨rfl, hown, hb⟩; replace l := gr_tr l hb; clear hb; have hlk := look_has hown HK.out; rw [HD.out] at hlk; change (Instr.lookup 67 (.map (some W.heap.size)) (.int .i64 o.kind) true).run Try.prog _ = _ at hlk; clear hown))
    clear hlk
    generalize hasS o.kind = H at *
    have HX1 := Lib.hid (blk_below HX.out l); have HO1 := Lib.hid (HO.out.later l); have HB1 := Lib.hid (gr_tr HB.out l)
    clear l HC0 HX HO HB HD HK
    go_wp2_with (refine wpList_load_row rfl 35 _ rfl _ rfl 35 _ (0, 0) _ HX1.out Try.underlying35 rfl HINF.out ?_)
    refine (HSET.out _ HO1.out).mono ?_
    rintro e w2 ⟨rfl, hb2⟩
    have HB2 := Lib.hid (gr_tr HB1.out hb2)
    clear hb2 HX1 HO1 HB1 HSET HINF
    go_wp2_with fail
    have hV := gr_dr (gr_al (gr_refl w2) (.cells (bytesRow ⟨L.toArray⟩ (grownCap w2 L.length 0 5)) 5 ((bytesRow ⟨L.toArray⟩ (grownCap w2 L.length 0 5)).size, (bytesRow ⟨L.toArray⟩ (grownCap w2 L.length 0 5)).size + 1)))
    have hBy := byv_new2 w2 L (grownCap w2 L.length 0 5) 5 ((bytesRow ⟨L.toArray⟩ (grownCap w2 L.length 0 5)).size, (bytesRow ⟨L.toArray⟩ (grownCap w2 L.length 0 5)).size + 1) (by have := HLN.out; omega)
    generalize World.drew (World.alloc w2 _) = V at *
    generalize grownCap w2 L.length 0 5 = cap at *
    have HV := Lib.hid (gr_tr HB2.out hV); have HBY := Lib.hid hBy
    clear hV hBy
    go_loopw [20] (fun i wr => ∃ k : Nat, k ≤ L.length ∧ i = .int .i64 k ∧ (∀ j (hj : j < L.length), j < k → L[j] ∈ H) ∧ Below V.heap.size V wr) (fun i _ => L.length - (intOf i).toNat)
    case atStart => exact ⟨0, by omega, rfl, fun j hj h => by omega, gr_refl V⟩
    case round =>
      obtain ⟨k, hk, rfl, hin, hb⟩ := hrel
      have HIN := Lib.hid hin; have HBR := Lib.hid hb
      clear hin hb
      by_cases hlt : k < L.length
      · have d0 := byv_at (HBY.out.later HBR.out (Nat.le_refl _)) k hlt
        have hlt' : (k : Int) < (L.length : Int) := by omega
        have hV := gr_dr (gr_al (gr_refl wr) (.cells (bytesRow ⟨H.toArray⟩ (grownCap wr H.length 0 5)) 5 ((bytesRow ⟨H.toArray⟩ (grownCap wr H.length 0 5)).size, (bytesRow ⟨H.toArray⟩ (grownCap wr H.length 0 5)).size + 1)))
        have hBy := byv_new2 wr H (grownCap wr H.length 0 5) 5 ((bytesRow ⟨H.toArray⟩ (grownCap wr H.length 0 5)).size, (bytesRow ⟨H.toArray⟩ (grownCap wr H.length 0 5)).size + 1) (by have := HSN.out; omega)
        have HV2 := Lib.hid (gr_tr HBR.out hV); have HBY2 := Lib.hid hBy
        clear hV hBy
        obtain ⟨x, hx⟩ : ∃ x, L[k] = x := ⟨_, rfl⟩
        rw [hx] at d0
        obtain ⟨c, hc⟩ : ∃ c, H.contains x = c := ⟨_, rfl⟩
        have hcall := bcontains_any H x _ _ HBY2.out
        rw [hc] at hcall
        have HCALL := Lib.hid hcall; have HCC := Lib.hid hc; have HXX := Lib.hid hx
        clear hcall hc hx HBY2
        go_wp2_with fail
        generalize World.drew (World.alloc wr _) = V2 at *
        clear hcv d0
        refine HCALL.out.mono ?_
        rintro e w4 ⟨rfl, rfl⟩
        clear HCALL
        cases c
        · have HF : Hid (r = 1) := Lib.hid (HR1.out (fun h => by
            have h1 := h _ (List.getElem_mem hlt)
            rw [HXX.out, ← List.contains_iff_mem, HCC.out] at h1
            cases h1))
          go_wp2_with fail
          go_ret
          exact ⟨ret_int HF.out.symm, gr_tr HV.out HV2.out⟩
        · have HM : Hid (L[k] ∈ H) := Lib.hid (by rw [HXX.out, ← List.contains_iff_mem]; exact HCC.out)
          have h9 := HLN.out
          have hwr : IntKind.i64.wrap ((k : Int) + 1) = (k : Int) + 1 := IntWalk.i64_in _ (by omega)
          go_wp2_with fail
          go_roundw
          case rel => exact ⟨k + 1, by omega, by go_num, fun j hj hjk => by
            by_cases e : j = k
            · subst e; exact HM.out
            · exact HIN.out j hj (by omega), HV2.out⟩
          case measure => simp [intOf]; omega
      · have hkn : k = L.length := by omega
        have HF : Hid (r = 0) := Lib.hid (HR0.out (fun x hx => by
          obtain ⟨j, hj, rfl⟩ := List.getElem_of_mem hx
          exact HIN.out j hj (by omega)))
        subst hkn
        go_wp2_with fail
        go_ret
        exact ⟨ret_int HF.out.symm, gr_tr HV.out HBR.out⟩
  · have hd : decide (1 ≤ o.kind ∧ o.kind ≤ 9) = false := decide_eq_false h19
    have HD := Lib.hid hd
    have HF : Hid (formX o = 1) := Lib.hid (by rw [formX, if_neg h19])
    rw [HF.out]
    clear hd h19 HF
    go_enter Try.func14, Try.ntmps14
    go_upto_region 1 with fail
    generalize World.alloc w _ = W at *
    have l := gr_dr (gr_refl W)
    go_region_held3 (fun w' => w'.cell? ⟨w.heap.size, 0, none⟩ = some (.int .i64 o.kind))
      (with_reducible exact HC0.out _ l)
      (first
        | (go_at_call 36; refine (has_any _).mono ?_; rintro e w1 ⟨rfl, hown, hb⟩; replace l := gr_tr l hb; clear hb; have hlk := look_has hown HK.out; rw [HD.out] at hlk; change (Instr.lookup 67 (.map (some W.heap.size)) (.int .i64 o.kind) true).run Try.prog _ = _ at hlk; clear hown))
    clear hlk
    go_wp2_with fail
    go_ret
    exact ⟨rfl, gr_tr HB.out l⟩
end Go.Proofs.Ytcbljiiomnhbjaa
