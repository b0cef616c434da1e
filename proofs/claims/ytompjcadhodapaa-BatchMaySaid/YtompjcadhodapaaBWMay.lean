/- The walk of BatchMay. -/
import Derived.Test.YtompjcadhodapaaBWPlain
import Derived.Test.YtompjcadhodapaaBRefM
import Derived.Test.YtompjcadhodapaaRef8d
import Derived.BigQuiet
namespace Go.Proofs.Ytompjcadhodapaa
open Go.ChangeShapes Go.WideShapes Go.ChangeAt Go.RowKit Go.Deep
set_option linter.unusedVariables false
set_option linter.unusedSimpArgs false

def WmRel (n : Nat) (w3 : World) (i : Value) (wr : World) : Prop := ∃ k : Nat, k ≤ n ∧ i = .int .i64 k ∧ Qu w3 wr
set_option maxRecDepth 100000 in
set_option maxHeartbeats 3200000 in
theorem walk_BatchMay (w : World) (cs0 : Array Value) (x0 : SchemaX) (z0 : cs0.size = 3) (h0 : rdSchema w w.heap.size cs0.toList x0) (x : Value) (L : List FactX) (hx : rdSlice 2 rdFact w w.heap.size [x] L) :
    Calls Try.prog 3 #[.agg cs0, x] w (Gives (.bool true) w) := by
  have hs := schema_of_rd h0
  have hs0 := hs
  obtain ⟨A1, c1, A2, c2, A3, c3, e, -, -, -⟩ := hs
  simp only [Value.agg.injEq] at e
  subst e
  obtain ⟨W0, hW0⟩ : ∃ W, W = w.alloc (.cells #[.slice A1 x0.1.length c1, .slice A2 x0.2.1.length c2, .slice A3 x0.2.2.length c3] 26) := ⟨_, rfl⟩
  have g0 : Below w.heap.size w W0 := by rw [hW0]; exact bl1 _ _
  have zW0 : W0.heap.size = w.heap.size + 1 := by rw [hW0]; simp
  have HSML := hid (small_any _ x0 W0 w.heap.size g0.size (hs0.below g0))
  have HF := hid (fun W (hb : Below w.heap.size w W) => fewB_any x L W w.heap.size hb.size (good_facts.stays hx hb))
  have hsl : (smallS x0).1.length ≤ 1000 := by simp [smallS]; omega
  obtain ⟨hs1, hs2⟩ := fewFs_small L
  generalize fewFs L = M at *
  generalize smallS x0 = s at *
  generalize x0.1.length = k1 at *
  generalize x0.2.1.length = k2 at *
  generalize x0.2.2.length = k3 at *
  have HW0 := hid hW0; have G0 := hid g0
  clear h0 hs0 hx z0 hW0 g0
  go_enter Try.func3, Try.ntmps3
  have y0 : (w.alloc (.cells #[.slice A1 k1 c1, .slice A2 k2 c2, .slice A3 k3 c3] 26)).cell? ⟨w.heap.size, 0, none⟩ = some (.slice A1 k1 c1) := by simp [go_sem]
  have y1 : (w.alloc (.cells #[.slice A1 k1 c1, .slice A2 k2 c2, .slice A3 k3 c3] 26)).cell? ⟨w.heap.size, 1, none⟩ = some (.slice A2 k2 c2) := by simp [go_sem]
  have y2 : (w.alloc (.cells #[.slice A1 k1 c1, .slice A2 k2 c2, .slice A3 k3 c3] 26)).cell? ⟨w.heap.size, 2, none⟩ = some (.slice A3 k3 c3) := by simp [go_sem]
  go_wp2_with fail
  rw [← HW0.out]
  refine HSML.out.mono ?_
  rintro e w1 ⟨B1, b1, B2, b2, B3, b3, rfl, hsv, hb1⟩
  have hb1' := hb1
  rw [zW0, HW0.out] at hb1'
  have z1 := hb1.size
  have HBX := hid (BoxS.start hb1' hsv)
  have k0 := cellK hb1' (by omega) y0
  have k1' := cellK hb1' (by omega) y1
  have k2' := cellK hb1' (by omega) y2
  have n0 : w1.frozen? ⟨w.heap.size, 0, none⟩ = false := frozenK hb1' (by omega) (by simp [go_sem])
  have n1 : w1.frozen? ⟨w.heap.size, 1, none⟩ = false := frozenK hb1' (by omega) (by simp [go_sem])
  have n2 : w1.frozen? ⟨w.heap.size, 2, none⟩ = false := frozenK hb1' (by omega) (by simp [go_sem])
  obtain ⟨W1, hW1⟩ : ∃ W, W = ((w1.setCell ⟨w.heap.size, 0, none⟩ (.slice B1 s.1.length b1)).setCell ⟨w.heap.size, 1, none⟩ (.slice B2 s.2.1.length b2)).setCell ⟨w.heap.size, 2, none⟩ (.slice B3 s.2.2.length b3) := ⟨_, rfl⟩
  rw [← hW1] at HBX
  have HW1 := hid hW1
  clear hb1 hb1' hsv hW1 y0 y1 y2
  go_wp2_with fail
  rw [← HW1.out]
  refine (HF.out _ HBX.out.2.1).mono ?_
  rintro e w2 ⟨r, rfl, hr, hb2⟩
  obtain ⟨hrd, Ar, cr, rfl⟩ := hr.rows (N := w2.heap.size) (Nat.le_trans HBX.out.2.1.size hb2.size) (Nat.le_refl _)
  have HBX2 := hid (HBX.out.on hb2)
  have HFI := hid (facts_in hrd)
  have HRD := hid hrd
  have HV := hid (values_any _ M w2 hrd (by omega) (fun f hf => by have := (hs2 f hf).2; omega))
  clear hb2 hr hrd
  go_wp2_with fail
  refine HV.out.mono ?_
  rintro e w3 ⟨v, rfl, hv, hb3⟩
  have hvr := hv.rows (fun l hl n hn => by
    unfold valsOf at hl
    obtain ⟨f, hf, rfl⟩ := List.mem_map.1 hl
    exact (HFI.out f hf).2 n hn)
  obtain ⟨Av, cv, e, hcv, -⟩ := hvr.open_
  simp only [List.cons.injEq, and_true] at e
  subst e
  rw [valsOf_len] at hvr hcv ⊢
  have HVR := hid hvr
  have HBX3 := hid (HBX2.out.on hb3)
  have HRD3 := hid (good_facts.on HRD.out hb3)
  clear hb3 hv hvr
  have HMA := hid (fun v W hv hx => mayBt_any v (.slice Ar M.length cr) s M W hv hsl hx)
  have HRM := hid (fun v W hv hx => refMayBt_any v (.slice Ar M.length cr) s M W hv hsl hx (fun W hv => refSchemaMay_any v s W hv hsl))
  generalize mayBt s M = me at *
  obtain ⟨lm, hlm⟩ : ∃ n, n = M.length := ⟨_, rfl⟩
  rw [← hlm] at HVR HRD3 HMA HRM hcv ⊢
  have HLM := hid hlm
  have t0 : ((lm : Int) != (lm : Int)) = false := by simp
  have hlm10 : lm ≤ 10 := by omega
  clear hlm
  go_wp2
  go_loopw [6] (fun i wr => WmRel lm w3 i wr) (fun i _ => lm - (intOf i).toNat)
  case atStart => exact ⟨0, by omega, rfl, Qu.refl _⟩
  case round =>
    obtain ⟨k, hk, rfl, hq⟩ := hrel
    by_cases hlt : k < lm
    · have hltM : k < M.length := by rw [← HLM.out]; exact hlt
      have hltV : k < (valsOf M).length := by rw [valsOf_len]; exact hltM
      obtain ⟨bv, ov, Au, cu, rfl, hbv, hcu, hru⟩ := rows_at HVR.out hltV
      obtain ⟨bl, ol, AP, cP, AV, cV, rfl, hbl, -, q1, -, r1⟩ := facts_at HRD3.out hltM
      have he : (valsOf M)[k] = M[k].2 := by simp [valsOf]
      have HS := hid (fun W (hW : Qu w3 W) => by
        have := refSame8_any (.slice Au (valsOf M)[k].length cu) (.slice AV M[k].2.length cV) (valsOf M)[k] M[k].2 W (by have := good_ints.stays hru (hW.below w3.heap.size); rwa [← hW.size] at this) (by have := good_ints.stays r1 (hW.below w3.heap.size); rwa [← hW.size] at this)
        rwa [decide_eq_true he] at this)
      generalize (valsOf M)[k].length = n1 at *
      generalize M[k].2.length = n2 at *
      have c1' := (hq.cell ⟨bv, ov + k, none⟩).trans hcu
      have c2' := (hq.cell ⟨bl, ol + k * 2 + 1, none⟩).trans q1
      clear hru r1 he hcu q1
      go_wp2
      go_quiet ((go_at_call 10; exact Calls.quiet_of (HS.out _ (hq.trans ⟨_, rfl⟩))))
      go_wp2
      go_roundw
      case rel => exact ⟨k + 1, by omega, by go_num, hq.drewN _⟩
      case measure => simp [intOf]; omega
    · have hbq := hid (hq.below wr.heap.size)
      have HBX4 := hid (HBX3.out.on (hq.below w3.heap.size))
      have HRD4 := hid (good_facts.on HRD3.out (hq.below w3.heap.size))
      obtain ⟨hlw, -, j0, j1, j2, -⟩ := HBX4.out
      clear t0
      go_wp2
      go_region_held3 (fun w' => w'.cell? ⟨w.heap.size, 0, none⟩ = some (.slice B1 s.1.length b1) ∧ w'.cell? ⟨w.heap.size, 1, none⟩ = some (.slice B2 s.2.1.length b2) ∧ w'.cell? ⟨w.heap.size, 2, none⟩ = some (.slice B3 s.2.2.length b3)) (go_keep)
        (first
          | (go_at_call 11; have H4 := hid ((Below.refl wr.heap.size wr).drew); refine (HMA.out _ _ ((HBX4.out.on H4.out).2.2.2.2.2) (good_facts.on HRD4.out H4.out)).mono ?_; rintro e w4 ⟨rfl, hb4⟩; have B4 := hid (H4.out.trans hb4); have X4 := hid (HBX4.out.on B4.out); have R4 := hid (good_facts.on HRD4.out B4.out); obtain ⟨-, -, m0, m1, m2, -⟩ := X4.out; clear hb4)
          | (go_at_call 12; refine (HRM.out _ _ X4.out.2.2.2.2.2 R4.out).mono ?_; rintro e w5 ⟨rfl, hb5⟩; have X5 := hid (X4.out.on hb5); obtain ⟨-, -, m3, m4, m5, -⟩ := X5.out; clear hb5)
          | (go_at_call 13; refine (lives_true _).mono ?_; rintro e w6 ⟨rfl, hb6⟩; have X6 := hid (X5.out.on hb6); obtain ⟨-, -, m6, m7, m8, -⟩ := X6.out; clear hb6))
      go_wp2
      go_ret
      exact ⟨rfl, X6.out.2.1⟩
end Go.Proofs.Ytompjcadhodapaa
