/- The walk of BatchOwns. -/
import Derived.Test.YtompjcadhodapaaBOver
import Derived.Test.YtompjcadhodapaaBCopy
import Derived.Test.YtompjcadhodapaaBSameF
import Derived.Test.YtompjcadhodapaaBVals
import Derived.Test.YtompjcadhodapaaBLives
namespace Go.Proofs.Ytompjcadhodapaa
open Go.ChangeShapes Go.WideShapes Go.ChangeAt Go.RowKit Go.Deep
set_option linter.unusedVariables false
set_option linter.unusedSimpArgs false

set_option maxRecDepth 100000 in
set_option maxHeartbeats 3200000 in
theorem walk_BatchOwns (w : World) (x : Value) (L : List FactX) (hx : rdSlice 2 rdFact w w.heap.size [x] L) :
    Calls Try.prog 6 #[x] w (Gives (.bool true) w) := by
  have HF := hid (fewB_any x L w w.heap.size (Nat.le_refl _) hx)
  obtain ⟨hs1, hs2⟩ := fewFs_small L
  have HDE := hid (fewFs_deep L)
  generalize fewFs L = M at *
  clear hx
  go_enter Try.func6, Try.ntmps6
  go_wp2_with fail
  refine HF.out.mono ?_
  rintro e w1 ⟨r, rfl, hr, hb1⟩
  obtain ⟨hrd, Ar, cr, rfl⟩ := hr.rows (N := w1.heap.size) hb1.size (Nat.le_refl _)
  have HB1 := hid hb1; have HRD := hid hrd; have HFI := hid (facts_in hrd)
  have HCP := hid (fun W (hb : Below w1.heap.size w1 W) => copyB_any (.slice Ar M.length cr) M W (good_facts.on hrd hb) (by omega) HDE.out)
  have HVA := hid (fun W (hb : Below w1.heap.size w1 W) => values_any (.slice Ar M.length cr) M W (good_facts.on hrd hb) (by omega) (fun f hf => by have := (hs2 f hf).2; omega))
  have HSM := hid (fun v W (hb : Below w1.heap.size w1 W) hv => by
    have := sameF_any v (.slice Ar M.length cr) M M W hv (good_facts.on hrd hb)
    rwa [decide_eq_true rfl] at this)
  clear hb1 hr hrd
  go_wp2_with fail
  refine (HCP.out _ (Below.refl _ _)).mono ?_
  rintro e w2 ⟨ra, rfl, hra, hb2⟩
  have hrda := hra.rows HFI.out
  obtain ⟨Aa, ca, e, -, -⟩ := hrda.open_
  simp only [List.cons.injEq, and_true] at e
  subst e
  have HSF := hid (ShapeF.of_row hra)
  have HS1 := hid (HSM.out _ _ hb2 hrda)
  have HB2 := hid hb2
  clear hb2 hra hrda
  go_wp2_with fail
  refine HS1.out.mono ?_
  rintro e w3 ⟨rfl, hq3⟩
  have HB3 := hid (HB2.out.trans ((hq3.below w2.heap.size).mono HB2.out.size))
  have HSF3 := hid (HSF.out.on (hq3.below w2.heap.size) (Nat.le_refl _))
  have hz3 := hq3.size
  clear hq3
  go_wp2_with fail
  refine (HVA.out _ HB3.out).mono ?_
  rintro e w4 ⟨rv, rfl, hrv, hb4⟩
  have hsv := ShapeR.of_rowI hrv
  rw [valsOf_len] at hsv
  have hsv' := hsv
  obtain ⟨Av, cv, rfl, hcv, hcm, -⟩ := hsv'
  have HSV := hid hsv
  have HB4 := hid (HB3.out.trans (hb4.mono HB3.out.size))
  have HSF4 := hid (HSF3.out.on hb4 (by omega))
  have hz4 := hb4.size
  clear hb4 hrv hsv
  generalize hlm : M.length = n at *
  have HLM := hid hlm
  clear hlm
  unfold maxLen at hcm
  go_wp2
  go_loopw [6] (fun i wr => OvA n (.slice Av n cv) w3.heap.size w4.heap.size w4 i wr) (fun i _ => n - (intOf i).toNat)
  case atStart => exact ⟨0, by omega, rfl, HSV.out, Chg.refl _ _⟩
  case round =>
    obtain ⟨k, hk, rfl, hS, hW⟩ := hrel
    by_cases hlt : k < n
    · obtain ⟨g, Al, m, cl, rfl, hG, hC, hml, hcl, hL⟩ := hS.at_ hlt
      have HS0 := hid (show OvB n (.slice (some ⟨g, 0, none⟩) n cv) w3.heap.size w4.heap.size w4 g k m Al cl (.int .i64 0) wr from ⟨0, by omega, rfl, hS, hG, hC, hL, hW⟩)
      clear hS hG hL hW
      obtain ⟨wo, rfl⟩ : ∃ wo : World, wo = wr := ⟨_, rfl⟩
      clear hC
      go_wp2
      go_loopw [7] (fun i wq => OvB n (.slice (some ⟨g, 0, none⟩) n cv) w3.heap.size w4.heap.size w4 g k m Al cl i wq) (fun i _ => m - (intOf i).toNat)
      case atStart => exact HS0.out
      case round =>
        obtain ⟨j, hj, rfl, hS, hG, hC, hL, hW⟩ := hrel
        by_cases hjl : j < m
        · obtain ⟨gl, rfl, hb, ⟨u, hu⟩, hf⟩ := hL.at_ hjl
          have HN := hid (OvB.store (x := .int .i64 77) hjl hS hG hC hL hW hb)
          clear hS hG hL hW hb
          go_wp2
          go_roundw
          case rel => exact HN.out
          case measure => simp [intOf]; omega
        · have HN := hid (show OvA n (.slice (some ⟨g, 0, none⟩) n cv) w3.heap.size w4.heap.size w4 (.int .i64 ((k : Int) + 1)) wr from ⟨k + 1, by omega, by go_num, hS, hW⟩)
          clear hS hG hL hW
          go_wp2
          go_roundw
          case rel => exact HN.out
          case measure => simp [intOf]; omega
    · have hbw : Below w3.heap.size w4 wr := hW.below (by omega) (fun g hg => hg.1)
      have HSF5 := hid (HSF4.out.on (hbw.mono (show w2.heap.size ≤ w3.heap.size by omega)) (Nat.le_refl _))
      have HB5 := hid (HB4.out.trans (hbw.mono HB3.out.size))
      have hz5 := hbw.size
      clear hS hW hbw
      obtain ⟨w5, rfl⟩ : ∃ w5 : World, w5 = wr := ⟨_, rfl⟩
      go_wp2_with fail
      refine (HCP.out _ HB5.out).mono ?_
      rintro e w6 ⟨rb, rfl, hrb, hb6⟩
      have HRB := hid hrb
      have hrb' := hrb
      obtain ⟨vb, hvb1, hvb2, -⟩ := hrb'
      rw [HLM.out] at hvb2
      obtain ⟨Ab, cb, rfl⟩ := own_formB hvb2
      have hz6 := hb6.size
      have HSF6 := hid (HSF5.out.on (hb6.mono (show w2.heap.size ≤ w5.heap.size by omega)) (Nat.le_refl _))
      have HB6 := hid (HB5.out.trans (hb6.mono HB5.out.size))
      clear hrb hb6 hvb1 hvb2
      have hsf := HSF6.out
      obtain ⟨Af, cf, ef, hcf1, hcf2, -⟩ := hsf
      injection ef with ef1 _ ef2
      subst ef1; subst ef2
      unfold maxLen at hcf2
      go_wp2
      go_loopw [9] (fun i wr => OvF n (.slice Aa n ca) w1.heap.size w2.heap.size w6 i wr) (fun i _ => n - (intOf i).toNat)
      case atStart => exact ⟨0, by omega, rfl, HSF6.out, Chg.refl _ _⟩
      case round =>
        obtain ⟨k, hk, rfl, hS, hW⟩ := hrel
        by_cases hlt : k < n
        · obtain ⟨g, Ap, m, cp, Al, m2, cl, rfl, hG, hC, hC2, hm, hm2, hR, hL⟩ := hS.at_ hlt
          have HS0 := hid (show OvV n (.slice (some ⟨g, 0, none⟩) n ca) w1.heap.size w2.heap.size w6 g k m2 Al cl (.int .i64 0) wr from ⟨0, by omega, rfl, hS, hG, hC2, hL, hW⟩)
          clear hS hG hL hW hR hC hC2
          obtain ⟨wo, rfl⟩ : ∃ wo : World, wo = wr := ⟨_, rfl⟩
          go_wp2
          go_loopw [10] (fun i wq => OvV n (.slice (some ⟨g, 0, none⟩) n ca) w1.heap.size w2.heap.size w6 g k m2 Al cl i wq) (fun i _ => m2 - (intOf i).toNat)
          case atStart => exact HS0.out
          case round =>
            obtain ⟨j, hj, rfl, hS, hG, hC, hL, hW⟩ := hrel
            by_cases hjl : j < m2
            · obtain ⟨gl, rfl, hb, ⟨u, hu⟩, hf⟩ := hL.at_ hjl
              have HN := hid (OvV.store (x := .int .i64 77) hjl hS hG hC hL hW hb)
              clear hS hG hL hW hb
              go_wp2
              go_roundw
              case rel => exact HN.out
              case measure => simp [intOf]; omega
            · clear hG hL HS0
              obtain ⟨g', Ap, m, cp, Al', m3, cl', e0, hG, hCp, hC2, hm, hm3, hR, hL⟩ := hS.at_ hlt
              injection e0 with e0
              injection e0 with e0 _ _
              subst e0
              have HS0 := hid (show OvP n (.slice (some ⟨g, 0, none⟩) n ca) w1.heap.size w2.heap.size w6 g k m Ap cp (.int .i64 0) wr from ⟨0, by omega, rfl, hS, hG, hCp, hR, hW⟩)
              clear hS hG hL hW hR hCp hC2
              obtain ⟨wp, rfl⟩ : ∃ wp : World, wp = wr := ⟨_, rfl⟩
              go_wp2
              go_loopw [11] (fun i wq => OvP n (.slice (some ⟨g, 0, none⟩) n ca) w1.heap.size w2.heap.size w6 g k m Ap cp i wq) (fun i _ => m - (intOf i).toNat)
              case atStart => exact HS0.out
              case round =>
                clear HS0
                obtain ⟨t, ht, rfl, hS, hG, hC, hR, hW⟩ := hrel
                by_cases htl : t < m
                · obtain ⟨gp, As, ms, cs, rfl, hP, hC2, hms, hcs, hL⟩ := hR.at_ htl
                  have HS0 := hid (show OvS n (.slice (some ⟨g, 0, none⟩) n ca) w1.heap.size w2.heap.size w6 g k m (some ⟨gp, 0, none⟩) cp gp t ms As cs (.int .i64 0) wr from ⟨0, by omega, rfl, hS, hG, hC, hR, hP, hC2, hL, hW⟩)
                  clear hS hG hL hW hR hC2 hP
                  obtain ⟨wu, rfl⟩ : ∃ wu : World, wu = wr := ⟨_, rfl⟩
                  go_wp2
                  go_loopw [12] (fun i wq => OvS n (.slice (some ⟨g, 0, none⟩) n ca) w1.heap.size w2.heap.size w6 g k m (some ⟨gp, 0, none⟩) cp gp t ms As cs i wq) (fun i _ => ms - (intOf i).toNat)
                  case atStart => exact HS0.out
                  case round =>
                    clear HS0
                    obtain ⟨q, hq, rfl, hS, hG, hC, hR, hP, hC2, hL, hW⟩ := hrel
                    by_cases hql : q < ms
                    · obtain ⟨gs, rfl, hb, ⟨u, hu⟩, hf⟩ := hL.at_ hql
                      have HN := hid (OvS.store (x := .string ⟨#[122, 122]⟩) hql hS hG hC hR hP hC2 hL hW hb)
                      clear hS hG hL hW hb hR hP
                      go_wp2
                      go_roundw
                      case rel => exact HN.out
                      case measure => simp [intOf]; omega
                    · have HN := hid (OvP.store htl hS hG hC hR hP hW)
                      have hf := hP.frozen (j := t)
                      clear hS hG hL hW hR hP
                      go_wp2
                      go_roundw
                      case rel => exact HN.out
                      case measure => simp [intOf]; omega
                · have HN := hid (show OvF n (.slice (some ⟨g, 0, none⟩) n ca) w1.heap.size w2.heap.size w6 (.int .i64 ((k : Int) + 1)) wr from ⟨k + 1, by omega, by go_num, hS, hW⟩)
                  clear hS hG hW hR
                  go_wp2
                  go_roundw
                  case rel => exact HN.out
                  case measure => simp [intOf]; omega
        · have hbw : Below w1.heap.size w6 wr := hW.below (Nat.le_trans HB6.out.size (Nat.le_refl _)) (fun g hg => hg.1)
          have hrows := (HRB.out.keepT (fun e => KeepT.of_chg (e := e) hW (fun g hg => Nat.lt_of_lt_of_le hg.2 (show w2.heap.size ≤ w5.heap.size by omega)))).rows HFI.out
          have HSM2 := hid (HSM.out _ _ (HB6.out.trans hbw) hrows)
          have HB7 := hid (HB6.out.trans hbw)
          clear hS hW hbw hrows
          go_wp2_with fail
          refine HSM2.out.mono ?_
          rintro e w7 ⟨rfl, hq7⟩
          have HB8 := hid (HB7.out.trans ((hq7.below _).mono HB7.out.size)); clear hq7
          go_wp2_with fail
          refine (lives_true _).mono ?_
          rintro e w8 ⟨rfl, hb8⟩
          have HB9 := hid (HB8.out.trans (hb8.mono HB8.out.size)); clear hb8
          go_wp2
          go_ret
          exact ⟨rfl, HB1.out.trans (HB9.out.mono HB1.out.size)⟩
end Go.Proofs.Ytompjcadhodapaa
