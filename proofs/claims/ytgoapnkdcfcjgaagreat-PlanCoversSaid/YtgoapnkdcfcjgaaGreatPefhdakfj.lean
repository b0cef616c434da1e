/- 2 texts of this claim, in build order. -/
import Derived.Test.YtgoapnkdcfcjgaaGreatPndjfjgie
import Derived.Test.YtgoapnkdcfcjgaaGreatPgfegbefo
import Derived.Test.YtgoapnkdcfcjgaaGreatPnbmhhlfj
import Derived.Test.YtgoapnkdcfcjgaaGreatPmmljdcfd
/- The walk of the reference's May of queries. -/
namespace Go.Proofs.YtgoapnkdcfcjgaaGreat
open Go.ChangeShapes Go.WideShapes Go.ChangeAt Go.RowKit
set_option linter.unusedVariables false
set_option linter.unusedSimpArgs false

def RqRel (s : SchemaX) (q : QueryX) (W0 : World) (i : Value) (wr : World) : Prop := ∃ k : Nat, k ≤ q.2.length ∧ i = .int .i64 k ∧ (∀ j (h : j < q.2.length), j < k → refFq s q.2[j] = true) ∧ Below W0.heap.size W0 wr
def RqIn (ms : List (List ByteArray)) (lv : Int) (W0 : World) (i : Value) (wr : World) : Prop := ∃ k : Nat, k ≤ ms.length ∧ i = .int .i64 k ∧ (∀ j (h : j < ms.length), j < k → (mayB ms[j] && decide ((ms[j].length : Int) = lv)) = true) ∧ Below W0.heap.size W0 wr
theorem refF_ways (s : SchemaX) (d lv : Int) (ms : List (List ByteArray)) (n : Nat) (hn : ∀ (dn : Nat), d = (dn : Int) → ∀ h : dn < s.1.length, s.1[dn].2.length = n) :
    (d < 0 ∧ refFq s (d, lv, ms) = false) ∨ (∃ dn : Nat, d = (dn : Int) ∧ s.1.length ≤ dn ∧ refFq s (d, lv, ms) = false) ∨ (∃ dn : Nat, d = (dn : Int) ∧ dn < s.1.length ∧ lv < 1 ∧ refFq s (d, lv, ms) = false) ∨ (∃ dn : Nat, d = (dn : Int) ∧ dn < s.1.length ∧ 1 ≤ lv ∧ (n : Int) < lv ∧ refFq s (d, lv, ms) = false) ∨
    (∃ dn : Nat, d = (dn : Int) ∧ dn < s.1.length ∧ 1 ≤ lv ∧ lv ≤ (n : Int) ∧ ms.length < 1 ∧ refFq s (d, lv, ms) = false) ∨ (∃ dn : Nat, d = (dn : Int) ∧ dn < s.1.length ∧ 1 ≤ lv ∧ lv ≤ (n : Int) ∧ 1 ≤ ms.length ∧ 6 < ms.length ∧ refFq s (d, lv, ms) = false) ∨
    (∃ dn : Nat, d = (dn : Int) ∧ dn < s.1.length ∧ 1 ≤ lv ∧ lv ≤ (n : Int) ∧ 1 ≤ ms.length ∧ ms.length ≤ 6 ∧ refFq s (d, lv, ms) = ms.all (fun m => mayB m && decide ((m.length : Int) = lv))) := by
  unfold refFq
  simp only
  by_cases h0 : d < 0
  · exact .inl ⟨h0, by rw [decide_eq_false (show ¬ 0 ≤ d by omega)]; simp⟩
  refine .inr ?_
  obtain ⟨dn, rfl⟩ : ∃ dn : Nat, d = (dn : Int) := ⟨d.toNat, by omega⟩
  by_cases h1 : s.1.length ≤ dn
  · exact .inl ⟨dn, rfl, h1, by rw [decide_eq_false (show ¬ (dn : Int) < (s.1.length : Int) by omega)]; simp⟩
  refine .inr ?_
  have h1' : dn < s.1.length := by omega
  have hgd : levelsAt s (dn : Int) = (n : Int) := by unfold levelsAt; rw [Int.toNat_natCast, List.getD_eq_getElem?_getD, List.getElem?_eq_getElem h1']; exact congrArg Nat.cast (hn dn rfl h1')
  simp only [hgd]
  rw [decide_eq_true (show (0 : Int) ≤ (dn : Int) by omega), decide_eq_true (show (dn : Int) < (s.1.length : Int) by omega)]
  by_cases h2 : lv < 1
  · exact .inl ⟨dn, rfl, h1', h2, by rw [decide_eq_false (show ¬ 1 ≤ lv by omega)]; simp⟩
  refine .inr ?_
  rw [decide_eq_true (show 1 ≤ lv by omega)]
  by_cases h3 : (n : Int) < lv
  · exact .inl ⟨dn, rfl, h1', by omega, h3, by rw [decide_eq_false (show ¬ lv ≤ (n : Int) by omega)]; simp⟩
  refine .inr ?_
  rw [decide_eq_true (show lv ≤ (n : Int) by omega)]
  by_cases h4 : ms.length < 1
  · exact .inl ⟨dn, rfl, h1', by omega, by omega, h4, by rw [decide_eq_false (show ¬ 1 ≤ ms.length by omega)]; simp⟩
  refine .inr ?_
  rw [decide_eq_true (show 1 ≤ ms.length by omega)]
  by_cases h5 : 6 < ms.length
  · exact .inl ⟨dn, rfl, h1', by omega, by omega, by omega, h5, by rw [decide_eq_false (show ¬ ms.length ≤ 6 by omega)]; simp⟩
  refine .inr ⟨dn, rfl, h1', by omega, by omega, by omega, by omega, ?_⟩
  rw [decide_eq_true (show ms.length ≤ 6 by omega)]
  simp
set_option maxRecDepth 100000 in
set_option maxHeartbeats 3200000 in
theorem refMayQ_any (v x : Value) (s : SchemaX) (q : QueryX) (w : World) (hv : SchemaV w w.heap.size v s) (hx : QueryV w w.heap.size x q) (hl : s.1.length ≤ 1000) :
    Calls Tryz.prog 20 #[v, x] w (Gives (.int .i64 (mayQ s q)) w) := by
  have hv0 := hv; have hx0 := hx
  obtain ⟨A1, c1, A2, c2, A3, c3, rfl, h1, h2, h3⟩ := hv
  obtain ⟨X1, d1, X2, d2, rfl, g1, g2⟩ := hx
  obtain ⟨hc1, hm1⟩ := h1.cap
  obtain ⟨hd2, hn2⟩ := g2.cap
  obtain ⟨W0, hW0⟩ : ∃ W, W = (w.alloc (.cells #[.slice A1 s.1.length c1, .slice A2 s.2.1.length c2, .slice A3 s.2.2.length c3] 26)).alloc (.cells #[.slice X1 q.1.length d1, .slice X2 q.2.length d2] 30) := ⟨_, rfl⟩
  have g0 : Below w.heap.size w W0 := by rw [hW0]; exact (bl1 w _).alloc (by simp) _
  have z0 : W0.heap.size = w.heap.size + 1 + 1 := by rw [hW0]; simp
  have y0 : W0.cell? ⟨w.heap.size, 0, none⟩ = some (.slice A1 s.1.length c1) := by rw [hW0]; simp [go_sem]
  have y1 : W0.cell? ⟨w.heap.size, 1, none⟩ = some (.slice A2 s.2.1.length c2) := by rw [hW0]; simp [go_sem]
  have y2 : W0.cell? ⟨w.heap.size, 2, none⟩ = some (.slice A3 s.2.2.length c3) := by rw [hW0]; simp [go_sem]
  have y3 : W0.cell? ⟨w.heap.size + 1, 0, none⟩ = some (.slice X1 q.1.length d1) := by rw [hW0]; simp [go_sem]
  have y4 : W0.cell? ⟨w.heap.size + 1, 1, none⟩ = some (.slice X2 q.2.length d2) := by rw [hW0]; simp [go_sem]
  have HW0 := hid hW0
  have G0 := hid g0; have Y0 := hid y0; have Y1 := hid y1; have Y2 := hid y2; have Y3 := hid y3; have Y4 := hid y4
  have HSM := hid (refSchemaMay_any _ s W0 (hv0.on g0) hl)
  have HCN := hid (fun W (hb : Below W0.heap.size W0 W) => refCorner_any _ _ s q.1 W ((hv0.on g0).on hb) hl (good_ints.on (good_ints.on g1 g0) hb))
  have H1 := hid (good_dims.on h1 g0)
  have HQ2 := hid (good_filters.on g2 g0)
  have hno : mayS s = false → mayQ s q = 11 := fun h => by unfold mayQ; rw [h]; rfl
  have hyes : mayS s = true → mayQ s q = if (cornerB s q.1 && decide (q.2.length ≤ 3)) && q.2.all (refFq s) then 0 else 16 := fun h => mayQ_ref h q
  generalize mayS s = bS at *
  generalize cornerB s q.1 = bC at *
  generalize mayQ s q = res at *
  have HNO := hid hno; have HYES := hid hyes
  clear hW0 g0 y0 y1 y2 y3 y4 h1 h2 h3 g1 g2 hv0 hx0 hno hyes
  go_enter Tryz.func20, Tryz.ntmps20
  go_wp2_with fail
  rw [← HW0.out]
  refine HSM.out.mono ?_
  rintro e w1 ⟨rfl, hb1⟩
  have HB1 := hid hb1; clear hb1
  cases bS
  · have HN := hid (HNO.out rfl)
    go_wp2
    go_ret
    exact ⟨by rw [HN.out]; rfl, G0.out.trans (HB1.out.mono (by omega))⟩
  · have HR := hid (HYES.out rfl)
    have k0 := cellK HB1.out (by omega) Y0.out
    have k1 := cellK HB1.out (by omega) Y1.out
    have k2 := cellK HB1.out (by omega) Y2.out
    have k3 := cellK HB1.out (by omega) Y3.out
    go_wp2_with fail
    refine (HCN.out _ HB1.out).mono ?_
    rintro e w2 ⟨rfl, hb2⟩
    have HB2 := hid (HB1.out.trans (hb2.mono HB1.out.size)); clear hb2 k0 k1 k2 k3
    have k4 := cellK HB2.out (by omega) Y4.out
    cases bC
    · have HN := hid (show res = 16 by rw [HR.out]; rfl)
      go_wp2
      go_ret
      exact ⟨by rw [HN.out]; rfl, G0.out.trans (HB2.out.mono (by omega))⟩
    · by_cases h3 : q.2.length ≤ 3
      case neg =>
        have d6 : decide ((3 : Int) < (q.2.length : Int)) = true := by rw [decide_eq_true_eq]; omega
        have d6' : decide (3 < q.2.length) = true := by rw [decide_eq_true_eq]; omega
        have HN := hid (show res = 16 by rw [HR.out, decide_eq_false h3]; rfl)
        go_wp2
        go_ret
        exact ⟨by rw [HN.out]; rfl, G0.out.trans (HB2.out.mono (by omega))⟩
      case pos =>
      have d6 : decide ((3 : Int) < (q.2.length : Int)) = false := by rw [decide_eq_false_iff_not]; omega
      have d6' : decide (3 < q.2.length) = false := by rw [decide_eq_false_iff_not]; omega
      have hres : res = if q.2.all (refFq s) then 0 else 16 := by rw [HR.out, decide_eq_true h3]; rfl
      have HR2 := hid hres; clear hres HR HYES HNO
      go_wp2
      go_loopw [7] (fun i wr => RqRel s q W0 i wr) (fun i _ => q.2.length - (intOf i).toNat)
      case atStart => exact ⟨0, by omega, rfl, fun j h h' => by omega, HB2.out⟩
      case round =>
        obtain ⟨k, hk, rfl, hall, hb⟩ := hrel
        have hs := hb.size
        have HB := hid hb; have HALL := hid hall
        have k4 := cellK hb (by omega) Y4.out
        clear hb hall
        by_cases hlt : k < q.2.length
        · obtain ⟨b, off, AM, cM, rfl, hbl, q0, q1, q2, i1, i2, hms⟩ := filters_at (good_filters.stays HQ2.out HB.out) hlt
          have hno := fun h => all_no (p := refFq s) hlt h
          have hyes : refFq s q.2[k] = true → ∀ j (h : j < q.2.length), j < k + 1 → refFq s q.2[j] = true := fun h j hj hjk => by
            by_cases e : j = k
            · subst e; exact h
            · exact HALL.out j hj (by omega)
          generalize q.2[k] = f at *
          obtain ⟨d, lv, ms⟩ := f
          simp only at q0 q1 q2 hms i1 i2
          obtain ⟨n, hn⟩ : ∃ n : Nat, ∀ (dn : Nat), d = (dn : Int) → ∀ h : dn < s.1.length, s.1[dn].2.length = n := by
            by_cases h : d.toNat < s.1.length
            · exact ⟨s.1[d.toNat].2.length, fun dn e _ => by subst e; rfl⟩
            · exact ⟨0, fun dn e h' => by subst e; exact absurd h' h⟩
          have hways := refF_ways s d lv ms n hn
          have hdims : ∀ dn : Nat, d = (dn : Int) → dn < s.1.length → ∃ b2 o2 AL cL, A1 = some ⟨b2, o2, none⟩ ∧ b2 < wr.heap.size ∧ wr.cell? ⟨b2, o2 + dn * 2 + 1, none⟩ = some (.slice AL n cL) ∧ n ≤ cL := fun dn e h => by
            obtain ⟨b2, o2, AL, cL, rfl, hbl, -, hc2, hlv, -⟩ := dim_at H1.out h
            have hcap := hlv.cap
            have hc2' := cellK HB.out hbl hc2
            rw [hn dn e h] at hc2' hcap
            exact ⟨b2, o2, AL, cL, rfl, by omega, hc2', hcap.1⟩
          obtain ⟨hcM, hmM⟩ := hms.cap
          have HMS := hid hms
          have hml : ms.all (fun m => mayB m && decide ((m.length : Int) = lv)) = ms.all (fun m => mayB m && decide ((m.length : Int) = lv)) := rfl
          generalize refFq s (d, lv, ms) = okb at *
          have HNOF := hid hno; have HYESF := hid hyes; have HDM := hid hdims
          clear hno hyes hms hn hdims hml
          obtain ⟨Wf, hWf⟩ : ∃ W, W = wr.alloc (.cells #[.int .i64 d, .int .i64 lv, .slice AM ms.length cM] 83) := ⟨_, rfl⟩
          have gf : Below wr.heap.size wr Wf := by rw [hWf]; exact bl1 _ _
          have zf : Wf.heap.size = wr.heap.size + 1 := by rw [hWf]; simp
          have f0 : Wf.cell? ⟨wr.heap.size, 0, none⟩ = some (.int .i64 d) := by rw [hWf]; simp [go_sem]
          have f1 : Wf.cell? ⟨wr.heap.size, 1, none⟩ = some (.int .i64 lv) := by rw [hWf]; simp [go_sem]
          have f2 : Wf.cell? ⟨wr.heap.size, 2, none⟩ = some (.slice AM ms.length cM) := by rw [hWf]; simp [go_sem]
          have HWf := hid hWf; have GF := hid gf; have F1 := hid f1; have F2 := hid f2
          have l0 := cellK (HB.out.trans (gf.mono hs)) (by omega) Y0.out
          have GW := hid (HB.out.trans (gf.mono hs))
          generalize hmn : ms.length = nm at *
          clear hWf gf
          rcases hways with ⟨a1, rfl⟩ | ⟨dn, rfl, a1, rfl⟩ | ⟨dn, rfl, a1, a2, rfl⟩ | ⟨dn, rfl, a1, a2, a3, rfl⟩ | ⟨dn, rfl, a1, a2, a3, a4, rfl⟩ | ⟨dn, rfl, a1, a2, a3, a4, a5, rfl⟩ | ⟨dn, rfl, a1, a2, a3, a4, a5, hok⟩
          · have t1 : decide (d < 0) = true := decide_eq_true a1
            have HN := hid (show res = 16 by rw [HR2.out, HNOF.out (by first | rfl | trivial)]; rfl)
            clear a1
            go_wp2
            rw [← HWf.out]
            go_quiet (fail)
            go_wp2
            go_ret
            exact ⟨by rw [HN.out]; rfl, G0.out.trans ((below_drewN GW.out _).mono (by omega))⟩
          · have t0 : decide ((dn : Int) < 0) = false := by rw [decide_eq_false_iff_not]; omega
            have t1 : decide (s.1.length ≤ dn) = true := decide_eq_true a1
            have HN := hid (show res = 16 by rw [HR2.out, HNOF.out (by first | rfl | trivial)]; rfl)
            clear a1
            go_wp2
            rw [← HWf.out]
            go_quiet (fail)
            go_wp2
            go_ret
            exact ⟨by rw [HN.out]; rfl, G0.out.trans ((below_drewN GW.out _).mono (by omega))⟩
          · have t0 : decide ((dn : Int) < 0) = false := by rw [decide_eq_false_iff_not]; omega
            have t1 : decide (s.1.length ≤ dn) = false := by rw [decide_eq_false_iff_not]; omega
            have t2 : decide (lv < 1) = true := decide_eq_true a2
            have HN := hid (show res = 16 by rw [HR2.out, HNOF.out (by first | rfl | trivial)]; rfl)
            clear a1 a2
            go_wp2
            rw [← HWf.out]
            go_quiet (fail)
            go_wp2
            go_ret
            exact ⟨by rw [HN.out]; rfl, G0.out.trans ((below_drewN GW.out _).mono (by omega))⟩
          · have t0 : decide ((dn : Int) < 0) = false := by rw [decide_eq_false_iff_not]; omega
            obtain ⟨b2, o2, AL, cL, rfl, hb2, hlc, hnc⟩ := HDM.out dn rfl a1
            have hlc' := cellK GF.out hb2 hlc
            have t1 : decide (s.1.length ≤ dn) = false := by rw [decide_eq_false_iff_not]; omega
            have t2 : decide (lv < 1) = false := by rw [decide_eq_false_iff_not]; omega
            have t3 : decide ((n : Int) < lv) = true := decide_eq_true a3
            have HN := hid (show res = 16 by rw [HR2.out, HNOF.out (by first | rfl | trivial)]; rfl)
            clear a2 a3 hlc
            go_wp2
            rw [← HWf.out]
            go_quiet (fail)
            go_wp2
            go_ret
            exact ⟨by rw [HN.out]; rfl, G0.out.trans ((below_drewN GW.out _).mono (by omega))⟩
          · have t0 : decide ((dn : Int) < 0) = false := by rw [decide_eq_false_iff_not]; omega
            obtain ⟨b2, o2, AL, cL, rfl, hb2, hlc, hnc⟩ := HDM.out dn rfl a1
            have hlc' := cellK GF.out hb2 hlc
            have t1 : decide (s.1.length ≤ dn) = false := by rw [decide_eq_false_iff_not]; omega
            have t2 : decide (lv < 1) = false := by rw [decide_eq_false_iff_not]; omega
            have t3 : decide ((n : Int) < lv) = false := by rw [decide_eq_false_iff_not]; omega
            have t4 : decide ((nm : Int) < 1) = true := by rw [decide_eq_true_eq]; omega
            have t4' : decide (nm < 1) = true := by rw [decide_eq_true_eq]; omega
            have HN := hid (show res = 16 by rw [HR2.out, HNOF.out (by first | rfl | trivial)]; rfl)
            clear a2 a3 a4 hlc
            go_wp2
            rw [← HWf.out]
            go_quiet (fail)
            go_wp2
            go_ret
            exact ⟨by rw [HN.out]; rfl, G0.out.trans ((below_drewN GW.out _).mono (by omega))⟩
          · have t0 : decide ((dn : Int) < 0) = false := by rw [decide_eq_false_iff_not]; omega
            obtain ⟨b2, o2, AL, cL, rfl, hb2, hlc, hnc⟩ := HDM.out dn rfl a1
            have hlc' := cellK GF.out hb2 hlc
            have t1 : decide (s.1.length ≤ dn) = false := by rw [decide_eq_false_iff_not]; omega
            have t2 : decide (lv < 1) = false := by rw [decide_eq_false_iff_not]; omega
            have t3 : decide ((n : Int) < lv) = false := by rw [decide_eq_false_iff_not]; omega
            have t4 : decide ((nm : Int) < 1) = false := by rw [decide_eq_false_iff_not]; omega
            have t4' : decide (nm < 1) = false := by rw [decide_eq_false_iff_not]; omega
            have t5 : decide ((6 : Int) < (nm : Int)) = true := by rw [decide_eq_true_eq]; omega
            have t5' : decide (6 < nm) = true := by rw [decide_eq_true_eq]; omega
            have HN := hid (show res = 16 by rw [HR2.out, HNOF.out (by first | rfl | trivial)]; rfl)
            clear a2 a3 a4 a5 hlc
            go_wp2
            rw [← HWf.out]
            go_quiet (fail)
            go_wp2
            go_ret
            exact ⟨by rw [HN.out]; rfl, G0.out.trans ((below_drewN GW.out _).mono (by omega))⟩
          · have t0 : decide ((dn : Int) < 0) = false := by rw [decide_eq_false_iff_not]; omega
            obtain ⟨b2, o2, AL, cL, rfl, hb2, hlc, hnc⟩ := HDM.out dn rfl a1
            have hlc' := cellK GF.out hb2 hlc
            have t1 : decide (s.1.length ≤ dn) = false := by rw [decide_eq_false_iff_not]; omega
            have t2 : decide (lv < 1) = false := by rw [decide_eq_false_iff_not]; omega
            have t3 : decide ((n : Int) < lv) = false := by rw [decide_eq_false_iff_not]; omega
            have t4 : decide ((nm : Int) < 1) = false := by rw [decide_eq_false_iff_not]; omega
            have t4' : decide (nm < 1) = false := by rw [decide_eq_false_iff_not]; omega
            have t5 : decide ((6 : Int) < (nm : Int)) = false := by rw [decide_eq_false_iff_not]; omega
            have t5' : decide (6 < nm) = false := by rw [decide_eq_false_iff_not]; omega
            clear a2 a3 a4 a5 hlc
            subst hok
            have HMF := hid (good_paths.on (good_paths.more HMS.out hs) GF.out)
            obtain ⟨wo, rfl⟩ : ∃ wo : World, wo = wr := ⟨_, rfl⟩
            go_wp2
            rw [← HWf.out]
            go_quiet (fail)
            go_wp2
            have HMN := hid hmn
            go_loopw [9] (fun i wq => RqIn ms lv Wf i wq) (fun i _ => nm - (intOf i).toNat)
            case atStart => exact ⟨0, by omega, rfl, fun j h h' => by omega, below_drewN (Below.refl _ _) _⟩
            case round =>
              clear f0 f1 f2 l0 hlc'
              obtain ⟨j, hj, rfl, hall, hb⟩ := hrel
              have hs3 := hb.size
              have HB3 := hid hb; have HALL3 := hid hall
              have m1 := cellK hb (by omega) F1.out
              have m2 := cellK hb (by omega) F2.out
              clear hb hall
              by_cases hjl : j < nm
              · have hjl' : j < ms.length := by have := HMN.out; omega
                obtain ⟨b3, o3, AQ, cQ, rfl, hb3, hcq, hqq⟩ := paths_at (good_paths.on HMF.out HB3.out) hjl'
                have hstep : (mayB ms[j] && decide ((ms[j].length : Int) = lv)) = true → ∀ i (h : i < ms.length), i < j + 1 → (mayB ms[i] && decide ((ms[i].length : Int) = lv)) = true := fun h i hi hij => by
                  by_cases e : i = j
                  · subst e; exact h
                  · exact HALL3.out i hi (by omega)
                have hbad : (mayB ms[j] && decide ((ms[j].length : Int) = lv)) = false → ms.all (fun m => mayB m && decide ((m.length : Int) = lv)) = false := fun h => all_no (p := fun m => mayB m && decide ((m.length : Int) = lv)) hjl' h
                generalize ms[j] = m at *
                have HMY := hid (refMayN_any (.slice AQ m.length cQ) m wr (strs_sl hqq).1)
                generalize mayB m = bm at *
                generalize m.length = ml at *
                have HST := hid hstep; have HBD := hid hbad
                have HG := hid hcq
                have G1 := hid m1; have G2 := hid m2
                clear hqq hstep hbad
                go_wp2_with fail
                refine HMY.out.mono ?_
                rintro e w4 ⟨rfl, hq4⟩
                have m1 := (hq4.cell _).trans G1.out
                have m2 := (hq4.cell _).trans G2.out
                have m3 := (hq4.cell _).trans HG.out
                have B4 := hid (HB3.out.trans (hq4.below _))
                clear hq4
                have hw3 : bm = false ∨ (bm = true ∧ (ml : Int) ≠ lv) ∨ (bm = true ∧ (ml : Int) = lv) := by cases bm <;> by_cases h : (ml : Int) = lv <;> simp [h]
                rcases hw3 with rfl | ⟨rfl, hne⟩ | ⟨rfl, heq⟩
                · have HN := hid (show res = 16 by rw [HR2.out, HNOF.out (HBD.out rfl)]; rfl)
                  go_wp2
                  go_quiet (fail)
                  go_wp2
                  go_ret
                  exact ⟨by rw [HN.out]; rfl, G0.out.trans ((below_drewN (GW.out.trans (B4.out.mono (by omega))) _).mono (by omega))⟩
                · have t7 : ((ml : Int) != lv) = true := by simpa using hne
                  have HN := hid (show res = 16 by rw [HR2.out, HNOF.out (HBD.out (by rw [decide_eq_false hne]; rfl))]; rfl)
                  clear hne
                  go_wp2
                  go_quiet (fail)
                  go_wp2
                  go_ret
                  exact ⟨by rw [HN.out]; rfl, G0.out.trans ((below_drewN (GW.out.trans (B4.out.mono (by omega))) _).mono (by omega))⟩
                · have t7 : ((ml : Int) != lv) = false := by simpa using heq
                  have HS := hid (HST.out (by rw [decide_eq_true heq]; rfl))
                  clear heq
                  go_wp2
                  go_quiet (fail)
                  go_wp2
                  go_roundw
                  case rel => exact ⟨j + 1, by have := HMN.out; omega, by go_num, HS.out, below_drewN B4.out _⟩
                  case measure => simp [intOf]; omega
              · have hal := all_yes (p := fun m => mayB m && decide ((m.length : Int) = lv)) (l := ms) (fun i hi => HALL3.out i hi (by have := HMN.out; omega))
                have HY := hid (HYESF.out hal)
                clear hal
                go_wp2
                go_roundw
                case rel => exact ⟨k + 1, by omega, by go_num, HY.out, GW.out.trans (HB3.out.mono (by omega))⟩
                case measure => simp [intOf]; omega
        · have hall := all_yes (p := refFq s) (l := q.2) (fun j hj => HALL.out j hj (by omega))
          have HN := hid (show res = 0 by rw [HR2.out, hall]; rfl)
          clear hall
          go_wp2
          go_ret
          exact ⟨by rw [HN.out]; rfl, G0.out.trans (HB.out.mono (by omega))⟩
end Go.Proofs.YtgoapnkdcfcjgaaGreat
/- query.Key. -/
namespace Go.Proofs.YtgoapnkdcfcjgaaGreat
open Go.ChangeShapes Go.WideShapes Go.ChangeAt Go.RowKit
set_option linter.unusedVariables false
set_option linter.unusedSimpArgs false

def keyAt (q : QueryX) (ps : List (List ByteArray)) (i : Nat) : List ByteArray := if i < ps.length then upS (ps.getD i []) (q.1.getD i 0) else []
def keyN (q : QueryX) (ps : List (List ByteArray)) (k : Nat) : List (List ByteArray) := (List.range k).map (keyAt q ps)
theorem keyN_succ (q : QueryX) (ps : List (List ByteArray)) (k : Nat) : keyN q ps (k + 1) = keyN q ps k ++ [keyAt q ps k] := by unfold keyN; rw [List.range_succ, List.map_append]; rfl
theorem keyN_len (q : QueryX) (ps : List (List ByteArray)) (k : Nat) : (keyN q ps k).length = k := by simp [keyN]
theorem keyN_all (q : QueryX) (ps : List (List ByteArray)) : keyN q ps q.1.length = keyQ q ps := rfl
def KyRel (q : QueryX) (ps : List (List ByteArray)) (W0 : World) (out i : Value) (wr : World) : Prop := ∃ k : Nat, k ≤ q.1.length ∧ i = .int .i64 k ∧ RowL wr W0.heap.size out (keyN q ps k) ∧ Below W0.heap.size W0 wr
def KeyPost (l : List (List ByteArray)) (w : World) (e : Ending) (w' : World) : Prop := ∃ r, e = .returned r ∧ RowL w' w.heap.size r l ∧ Below w.heap.size w w'
end Go.Proofs.YtgoapnkdcfcjgaaGreat
