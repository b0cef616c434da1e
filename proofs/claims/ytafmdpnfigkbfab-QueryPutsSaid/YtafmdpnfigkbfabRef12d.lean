/- The reference's plain of queries. -/
import Derived.Test.YtafmdpnfigkbfabQry5
namespace Go.Proofs.Ytafmdpnfigkbfab
open Go.ChangeShapes Go.WideShapes Go.ChangeAt Go.RowKit
set_option linter.unusedVariables false
set_option linter.unusedSimpArgs false

theorem plainF_ways (d lv : Int) (ms : List (List ByteArray)) :
    (d < 0 ∧ plainF (d, lv, ms) = false) ∨ (¬ d < 0 ∧ 2 < d ∧ plainF (d, lv, ms) = false) ∨ (¬ d < 0 ∧ ¬ 2 < d ∧ lv < 0 ∧ plainF (d, lv, ms) = false) ∨ (¬ d < 0 ∧ ¬ 2 < d ∧ ¬ lv < 0 ∧ 3 < lv ∧ plainF (d, lv, ms) = false) ∨
    (¬ d < 0 ∧ ¬ 2 < d ∧ ¬ lv < 0 ∧ ¬ 3 < lv ∧ 6 < ms.length ∧ plainF (d, lv, ms) = false) ∨ (¬ d < 0 ∧ ¬ 2 < d ∧ ¬ lv < 0 ∧ ¬ 3 < lv ∧ ¬ 6 < ms.length ∧ plainF (d, lv, ms) = ms.all mayB) := by
  have hall : (!(ms.any fun p => !mayB p)) = ms.all mayB := by
    induction ms with
    | nil => rfl
    | cons p ms ih => rw [List.any_cons, List.all_cons, Bool.not_or, ih, Bool.not_not]
  unfold plainF inQ
  simp only [hall]
  by_cases h1 : d < 0
  · exact .inl ⟨h1, by rw [decide_eq_false (show ¬ 0 ≤ d by omega)]; simp⟩
  refine .inr ?_
  by_cases h2 : 2 < d
  · exact .inl ⟨h1, h2, by rw [decide_eq_false (show ¬ d ≤ 2 by omega)]; simp⟩
  refine .inr ?_
  by_cases h3 : lv < 0
  · exact .inl ⟨h1, h2, h3, by rw [decide_eq_false (show ¬ 0 ≤ lv by omega)]; simp⟩
  refine .inr ?_
  by_cases h4 : 3 < lv
  · exact .inl ⟨h1, h2, h3, h4, by rw [decide_eq_false (show ¬ lv ≤ 3 by omega)]; simp⟩
  refine .inr ?_
  by_cases h5 : 6 < ms.length
  · exact .inl ⟨h1, h2, h3, h4, h5, by rw [decide_eq_false (show ¬ ms.length ≤ 6 by omega)]; simp⟩
  refine .inr ⟨h1, h2, h3, h4, h5, ?_⟩
  rw [decide_eq_true (show 0 ≤ d by omega), decide_eq_true (show d ≤ 2 by omega), decide_eq_true (show 0 ≤ lv by omega), decide_eq_true (show lv ≤ 3 by omega), decide_eq_true (show ms.length ≤ 6 by omega)]
  simp
def RpG (q : QueryX) (W0 : World) (i : Value) (wr : World) : Prop := ∃ k : Nat, k ≤ q.1.length ∧ i = .int .i64 k ∧ (∀ j (h : j < q.1.length), j < k → inQ q.1[j] 3 = true) ∧ Qu W0 wr
def RpF (q : QueryX) (W0 : World) (i : Value) (wr : World) : Prop := ∃ k : Nat, k ≤ q.2.length ∧ i = .int .i64 k ∧ (∀ j (h : j < q.2.length), j < k → plainF q.2[j] = true) ∧ Below W0.heap.size W0 wr
def RpM (ms : List (List ByteArray)) (W0 : World) (i : Value) (wr : World) : Prop := ∃ k : Nat, k ≤ ms.length ∧ i = .int .i64 k ∧ (∀ j (h : j < ms.length), j < k → mayB ms[j] = true) ∧ Qu W0 wr
theorem all_more {α : Type} {p : α → Bool} {l : List α} {k : Nat} (hall : ∀ j (h : j < l.length), j < k → p l[j] = true) (hk : k < l.length) (h : p l[k] = true) : ∀ j (h : j < l.length), j < k + 1 → p l[j] = true := fun j hj hjk => by
  by_cases e : j = k
  · subst e; exact h
  · exact hall j hj (by omega)
set_option maxRecDepth 100000 in
set_option maxHeartbeats 3200000 in
theorem refPlain_any (v : Value) (q : QueryX) (w : World) (hv : QueryV w w.heap.size v q) :
    Calls Try.prog 43 #[v] w (Gives (.bool (plainQ q)) w) := by
  obtain ⟨A1, c1, A2, c2, rfl, h1, h2⟩ := hv
  obtain ⟨hc1, hm1⟩ := h1.cap
  obtain ⟨hc2, hm2⟩ := h2.cap
  obtain ⟨W0, hW0⟩ : ∃ W, W = w.alloc (.cells #[.slice A1 q.1.length c1, .slice A2 q.2.length c2] 30) := ⟨_, rfl⟩
  have g0 : Below w.heap.size w W0 := by rw [hW0]; exact bl1 _ _
  have z0 : W0.heap.size = w.heap.size + 1 := by rw [hW0]; simp
  have y0 : W0.cell? ⟨w.heap.size, 0, none⟩ = some (.slice A1 q.1.length c1) := by rw [hW0]; simp [go_sem]
  have y1 : W0.cell? ⟨w.heap.size, 1, none⟩ = some (.slice A2 q.2.length c2) := by rw [hW0]; simp [go_sem]
  have HW0 := hid hW0
  have G0 := hid g0; have Y0 := hid y0; have Y1 := hid y1
  have H1 := hid (good_ints.on h1 g0)
  have H2 := hid (good_filters.on h2 g0)
  have hpl : plainQ q = ((decide (q.1.length ≤ 3) && decide (q.2.length ≤ 3) && !(q.1.any fun n => !inQ n 3)) && q.2.all plainF) := rfl
  have hany : (!(q.1.any fun n => !inQ n 3)) = q.1.all fun n => inQ n 3 := by
    generalize q.1 = l
    induction l with
    | nil => rfl
    | cons p l ih => rw [List.any_cons, List.all_cons, Bool.not_or, ih, Bool.not_not]
  rw [hany] at hpl
  generalize plainQ q = res at *
  have HPL := hid hpl
  clear hW0 g0 h1 h2 hpl hany
  go_enter Try.func43, Try.ntmps43
  by_cases b1 : 3 < q.1.length
  · have t1 : decide ((3 : Int) < (q.1.length : Int)) = true := by rw [decide_eq_true_eq]; omega
    have t1' : decide (3 < q.1.length) = true := decide_eq_true b1
    have HN := hid (show res = false by rw [HPL.out, decide_eq_false (show ¬ q.1.length ≤ 3 by omega)]; simp)
    clear b1
    go_wp2
    rw [← HW0.out]
    go_ret
    exact ⟨by rw [HN.out]; rfl, G0.out⟩
  have t1 : decide ((3 : Int) < (q.1.length : Int)) = false := by rw [decide_eq_false_iff_not]; omega
  have t1' : decide (3 < q.1.length) = false := decide_eq_false b1
  by_cases b2 : 3 < q.2.length
  · have t2 : decide ((3 : Int) < (q.2.length : Int)) = true := by rw [decide_eq_true_eq]; omega
    have t2' : decide (3 < q.2.length) = true := decide_eq_true b2
    have HN := hid (show res = false by rw [HPL.out, decide_eq_false (show ¬ q.2.length ≤ 3 by omega)]; simp)
    clear b1 b2
    go_wp2
    rw [← HW0.out]
    go_ret
    exact ⟨by rw [HN.out]; rfl, G0.out⟩
  have t2 : decide ((3 : Int) < (q.2.length : Int)) = false := by rw [decide_eq_false_iff_not]; omega
  have t2' : decide (3 < q.2.length) = false := decide_eq_false b2
  have HP2 := hid (show res = ((q.1.all fun n => inQ n 3) && q.2.all plainF) by rw [HPL.out, decide_eq_true (show q.1.length ≤ 3 by omega), decide_eq_true (show q.2.length ≤ 3 by omega)]; simp)
  go_wp2
  rw [← HW0.out]
  go_loopw [3] (fun i wr => RpG q W0 i wr) (fun i _ => q.1.length - (intOf i).toNat)
  case atStart => exact ⟨0, by omega, rfl, fun j h h' => by omega, Qu.refl _⟩
  case round =>
    clear y0 y1
    obtain ⟨k, hk, rfl, hall, hq⟩ := hrel
    have HQ := hid hq; have HALL := hid hall
    have y0 : wr.cell? ⟨w.heap.size, 0, none⟩ = _ := (hq.cell _).trans Y0.out
    have y1 : wr.cell? ⟨w.heap.size, 1, none⟩ = _ := (hq.cell _).trans Y1.out
    clear hq hall
    by_cases hlt : k < q.1.length
    · obtain ⟨b, off, rfl, hbl, hcell, hii⟩ := ints_at' H1.out hlt
      have hcw : wr.cell? ⟨b, off + k, none⟩ = _ := (HQ.out.cell _).trans hcell
      have hst := all_more (p := fun n => inQ n 3) HALL.out hlt
      have hno : inQ q.1[k] 3 = false → (q.1.all fun n => inQ n 3) = false := all_no (p := fun n => inQ n 3) hlt
      generalize q.1[k] = n at *
      have HST := hid hst; have HNO := hid hno
      clear hst hno hcell
      have hw : (n < 0) ∨ (¬ n < 0 ∧ 3 < n) ∨ (¬ n < 0 ∧ ¬ 3 < n) := by omega
      rcases hw with a | ⟨a, a'⟩ | ⟨a, a'⟩
      · have s1 : decide (n < 0) = true := decide_eq_true a
        have HN := hid (show res = false by rw [HP2.out, HNO.out (by unfold inQ; rw [decide_eq_false (show ¬ 0 ≤ n by omega)]; rfl)]; rfl)
        clear a
        go_wp2
        go_ret
        exact ⟨by rw [HN.out]; rfl, G0.out.trans (HQ.out.below _)⟩
      · have s1 : decide (n < 0) = false := decide_eq_false a
        have s2 : decide (3 < n) = true := decide_eq_true a'
        have HN := hid (show res = false by rw [HP2.out, HNO.out (by unfold inQ; rw [decide_eq_false (show ¬ n ≤ 3 by omega)]; simp)]; rfl)
        clear a a'
        go_wp2
        go_ret
        exact ⟨by rw [HN.out]; rfl, G0.out.trans (HQ.out.below _)⟩
      · have s1 : decide (n < 0) = false := decide_eq_false a
        have s2 : decide (3 < n) = false := decide_eq_false a'
        have HS := hid (HST.out (by unfold inQ; rw [decide_eq_true (show 0 ≤ n by omega), decide_eq_true (show n ≤ 3 by omega)]; rfl))
        clear a a'
        go_wp2
        go_roundw
        case rel => exact ⟨k + 1, by omega, by go_num, HS.out, HQ.out⟩
        case measure => simp [intOf]; omega
    · have hal := all_yes (p := fun n => inQ n 3) (l := q.1) (fun j hj => HALL.out j hj (by omega))
      have HP3 := hid (show res = q.2.all plainF by rw [HP2.out, hal]; rfl)
      have B0 := hid (HQ.out.below W0.heap.size)
      clear hal
      go_wp2
      go_loopw [4] (fun i wr => RpF q W0 i wr) (fun i _ => q.2.length - (intOf i).toNat)
      case atStart => exact ⟨0, by omega, rfl, fun j h h' => by omega, B0.out⟩
      case round =>
        clear y0 y1
        obtain ⟨k, hk, rfl, hall, hb⟩ := hrel
        have hs := hb.size
        have HB := hid hb; have HALL2 := hid hall
        have y1 := cellK hb (by omega) Y1.out
        clear hb hall
        by_cases hlt : k < q.2.length
        · obtain ⟨b, off, AM, cM, rfl, hbl, q0, q1, q2, i1, i2, hms⟩ := filters_at H2.out hlt
          replace q0 := cellK HB.out hbl q0
          replace q1 := cellK HB.out hbl q1
          replace q2 := cellK HB.out hbl q2
          have hst := all_more (p := plainF) HALL2.out hlt
          have hno : plainF q.2[k] = false → q.2.all plainF = false := all_no (p := plainF) hlt
          generalize q.2[k] = f at *
          obtain ⟨d, lv, ms⟩ := f
          simp only at q0 q1 q2 hms i1 i2
          have hways := plainF_ways d lv ms
          obtain ⟨hcM, hmM⟩ := hms.cap
          have HMS := hid hms
          generalize plainF (d, lv, ms) = okb at *
          have HST := hid hst; have HNO := hid hno
          obtain ⟨Wf, hWf⟩ : ∃ W, W = wr.alloc (.cells #[.int .i64 d, .int .i64 lv, .slice AM ms.length cM] 54) := ⟨_, rfl⟩
          have gf : Below wr.heap.size wr Wf := by rw [hWf]; exact bl1 _ _
          have zf : Wf.heap.size = wr.heap.size + 1 := by rw [hWf]; simp
          have f0 : Wf.cell? ⟨wr.heap.size, 0, none⟩ = some (.int .i64 d) := by rw [hWf]; simp [go_sem]
          have f1 : Wf.cell? ⟨wr.heap.size, 1, none⟩ = some (.int .i64 lv) := by rw [hWf]; simp [go_sem]
          have f2 : Wf.cell? ⟨wr.heap.size, 2, none⟩ = some (.slice AM ms.length cM) := by rw [hWf]; simp [go_sem]
          have HWf := hid hWf; have GF := hid gf; have F2 := hid f2
          have GW := hid (HB.out.trans (gf.mono hs))
          clear hWf gf hst hno hms
          generalize hmn : ms.length = nm at *
          rcases hways with ⟨a1, rfl⟩ | ⟨a1, a2, rfl⟩ | ⟨a1, a2, a3, rfl⟩ | ⟨a1, a2, a3, a4, rfl⟩ | ⟨a1, a2, a3, a4, a5, rfl⟩ | ⟨a1, a2, a3, a4, a5, hok⟩
          · have s1 : decide (d < 0) = true := decide_eq_true a1
            have HN := hid (show res = false by rw [HP3.out, HNO.out (by first | rfl | trivial)])
            clear a1
            go_wp2
            rw [← HWf.out]
            go_ret
            exact ⟨by rw [HN.out]; rfl, G0.out.trans (GW.out.mono (by omega))⟩
          · have s1 : decide (d < 0) = false := decide_eq_false a1
            have s2 : decide (2 < d) = true := decide_eq_true a2
            have HN := hid (show res = false by rw [HP3.out, HNO.out (by first | rfl | trivial)])
            clear a1 a2
            go_wp2
            rw [← HWf.out]
            go_ret
            exact ⟨by rw [HN.out]; rfl, G0.out.trans (GW.out.mono (by omega))⟩
          · have s1 : decide (d < 0) = false := decide_eq_false a1
            have s2 : decide (2 < d) = false := decide_eq_false a2
            have s3 : decide (lv < 0) = true := decide_eq_true a3
            have HN := hid (show res = false by rw [HP3.out, HNO.out (by first | rfl | trivial)])
            clear a1 a2 a3
            go_wp2
            rw [← HWf.out]
            go_ret
            exact ⟨by rw [HN.out]; rfl, G0.out.trans (GW.out.mono (by omega))⟩
          · have s1 : decide (d < 0) = false := decide_eq_false a1
            have s2 : decide (2 < d) = false := decide_eq_false a2
            have s3 : decide (lv < 0) = false := decide_eq_false a3
            have s4 : decide (3 < lv) = true := decide_eq_true a4
            have HN := hid (show res = false by rw [HP3.out, HNO.out (by first | rfl | trivial)])
            clear a1 a2 a3 a4
            go_wp2
            rw [← HWf.out]
            go_ret
            exact ⟨by rw [HN.out]; rfl, G0.out.trans (GW.out.mono (by omega))⟩
          · have s1 : decide (d < 0) = false := decide_eq_false a1
            have s2 : decide (2 < d) = false := decide_eq_false a2
            have s3 : decide (lv < 0) = false := decide_eq_false a3
            have s4 : decide (3 < lv) = false := decide_eq_false a4
            have s5 : decide (6 < nm) = true := decide_eq_true a5
            have s5' : decide ((6 : Int) < (nm : Int)) = true := by rw [decide_eq_true_eq]; omega
            have HN := hid (show res = false by rw [HP3.out, HNO.out (by first | rfl | trivial)])
            clear a1 a2 a3 a4 a5
            go_wp2
            rw [← HWf.out]
            go_ret
            exact ⟨by rw [HN.out]; rfl, G0.out.trans (GW.out.mono (by omega))⟩
          · have s1 : decide (d < 0) = false := decide_eq_false a1
            have s2 : decide (2 < d) = false := decide_eq_false a2
            have s3 : decide (lv < 0) = false := decide_eq_false a3
            have s4 : decide (3 < lv) = false := decide_eq_false a4
            have s5 : decide (6 < nm) = false := decide_eq_false a5
            have s5' : decide ((6 : Int) < (nm : Int)) = false := by rw [decide_eq_false_iff_not]; omega
            clear a1 a2 a3 a4 a5
            subst hok
            have HMF := hid (good_paths.stays HMS.out GW.out)
            have HMN := hid hmn
            go_wp2
            rw [← HWf.out]
            obtain ⟨wo, rfl⟩ : ∃ wo : World, wo = wr := ⟨_, rfl⟩
            go_loopw [6] (fun i wq => RpM ms Wf i wq) (fun i _ => nm - (intOf i).toNat)
            case atStart => exact ⟨0, by omega, rfl, fun j h h' => by omega, Qu.refl _⟩
            case round =>
              clear f0 f1 f2
              obtain ⟨j, hj, rfl, hall, hq⟩ := hrel
              have HQ3 := hid hq; have HALL3 := hid hall
              have m2 : wr.cell? ⟨wo.heap.size, 2, none⟩ = _ := (hq.cell _).trans F2.out
              clear hq hall
              by_cases hjl : j < nm
              · have hjl' : j < ms.length := by have := HMN.out; omega
                obtain ⟨b3, o3, AQ, cQ, rfl, hb3, hcq, hqq⟩ := paths_at HMF.out hjl'
                replace hcq : wr.cell? ⟨b3, o3 + j, none⟩ = _ := (HQ3.out.cell _).trans hcq
                have hqs := (strs_sl (good_strs.on (good_strs.more hqq (show W0.heap.size ≤ Wf.heap.size by omega)) (HQ3.out.below _))).1
                have hst := all_more (p := mayB) HALL3.out hjl'
                have hno : mayB ms[j] = false → ms.all mayB = false := all_no (p := mayB) hjl'
                generalize ms[j] = m at *
                have HMY := hid (refMayN_any (.slice AQ m.length cQ) m wr hqs)
                generalize mayB m = bm at *
                have HST3 := hid hst; have HNO3 := hid hno
                clear hst hno hqq hqs
                go_wp2_with fail
                refine HMY.out.mono ?_
                rintro e w4 ⟨rfl, hq4⟩
                have HQ4 := hid (HQ3.out.trans hq4)
                clear hq4
                cases bm
                · have HN := hid (show res = false by rw [HP3.out, HNO.out (HNO3.out (by first | rfl | trivial))])
                  go_wp2
                  go_ret
                  exact ⟨by rw [HN.out]; rfl, G0.out.trans ((GW.out.trans ((HQ4.out.below _).mono (by omega))).mono (by omega))⟩
                · have HS := hid (HST3.out (by first | rfl | trivial))
                  go_wp2
                  go_roundw
                  case rel => exact ⟨j + 1, by have := HMN.out; omega, by go_num, HS.out, HQ4.out⟩
                  case measure => simp [intOf]; omega
              · have hal := all_yes (p := mayB) (l := ms) (fun i hi => HALL3.out i hi (by have := HMN.out; omega))
                have HY := hid (HST.out hal)
                clear hal
                go_wp2
                go_roundw
                case rel => exact ⟨k + 1, by omega, by go_num, HY.out, GW.out.trans ((HQ3.out.below _).mono (by omega))⟩
                case measure => simp [intOf]; omega
        · have hal := all_yes (p := plainF) (l := q.2) (fun j hj => HALL2.out j hj (by omega))
          have HN := hid (show res = true by rw [HP3.out, hal])
          clear hal
          go_wp2
          go_ret
          exact ⟨by rw [HN.out]; rfl, G0.out.trans (HB.out.mono (by omega))⟩
end Go.Proofs.Ytafmdpnfigkbfab
