/- 1 text of this claim, in build order. -/
import Derived.Test.YtkdpclllenbgfaaDoorPghhfckmo
import Derived.Test.YtkdpclllenbgfaaDoorPhkcfndmd
import Derived.Test.YtkdpclllenbgfaaDoorPckcmpmog
/- query.in, plain. -/
namespace Go.Proofs.YtkdpclllenbgfaaDoor
open Go.ChangeShapes Go.WideShapes Go.ChangeAt Go.RowKit
set_option linter.unusedVariables false
set_option linter.unusedSimpArgs false

set_option maxRecDepth 100000 in
theorem in_any (n m : Int) (w : World) : Calls Tryd.prog 49 #[.int .i64 n, .int .i64 m] w (Stays (.bool (inQ n m)) w) := by
  unfold inQ
  by_cases h : 0 ≤ n
  · have d1 : decide (0 ≤ n) = true := decide_eq_true h
    rw [d1, Bool.true_and]
    go_enter Tryd.func49, Tryd.ntmps49
    go_wp2
    go_ret
    exact ⟨rfl, Qu.refl _⟩
  · have d1 : decide (0 ≤ n) = false := decide_eq_false h
    rw [d1, Bool.false_and]
    go_enter Tryd.func49, Tryd.ntmps49
    go_wp2
    go_ret
    exact ⟨rfl, Qu.refl _⟩
set_option maxRecDepth 100000 in
theorem notIn3_any (n : Int) (w : World) : Calls Tryd.prog 52 #[.int .i64 n] w (Gives (.bool (!inQ n 3)) w) := by
  have HI := hid (in_any n 3)
  go_enter Tryd.func52, Tryd.ntmps52
  go_wp2_with fail
  refine (HI.out _).mono ?_
  rintro e w1 ⟨rfl, hq⟩
  go_wp2
  go_ret
  exact ⟨rfl, hq.below _⟩
theorem enters_notIn3 : Enters 52 := enters_of Tryd.func52 (by kernel_rfl) rfl
theorem hasOut_any (v : Value) (l : List Int) (w : World) (hv : rdInts w w.heap.size [v] l) :
    Calls Tryd.prog 51 #[v, .func (Fn.func 52) #[] #[]] w (Gives (.bool (l.any fun n => !inQ n 3)) w) :=
  hasI_any 52 #[] (fun n => !inQ n 3) v l w hv good_ints enters_notIn3 (fun x u W hx hr hb => by
    obtain ⟨e, hs⟩ := hr
    simp only [List.cons.injEq, and_true] at e
    subst e
    exact notIn3_any x W)
set_option maxRecDepth 100000 in
theorem notMay_any (v : Value) (p : List ByteArray) (w : World) (hv : rdStrs w w.heap.size [v] p) : Calls Tryd.prog 53 #[v] w (Gives (.bool (!mayB p)) w) := by
  have HI := hid (mayN_any v p w (strs_sl hv).1 (strs_sl hv).2 (strs_len hv))
  clear hv
  go_enter Tryd.func53, Tryd.ntmps53
  go_wp2_with fail
  refine HI.out.mono ?_
  rintro e w1 ⟨rfl, hb⟩
  go_wp2
  go_ret
  exact ⟨rfl, hb⟩
theorem enters_notMay : Enters 53 := enters_of Tryd.func53 (by kernel_rfl) rfl
theorem hasBad_any (v : Value) (l : List (List ByteArray)) (w : World) (hv : rdSlice 1 rdStrs w w.heap.size [v] l) :
    Calls Tryd.prog 39 #[v, .func (Fn.func 53) #[] #[]] w (Gives (.bool (l.any fun p => !mayB p)) w) :=
  hasP_any 53 #[] (fun p => !mayB p) v l w hv good_paths enters_notMay (fun x u W hx hr hb => notMay_any u x W hr)
theorem filters_at {w : World} {B : Nat} {A : Option Addr} {n c : Nat} {l : List FilterX} (h : rdSlice 3 rdFilter w B [.slice A n c] l) {k : Nat} (hk : k < l.length) :
    ∃ b off AM cM, A = some ⟨b, off, none⟩ ∧ b < B ∧ w.cell? ⟨b, off + k * 3, none⟩ = some (.int .i64 l[k].1) ∧ w.cell? ⟨b, off + k * 3 + 1, none⟩ = some (.int .i64 l[k].2.1) ∧ w.cell? ⟨b, off + k * 3 + 2, none⟩ = some (.slice AM l[k].2.2.length cM) ∧
      InI64 l[k].1 ∧ InI64 l[k].2.1 ∧ rdSlice 1 rdStrs w B [.slice AM l[k].2.2.length cM] l[k].2.2 := by
  obtain ⟨b, off, rfl, hb, es, hel, hcell, h1, ⟨e1, i1⟩, h2, ⟨e2, i2⟩, h3⟩ := h.at_ hk
  obtain ⟨AM, cM, e3, -, -⟩ := h3.open_
  obtain rfl : es = [.int .i64 l[k].1, .int .i64 l[k].2.1, .slice AM l[k].2.2.length cM] := by
    rw [← List.take_append_drop 1 es, e1, ← List.take_append_drop 1 (es.drop 1), e2, e3]; rfl
  exact ⟨b, off, AM, cM, rfl, hb, hcell 0 _ rfl, hcell 1 _ rfl, hcell 2 _ rfl, i1, i2, h3⟩
def PlRel (q : QueryX) (W0 : World) (i : Value) (wr : World) : Prop := ∃ k : Nat, k ≤ q.2.length ∧ i = .int .i64 k ∧ (∀ j (h : j < q.2.length), j < k → plainF q.2[j] = true) ∧ Below W0.heap.size W0 wr
theorem ways3 (a b c : Bool) : a = false ∨ (a = true ∧ b = false) ∨ (a = true ∧ b = true ∧ c = false) ∨ (a = true ∧ b = true ∧ c = true) := by cases a <;> cases b <;> cases c <;> simp
set_option maxRecDepth 100000 in
set_option maxHeartbeats 1600000 in
theorem plain_any (v : Value) (q : QueryX) (w : World) (hv : QueryV w w.heap.size v q) :
    Calls Tryd.prog 33 #[v] w (Gives (.bool (plainQ q)) w) := by
  obtain ⟨A1, c1, A2, c2, rfl, h1, h2⟩ := hv
  obtain ⟨hc1, hm1⟩ := h1.cap
  obtain ⟨hc2, hm2⟩ := h2.cap
  obtain ⟨W0, hW0⟩ : ∃ W, W = w.alloc (.cells #[.slice A1 q.1.length c1, .slice A2 q.2.length c2] 32) := ⟨_, rfl⟩
  have g0 : Below w.heap.size w W0 := by rw [hW0]; exact bl1 _ _
  have z0 : W0.heap.size = w.heap.size + 1 := by rw [hW0]; simp
  have y0 : W0.cell? ⟨w.heap.size, 0, none⟩ = some (.slice A1 q.1.length c1) := by rw [hW0]; simp [go_sem]
  have y1 : W0.cell? ⟨w.heap.size, 1, none⟩ = some (.slice A2 q.2.length c2) := by rw [hW0]; simp [go_sem]
  have HW0 := hid hW0
  have G0 := hid g0; have Y0 := hid y0; have Y1 := hid y1
  have HHO := hid (hasOut_any _ q.1 W0 (good_ints.on h1 g0))
  have H2 := hid (good_filters.on h2 g0)
  have hpl : plainQ q = ((decide (q.1.length ≤ 3) && decide (q.2.length ≤ 3) && !(q.1.any fun n => !inQ n 3)) && q.2.all plainF) := rfl
  generalize (q.1.any fun n => !inQ n 3) = bo at *
  have HPL := hid hpl
  clear hW0 g0 y0 y1 h1 h2 hpl
  have hw : (¬ q.1.length ≤ 3) ∨ (q.1.length ≤ 3 ∧ ¬ q.2.length ≤ 3) ∨ (q.1.length ≤ 3 ∧ q.2.length ≤ 3) := by omega
  go_enter Tryd.func33, Tryd.ntmps33
  rcases hw with h | ⟨h, h'⟩ | ⟨h, h'⟩
  · have d1 : decide ((3 : Int) < (q.1.length : Int)) = true := by rw [decide_eq_true_eq]; omega
    have hn : plainQ q = false := by rw [HPL.out, decide_eq_false h]; rfl
    have HN := hid hn; clear hn
    go_wp2
    rw [← HW0.out]
    go_ret
    exact ⟨by rw [HN.out]; rfl, G0.out⟩
  · have d1 : decide ((3 : Int) < (q.1.length : Int)) = false := by rw [decide_eq_false_iff_not]; omega
    have d2 : decide ((3 : Int) < (q.2.length : Int)) = true := by rw [decide_eq_true_eq]; omega
    have hn : plainQ q = false := by rw [HPL.out, decide_eq_false h']; simp
    have HN := hid hn; clear hn
    go_wp2
    rw [← HW0.out]
    go_ret
    exact ⟨by rw [HN.out]; rfl, G0.out⟩
  · have d1 : decide ((3 : Int) < (q.1.length : Int)) = false := by rw [decide_eq_false_iff_not]; omega
    have d2 : decide ((3 : Int) < (q.2.length : Int)) = false := by rw [decide_eq_false_iff_not]; omega
    have hn : plainQ q = (!bo && q.2.all plainF) := by rw [HPL.out, decide_eq_true h, decide_eq_true h']; simp
    have HN := hid hn; clear hn HPL
    go_wp2_with fail
    rw [← HW0.out]
    refine HHO.out.mono ?_
    rintro e w1 ⟨rfl, hb1⟩
    have HB1 := hid hb1; clear hb1
    cases bo
    · have hn : plainQ q = q.2.all plainF := by rw [HN.out]; simp
      have HN' := hid hn; clear hn HN
      have k1 := cellK HB1.out (by omega) Y1.out
      go_wp2
      go_loopw [23] (fun i wr => PlRel q W0 i wr) (fun i _ => q.2.length - (intOf i).toNat)
      case atStart => exact ⟨0, by omega, rfl, fun j h h' => by omega, HB1.out⟩
      case round =>
        obtain ⟨k, hk, rfl, hall, hb⟩ := hrel
        have hs := hb.size
        have HB := hid hb; have HALL := hid hall
        clear hb hall
        by_cases hlt : k < q.2.length
        · obtain ⟨b, off, AM, cM, rfl, hbl, q0, q1, q2, i1, i2, hms⟩ := filters_at (good_filters.stays H2.out HB.out) hlt
          have hno := fun h => all_no (p := plainF) hlt h
          have hyes : plainF q.2[k] = true → ∀ j (h : j < q.2.length), j < k + 1 → plainF q.2[j] = true := fun h j hj hjk => by
            by_cases e : j = k
            · subst e; exact h
            · exact HALL.out j hj (by omega)
          have hpf : plainF q.2[k] = ((inQ q.2[k].1 2 && inQ q.2[k].2.1 3 && decide (q.2[k].2.2.length ≤ 6)) && !(q.2[k].2.2.any fun p => !mayB p)) := rfl
          rw [hpf] at hno hyes
          clear hpf
          generalize q.2[k] = f at *
          obtain ⟨d, lv, ms⟩ := f
          simp only at hno hyes q0 q1 q2 hms
          have HID := hid (fun W => in_any d 2 W); have HIL := hid (fun W => in_any lv 3 W)
          have HMS := hid (fun W (hb : Below wr.heap.size wr W) => hasBad_any _ ms W (good_paths.on (good_paths.more hms (by omega)) hb))
          obtain ⟨hcM, hmM⟩ := hms.cap
          generalize inQ d 2 = b1 at *
          generalize inQ lv 3 = b2 at *
          generalize (ms.any fun p => !mayB p) = b3 at *
          have HNO := hid hno; have HYES := hid hyes
          clear hno hyes hms i1 i2
          obtain ⟨Wf, hWf⟩ : ∃ W, W = wr.alloc (.cells #[.int .i64 d, .int .i64 lv, .slice AM ms.length cM] 57) := ⟨_, rfl⟩
          have gf : Below wr.heap.size wr Wf := by rw [hWf]; exact bl1 _ _
          have zf : Wf.heap.size = wr.heap.size + 1 := by rw [hWf]; simp
          have f0 : Wf.cell? ⟨wr.heap.size, 0, none⟩ = some (.int .i64 d) := by rw [hWf]; simp [go_sem]
          have f1 : Wf.cell? ⟨wr.heap.size, 1, none⟩ = some (.int .i64 lv) := by rw [hWf]; simp [go_sem]
          have f2 : Wf.cell? ⟨wr.heap.size, 2, none⟩ = some (.slice AM ms.length cM) := by rw [hWf]; simp [go_sem]
          have HWf := hid hWf; have GF := hid gf; have F1 := hid f1; have F2 := hid f2
          have GW := hid (HB.out.trans (gf.mono hs))
          clear hWf gf f0 f1 f2
          go_wp2_with fail
          rw [← HWf.out]
          refine (HID.out _).mono ?_
          rintro e w2 ⟨rfl, hq2⟩
          have B2 := hid (hq2.below Wf.heap.size)
          have m1 := cellK B2.out (by omega) F1.out
          clear hq2
          cases b1
          · have HN := hid (HNO.out rfl)
            go_wp2
            go_ret
            exact ⟨by rw [HN'.out, HN.out]; rfl, G0.out.trans ((GW.out.trans (B2.out.mono (by omega))).mono (by omega))⟩
          · go_wp2_with fail
            refine (HIL.out _).mono ?_
            rintro e w3 ⟨rfl, hq3⟩
            have B3 := hid (B2.out.trans (hq3.below Wf.heap.size))
            have m2 := cellK B3.out (by omega) F2.out
            clear hq3
            cases b2
            · have HN := hid (HNO.out rfl)
              go_wp2
              go_ret
              exact ⟨by rw [HN'.out, HN.out]; rfl, G0.out.trans ((GW.out.trans (B3.out.mono (by omega))).mono (by omega))⟩
            · by_cases h6 : ms.length ≤ 6
              · have d6 : decide ((6 : Int) < (ms.length : Int)) = false := by rw [decide_eq_false_iff_not]; omega
                have hx : (true && true && decide (ms.length ≤ 6) && !b3) = !b3 := by rw [decide_eq_true h6]; simp
                have hno := HNO.out; have hyes := HYES.out
                rw [hx] at hno hyes
                have HNO' := hid hno; have HYES' := hid hyes
                clear hno hyes hx
                go_wp2_with fail
                refine (HMS.out _ (GF.out.trans (B3.out.mono (by omega)))).mono ?_
                rintro e w4 ⟨rfl, hb4⟩
                have z3 := B3.out.size
                have B4 := hid (B3.out.trans (hb4.mono z3))
                clear hb4
                cases b3
                · go_wp2
                  go_roundw
                  case rel => exact ⟨k + 1, by omega, by go_num, HYES'.out (by first | rfl | trivial), GW.out.trans (B4.out.mono (by omega))⟩
                  case measure => simp [intOf]; omega
                · have HN := hid (HNO'.out rfl)
                  go_wp2
                  go_ret
                  exact ⟨by rw [HN'.out, HN.out]; rfl, G0.out.trans ((GW.out.trans (B4.out.mono (by omega))).mono (by omega))⟩
              · have d6 : decide ((6 : Int) < (ms.length : Int)) = true := by rw [decide_eq_true_eq]; omega
                have HN := hid (HNO.out (by rw [decide_eq_false h6]; simp))
                go_wp2
                go_ret
                exact ⟨by rw [HN'.out, HN.out]; rfl, G0.out.trans ((GW.out.trans (B3.out.mono (by omega))).mono (by omega))⟩
        · have hall := all_yes (p := plainF) (l := q.2) (fun j hj => HALL.out j hj (by omega))
          have HALL' := hid hall; clear hall
          go_wp2
          go_ret
          exact ⟨by rw [HN'.out, HALL'.out]; rfl, G0.out.trans (HB.out.mono (by omega))⟩
    · go_wp2
      go_ret
      exact ⟨by rw [HN.out]; rfl, G0.out.trans (HB1.out.mono (by omega))⟩
end Go.Proofs.YtkdpclllenbgfaaDoor
