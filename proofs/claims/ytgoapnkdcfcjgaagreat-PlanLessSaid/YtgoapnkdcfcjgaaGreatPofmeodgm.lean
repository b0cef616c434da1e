/- 2 texts of this claim, in build order. -/
import Derived.Test.YtgoapnkdcfcjgaaGreatPbagjfiio
import Derived.Test.YtgoapnkdcfcjgaaGreatPddhcbcnb
import Derived.Test.YtgoapnkdcfcjgaaGreatPmmljdcfd
import Derived.BigQuiet
/- query.in, plain. -/
namespace Go.Proofs.YtgoapnkdcfcjgaaGreat
open Go.ChangeShapes Go.WideShapes Go.ChangeAt Go.RowKit
set_option linter.unusedVariables false
set_option linter.unusedSimpArgs false

set_option maxRecDepth 100000 in
theorem in_any (n m : Int) (w : World) : Calls Tryz.prog 82 #[.int .i64 n, .int .i64 m] w (Stays (.bool (inQ n m)) w) := by
  unfold inQ
  by_cases h : 0 ≤ n
  · have d1 : decide (0 ≤ n) = true := decide_eq_true h
    rw [d1, Bool.true_and]
    go_enter Tryz.func82, Tryz.ntmps82
    go_wp2
    go_ret
    exact ⟨rfl, Qu.refl _⟩
  · have d1 : decide (0 ≤ n) = false := decide_eq_false h
    rw [d1, Bool.false_and]
    go_enter Tryz.func82, Tryz.ntmps82
    go_wp2
    go_ret
    exact ⟨rfl, Qu.refl _⟩
set_option maxRecDepth 100000 in
theorem notIn3_any (n : Int) (w : World) : Calls Tryz.prog 81 #[.int .i64 n] w (Gives (.bool (!inQ n 3)) w) := by
  have HI := hid (in_any n 3)
  go_enter Tryz.func81, Tryz.ntmps81
  go_wp2_with fail
  refine (HI.out _).mono ?_
  rintro e w1 ⟨rfl, hq⟩
  go_wp2
  go_ret
  exact ⟨rfl, hq.below _⟩
theorem enters_notIn3 : Enters 81 := enters_of Tryz.func81 (by kernel_rfl) rfl
theorem hasOut_any (v : Value) (l : List Int) (w : World) (hv : rdInts w w.heap.size [v] l) :
    Calls Tryz.prog 80 #[v, .func (Fn.func 81) #[] #[]] w (Gives (.bool (l.any fun n => !inQ n 3)) w) :=
  hasI_any 81 #[] (fun n => !inQ n 3) v l w hv good_ints enters_notIn3 (fun x u W hx hr hb => by
    obtain ⟨e, hs⟩ := hr
    simp only [List.cons.injEq, and_true] at e
    subst e
    exact notIn3_any x W)
set_option maxRecDepth 100000 in
theorem notMay_any (v : Value) (p : List ByteArray) (w : World) (hv : rdStrs w w.heap.size [v] p) : Calls Tryz.prog 83 #[v] w (Gives (.bool (!mayB p)) w) := by
  have HI := hid (mayN_any v p w (strs_sl hv).1 (strs_sl hv).2 (strs_len hv))
  clear hv
  go_enter Tryz.func83, Tryz.ntmps83
  go_wp2_with fail
  refine HI.out.mono ?_
  rintro e w1 ⟨rfl, hb⟩
  go_wp2
  go_ret
  exact ⟨rfl, hb⟩
theorem enters_notMay : Enters 83 := enters_of Tryz.func83 (by kernel_rfl) rfl
theorem hasBad_any (v : Value) (l : List (List ByteArray)) (w : World) (hv : rdSlice 1 rdStrs w w.heap.size [v] l) :
    Calls Tryz.prog 54 #[v, .func (Fn.func 83) #[] #[]] w (Gives (.bool (l.any fun p => !mayB p)) w) :=
  hasP_any 83 #[] (fun p => !mayB p) v l w hv good_paths enters_notMay (fun x u W hx hr hb => notMay_any u x W hr)
theorem filters_at {w : World} {B : Nat} {A : Option Addr} {n c : Nat} {l : List FilterX} (h : rdSlice 3 rdFilter w B [.slice A n c] l) {k : Nat} (hk : k < l.length) :
    ∃ b off AM cM, A = some ⟨b, off, none⟩ ∧ b < B ∧ w.cell? ⟨b, off + k * 3, none⟩ = some (.int .i64 l[k].1) ∧ w.cell? ⟨b, off + k * 3 + 1, none⟩ = some (.int .i64 l[k].2.1) ∧ w.cell? ⟨b, off + k * 3 + 2, none⟩ = some (.slice AM l[k].2.2.length cM) ∧
      InI64 l[k].1 ∧ InI64 l[k].2.1 ∧ rdSlice 1 rdStrs w B [.slice AM l[k].2.2.length cM] l[k].2.2 := by
  obtain ⟨b, off, rfl, hb, es, hel, hcell, h1, ⟨e1, i1⟩, h2, ⟨e2, i2⟩, h3⟩ := h.at_ hk
  obtain ⟨AM, cM, e3, -, -⟩ := h3.open_
  obtain rfl : es = [.int .i64 l[k].1, .int .i64 l[k].2.1, .slice AM l[k].2.2.length cM] := by
    rw [← List.take_append_drop 1 es, e1, ← List.take_append_drop 1 (es.drop 1), e2, e3]; rfl
  exact ⟨b, off, AM, cM, rfl, hb, hcell 0 _ rfl, hcell 1 _ rfl, hcell 2 _ rfl, i1, i2, h3⟩
def PlRel (q : QueryX) (W0 : World) (i : Value) (wr : World) : Prop := ∃ k : Nat, k ≤ q.2.length ∧ i = .int .i64 k ∧ (∀ j (h : j < q.2.length), j < k → plainF q.2[j] = true) ∧ Below W0.heap.size W0 wr
set_option maxRecDepth 100000 in
set_option maxHeartbeats 1600000 in
theorem plain_any (v : Value) (q : QueryX) (w : World) (hv : QueryV w w.heap.size v q) :
    Calls Tryz.prog 52 #[v] w (Gives (.bool (plainQ q)) w) := by
  obtain ⟨A1, c1, A2, c2, rfl, h1, h2⟩ := hv
  obtain ⟨hc1, hm1⟩ := h1.cap
  obtain ⟨hc2, hm2⟩ := h2.cap
  obtain ⟨W0, hW0⟩ : ∃ W, W = w.alloc (.cells #[.slice A1 q.1.length c1, .slice A2 q.2.length c2] 30) := ⟨_, rfl⟩
  have g0 : Below w.heap.size w W0 := by rw [hW0]; exact bl1 _ _
  have z0 : W0.heap.size = w.heap.size + 1 := by rw [hW0]; simp
  have y0 : W0.cell? ⟨w.heap.size, 0, none⟩ = some (.slice A1 q.1.length c1) := by rw [hW0]; simp [go_sem]
  have y1 : W0.cell? ⟨w.heap.size, 1, none⟩ = some (.slice A2 q.2.length c2) := by rw [hW0]; simp [go_sem]
  have HW0 := hid hW0
  have G0 := hid g0; have Y0 := hid y0; have Y1 := hid y1
  have HHO := hid (hasOut_any _ q.1 W0 (good_ints.on h1 g0))
  have H2 := hid (good_filters.on h2 g0)
  have hpl : plainQ q = ((decide (q.1.length ≤ 3) && decide (q.2.length ≤ 3) && !(q.1.any fun n => !inQ n 3)) && q.2.all plainF) := rfl
  generalize (q.1.any fun n => !inQ n 3) = bo at *
  have HPL := hid hpl
  clear hW0 g0 y0 y1 h1 h2 hpl
  have hw : (¬ q.1.length ≤ 3) ∨ (q.1.length ≤ 3 ∧ ¬ q.2.length ≤ 3) ∨ (q.1.length ≤ 3 ∧ q.2.length ≤ 3) := by omega
  go_enter Tryz.func52, Tryz.ntmps52
  rcases hw with h | ⟨h, h'⟩ | ⟨h, h'⟩
  · have d1 : decide ((3 : Int) < (q.1.length : Int)) = true := by rw [decide_eq_true_eq]; omega
    have hn : plainQ q = false := by rw [HPL.out, decide_eq_false h]; rfl
    have HN := hid hn; clear hn
    go_wp2
    rw [← HW0.out]
    go_ret
    exact ⟨by rw [HN.out]; rfl, G0.out⟩
  · have d1 : decide ((3 : Int) < (q.1.length : Int)) = false := by rw [decide_eq_false_iff_not]; omega
    have d2 : decide ((3 : Int) < (q.2.length : Int)) = true := by rw [decide_eq_true_eq]; omega
    have hn : plainQ q = false := by rw [HPL.out, decide_eq_false h']; simp
    have HN := hid hn; clear hn
    go_wp2
    rw [← HW0.out]
    go_ret
    exact ⟨by rw [HN.out]; rfl, G0.out⟩
  · have d1 : decide ((3 : Int) < (q.1.length : Int)) = false := by rw [decide_eq_false_iff_not]; omega
    have d2 : decide ((3 : Int) < (q.2.length : Int)) = false := by rw [decide_eq_false_iff_not]; omega
    have hn : plainQ q = (!bo && q.2.all plainF) := by rw [HPL.out, decide_eq_true h, decide_eq_true h']; simp
    have HN := hid hn; clear hn HPL
    go_wp2_with fail
    rw [← HW0.out]
    refine HHO.out.mono ?_
    rintro e w1 ⟨rfl, hb1⟩
    have HB1 := hid hb1; clear hb1
    cases bo
    · have hn : plainQ q = q.2.all plainF := by rw [HN.out]; simp
      have HN' := hid hn; clear hn HN
      have k1 := cellK HB1.out (by omega) Y1.out
      go_wp2
      go_loopw [23] (fun i wr => PlRel q W0 i wr) (fun i _ => q.2.length - (intOf i).toNat)
      case atStart => exact ⟨0, by omega, rfl, fun j h h' => by omega, HB1.out⟩
      case round =>
        obtain ⟨k, hk, rfl, hall, hb⟩ := hrel
        have hs := hb.size
        have HB := hid hb; have HALL := hid hall
        clear hb hall
        by_cases hlt : k < q.2.length
        · obtain ⟨b, off, AM, cM, rfl, hbl, q0, q1, q2, i1, i2, hms⟩ := filters_at (good_filters.stays H2.out HB.out) hlt
          have hno := fun h => all_no (p := plainF) hlt h
          have hyes : plainF q.2[k] = true → ∀ j (h : j < q.2.length), j < k + 1 → plainF q.2[j] = true := fun h j hj hjk => by
            by_cases e : j = k
            · subst e; exact h
            · exact HALL.out j hj (by omega)
          have hpf : plainF q.2[k] = ((inQ q.2[k].1 2 && inQ q.2[k].2.1 3 && decide (q.2[k].2.2.length ≤ 6)) && !(q.2[k].2.2.any fun p => !mayB p)) := rfl
          rw [hpf] at hno hyes
          clear hpf
          generalize q.2[k] = f at *
          obtain ⟨d, lv, ms⟩ := f
          simp only at hno hyes q0 q1 q2 hms
          have HID := hid (fun W => in_any d 2 W); have HIL := hid (fun W => in_any lv 3 W)
          have HMS := hid (fun W (hb : Below wr.heap.size wr W) => hasBad_any _ ms W (good_paths.on (good_paths.more hms (by omega)) hb))
          obtain ⟨hcM, hmM⟩ := hms.cap
          generalize inQ d 2 = b1 at *
          generalize inQ lv 3 = b2 at *
          generalize (ms.any fun p => !mayB p) = b3 at *
          have HNO := hid hno; have HYES := hid hyes
          clear hno hyes hms i1 i2
          obtain ⟨Wf, hWf⟩ : ∃ W, W = wr.alloc (.cells #[.int .i64 d, .int .i64 lv, .slice AM ms.length cM] 83) := ⟨_, rfl⟩
          have gf : Below wr.heap.size wr Wf := by rw [hWf]; exact bl1 _ _
          have zf : Wf.heap.size = wr.heap.size + 1 := by rw [hWf]; simp
          have f0 : Wf.cell? ⟨wr.heap.size, 0, none⟩ = some (.int .i64 d) := by rw [hWf]; simp [go_sem]
          have f1 : Wf.cell? ⟨wr.heap.size, 1, none⟩ = some (.int .i64 lv) := by rw [hWf]; simp [go_sem]
          have f2 : Wf.cell? ⟨wr.heap.size, 2, none⟩ = some (.slice AM ms.length cM) := by rw [hWf]; simp [go_sem]
          have HWf := hid hWf; have GF := hid gf; have F1 := hid f1; have F2 := hid f2
          have GW := hid (HB.out.trans (gf.mono hs))
          clear hWf gf f0 f1 f2
          go_wp2_with fail
          rw [← HWf.out]
          refine (HID.out _).mono ?_
          rintro e w2 ⟨rfl, hq2⟩
          have B2 := hid (hq2.below Wf.heap.size)
          have m1 := cellK B2.out (by omega) F1.out
          clear hq2
          cases b1
          · have HN := hid (HNO.out rfl)
            go_wp2
            go_ret
            exact ⟨by rw [HN'.out, HN.out]; rfl, G0.out.trans ((GW.out.trans (B2.out.mono (by omega))).mono (by omega))⟩
          · go_wp2_with fail
            refine (HIL.out _).mono ?_
            rintro e w3 ⟨rfl, hq3⟩
            have B3 := hid (B2.out.trans (hq3.below Wf.heap.size))
            have m2 := cellK B3.out (by omega) F2.out
            clear hq3
            cases b2
            · have HN := hid (HNO.out rfl)
              go_wp2
              go_ret
              exact ⟨by rw [HN'.out, HN.out]; rfl, G0.out.trans ((GW.out.trans (B3.out.mono (by omega))).mono (by omega))⟩
            · by_cases h6 : ms.length ≤ 6
              · have d6 : decide ((6 : Int) < (ms.length : Int)) = false := by rw [decide_eq_false_iff_not]; omega
                have hx : (true && true && decide (ms.length ≤ 6) && !b3) = !b3 := by rw [decide_eq_true h6]; simp
                have hno := HNO.out; have hyes := HYES.out
                rw [hx] at hno hyes
                have HNO' := hid hno; have HYES' := hid hyes
                clear hno hyes hx
                go_wp2_with fail
                refine (HMS.out _ (GF.out.trans (B3.out.mono (by omega)))).mono ?_
                rintro e w4 ⟨rfl, hb4⟩
                have z3 := B3.out.size
                have B4 := hid (B3.out.trans (hb4.mono z3))
                clear hb4
                cases b3
                · go_wp2
                  go_roundw
                  case rel => exact ⟨k + 1, by omega, by go_num, HYES'.out (by first | rfl | trivial), GW.out.trans (B4.out.mono (by omega))⟩
                  case measure => simp [intOf]; omega
                · have HN := hid (HNO'.out rfl)
                  go_wp2
                  go_ret
                  exact ⟨by rw [HN'.out, HN.out]; rfl, G0.out.trans ((GW.out.trans (B4.out.mono (by omega))).mono (by omega))⟩
              · have d6 : decide ((6 : Int) < (ms.length : Int)) = true := by rw [decide_eq_true_eq]; omega
                have HN := hid (HNO.out (by rw [decide_eq_false h6]; simp))
                go_wp2
                go_ret
                exact ⟨by rw [HN'.out, HN.out]; rfl, G0.out.trans ((GW.out.trans (B3.out.mono (by omega))).mono (by omega))⟩
        · have hall := all_yes (p := plainF) (l := q.2) (fun j hj => HALL.out j hj (by omega))
          have HALL' := hid hall; clear hall
          go_wp2
          go_ret
          exact ⟨by rw [HN'.out, HALL'.out]; rfl, G0.out.trans (HB.out.mono (by omega))⟩
    · go_wp2
      go_ret
      exact ⟨by rw [HN.out]; rfl, G0.out.trans (HB1.out.mono (by omega))⟩
end Go.Proofs.YtgoapnkdcfcjgaaGreat
/- query.May. -/
namespace Go.Proofs.YtgoapnkdcfcjgaaGreat
open Go.ChangeShapes Go.WideShapes Go.ChangeAt Go.RowKit
set_option linter.unusedVariables false
set_option linter.unusedSimpArgs false

set_option maxRecDepth 100000 in
theorem lenNot_any (v : Value) (p : List ByteArray) (lv : Int) (b : Nat) (w : World) (hc : w.cell? ⟨b, 1, none⟩ = some (.int .i64 lv)) (hv : rdStrs w w.heap.size [v] p) :
    Calls Tryz.prog 55 #[v, .pointer (some ⟨b, 0, none⟩)] w (Gives (.bool (decide ((p.length : Int) ≠ lv))) w) := by
  obtain ⟨A1, c1, e, hc1, hm1⟩ := hv.open_
  simp only [List.cons.injEq, and_true] at e
  subst e
  have hr : ((p.length : Int) != lv) = decide ((p.length : Int) ≠ lv) := by rw [Bool.eq_iff_iff]; simp
  generalize decide ((p.length : Int) ≠ lv) = r at *
  clear hv
  go_enter Tryz.func55, Tryz.ntmps55
  go_wp2
  go_ret
  exact ⟨by first | rfl | (rw [← hr]; rfl), Below.refl _ _⟩
theorem enters_lenNot : Enters 55 := enters_of Tryz.func55 (by kernel_rfl) rfl
theorem okF_ways (s : SchemaX) (f : FilterX) (d : Nat) (hd : f.1 = (d : Int)) (n : Nat) (hn : ∀ h : d < s.1.length, s.1[d].2.length = n) :
    (s.1.length ≤ d ∧ okF s f = false) ∨ (d < s.1.length ∧ f.2.1 < 1 ∧ okF s f = false) ∨ (d < s.1.length ∧ 1 ≤ f.2.1 ∧ (n : Int) < f.2.1 ∧ okF s f = false) ∨ (d < s.1.length ∧ 1 ≤ f.2.1 ∧ f.2.1 ≤ (n : Int) ∧ f.2.2.length = 0 ∧ okF s f = false) ∨
    (d < s.1.length ∧ 1 ≤ f.2.1 ∧ f.2.1 ≤ (n : Int) ∧ 0 < f.2.2.length ∧ okF s f = !(f.2.2.any fun p => decide ((p.length : Int) ≠ f.2.1))) := by
  obtain ⟨fd, lv, ms⟩ := f
  simp only at hd ⊢
  subst hd
  unfold okF
  by_cases h1 : d < s.1.length
  · have hgd : levelsAt s (d : Int) = (n : Int) := by unfold levelsAt; rw [Int.toNat_natCast, List.getD_eq_getElem?_getD, List.getElem?_eq_getElem h1]; exact congrArg Nat.cast (hn h1)
    simp only [hgd]
    have e1 : decide ((d : Int) < (s.1.length : Int)) = true := by rw [decide_eq_true_eq]; omega
    rw [e1]
    by_cases h2 : 1 ≤ lv
    · by_cases h3 : lv ≤ (n : Int)
      · by_cases h4 : ms.length = 0
        · refine .inr (.inr (.inr (.inl ⟨h1, h2, h3, h4, ?_⟩)))
          rw [List.length_eq_zero_iff] at h4
          simp [h4]
        · refine .inr (.inr (.inr (.inr ⟨h1, h2, h3, by omega, ?_⟩)))
          have : ms ≠ [] := fun e => h4 (by rw [e]; rfl)
          simp [h2, h3, this]
      · exact .inr (.inr (.inl ⟨h1, h2, by omega, by simp [h3]⟩))
    · exact .inr (.inl ⟨h1, by omega, by simp [h2]⟩)
  · refine .inl ⟨by omega, ?_⟩
    have e1 : decide ((d : Int) < (s.1.length : Int)) = false := by rw [decide_eq_false_iff_not]; omega
    rw [e1]; rfl
def MqRel (s : SchemaX) (q : QueryX) (W0 : World) (i : Value) (wr : World) : Prop := ∃ k : Nat, k ≤ q.2.length ∧ i = .int .i64 k ∧ (∀ j (h : j < q.2.length), j < k → okF s q.2[j] = true) ∧ Below W0.heap.size W0 wr
theorem plain_dim {q : QueryX} (h : plainQ q = true) {k : Nat} (hk : k < q.2.length) : 0 ≤ q.2[k].1 ∧ q.2[k].1 ≤ 2 := by
  unfold plainQ at h
  rw [Bool.and_eq_true] at h
  have := List.all_eq_true.1 h.2 _ (List.getElem_mem hk)
  unfold plainF at this
  rw [Bool.and_eq_true, Bool.and_eq_true, Bool.and_eq_true] at this
  have := this.1.1.1
  unfold inQ at this
  simpa using this
set_option maxRecDepth 100000 in
set_option maxHeartbeats 1600000 in
theorem mayQ_any (v x : Value) (s : SchemaX) (q : QueryX) (w : World) (hv : SchemaV w w.heap.size v s) (hx : QueryV w w.heap.size x q) (hl : s.1.length ≤ 1000) :
    Calls Tryz.prog 33 #[v, x] w (Gives (.int .i64 (mayQ s q)) w) := by
  have hv0 := hv; have hx0 := hx
  obtain ⟨A1, c1, A2, c2, A3, c3, rfl, h1, h2, h3⟩ := hv
  obtain ⟨X1, d1, X2, d2, rfl, g1, g2⟩ := hx
  obtain ⟨hc1, hm1⟩ := h1.cap
  obtain ⟨hd2, hn2⟩ := g2.cap
  obtain ⟨W0, hW0⟩ : ∃ W, W = (w.alloc (.cells #[.slice A1 s.1.length c1, .slice A2 s.2.1.length c2, .slice A3 s.2.2.length c3] 26)).alloc (.cells #[.slice X1 q.1.length d1, .slice X2 q.2.length d2] 30) := ⟨_, rfl⟩
  have g0 : Below w.heap.size w W0 := by rw [hW0]; exact (bl1 w _).alloc (by simp) _
  have z0 : W0.heap.size = w.heap.size + 1 + 1 := by rw [hW0]; simp
  have y0 : W0.cell? ⟨w.heap.size, 0, none⟩ = some (.slice A1 s.1.length c1) := by rw [hW0]; simp [go_sem]
  have y1 : W0.cell? ⟨w.heap.size, 1, none⟩ = some (.slice A2 s.2.1.length c2) := by rw [hW0]; simp [go_sem]
  have y2 : W0.cell? ⟨w.heap.size, 2, none⟩ = some (.slice A3 s.2.2.length c3) := by rw [hW0]; simp [go_sem]
  have y3 : W0.cell? ⟨w.heap.size + 1, 0, none⟩ = some (.slice X1 q.1.length d1) := by rw [hW0]; simp [go_sem]
  have y4 : W0.cell? ⟨w.heap.size + 1, 1, none⟩ = some (.slice X2 q.2.length d2) := by rw [hW0]; simp [go_sem]
  have HW0 := hid hW0
  have G0 := hid g0; have Y0 := hid y0; have Y1 := hid y1; have Y2 := hid y2; have Y3 := hid y3; have Y4 := hid y4
  have HSM := hid (schemaMay_any _ s W0 (hv0.on g0) hl)
  have HPL := hid (fun W (hb : Below W0.heap.size W0 W) => plain_any _ q W ((hx0.on g0).on hb))
  have HCN := hid (fun W (hb : Below W0.heap.size W0 W) => corner_any _ _ s q.1 W ((hv0.on g0).on hb) hl (good_ints.on (good_ints.on g1 g0) hb))
  have H1 := hid (good_dims.on h1 g0)
  have HQ2 := hid (good_filters.on g2 g0)
  have hmq : mayQ s q = if !mayS s then 11 else if !(plainQ q && cornerB s q.1) then 16 else if q.2.all (okF s) then 0 else 16 := rfl
  have hpd : plainQ q = true → ∀ k (h : k < q.2.length), 0 ≤ q.2[k].1 ∧ q.2[k].1 ≤ 2 := fun h k hk => plain_dim h hk
  generalize mayS s = bS at *
  generalize plainQ q = bP at *
  generalize cornerB s q.1 = bC at *
  generalize mayQ s q = res at *
  have HRES := hid hmq; have HPD := hid hpd
  clear hW0 g0 y0 y1 y2 y3 y4 h1 h2 h3 g1 g2 hv0 hx0 hmq hpd
  go_enter Tryz.func33, Tryz.ntmps33
  go_wp2_with fail
  rw [← HW0.out]
  refine HSM.out.mono ?_
  rintro e w1 ⟨rfl, hb1⟩
  have HB1 := hid hb1; clear hb1
  have k3 := cellK HB1.out (by omega) Y3.out
  have k4 := cellK HB1.out (by omega) Y4.out
  cases bS
  · go_wp2
    go_ret
    exact ⟨by rw [HRES.out]; rfl, G0.out.trans (HB1.out.mono (by omega))⟩
  · go_wp2_with fail
    refine (HPL.out _ HB1.out).mono ?_
    rintro e w2 ⟨rfl, hb2⟩
    have HB2 := hid (HB1.out.trans (hb2.mono HB1.out.size)); clear hb2 k3 k4
    have k0 := cellK HB2.out (by omega) Y0.out
    have k1 := cellK HB2.out (by omega) Y1.out
    have k2 := cellK HB2.out (by omega) Y2.out
    have k3 := cellK HB2.out (by omega) Y3.out
    cases bP
    · go_wp2
      go_ret
      exact ⟨by rw [HRES.out]; rfl, G0.out.trans (HB2.out.mono (by omega))⟩
    · go_wp2_with fail
      refine (HCN.out _ HB2.out).mono ?_
      rintro e w3 ⟨rfl, hb3⟩
      have HB3 := hid (HB2.out.trans (hb3.mono HB2.out.size)); clear hb3 k0 k1 k2 k3
      have k4 := cellK HB3.out (by omega) Y4.out
      cases bC
      · go_wp2
        go_ret
        exact ⟨by rw [HRES.out]; rfl, G0.out.trans (HB3.out.mono (by omega))⟩
      · have hres : res = if q.2.all (okF s) then 0 else 16 := HRES.out
        have HR := hid hres; clear hres HRES
        go_wp2
        go_loopw [23] (fun i wr => MqRel s q W0 i wr) (fun i _ => q.2.length - (intOf i).toNat)
        case atStart => exact ⟨0, by omega, rfl, fun j h h' => by omega, HB3.out⟩
        case round =>
          obtain ⟨k, hk, rfl, hall, hb⟩ := hrel
          have hs := hb.size
          have HB := hid hb; have HALL := hid hall
          clear hb hall
          by_cases hlt : k < q.2.length
          · obtain ⟨b, off, AM, cM, rfl, hbl, q0, q1, q2, i1, i2, hms⟩ := filters_at (good_filters.stays HQ2.out HB.out) hlt
            have hno := fun h => all_no (p := okF s) hlt h
            have hyes : okF s q.2[k] = true → ∀ j (h : j < q.2.length), j < k + 1 → okF s q.2[j] = true := fun h j hj hjk => by
              by_cases e : j = k
              · subst e; exact h
              · exact HALL.out j hj (by omega)
            have hdim := HPD.out (by first | rfl | trivial) k hlt
            generalize q.2[k] = f at *
            obtain ⟨d, hd⟩ : ∃ d : Nat, f.1 = (d : Int) := ⟨f.1.toNat, by omega⟩
            obtain ⟨n, hn⟩ : ∃ n : Nat, ∀ h : d < s.1.length, s.1[d].2.length = n := by
              by_cases h : d < s.1.length
              · exact ⟨s.1[d].2.length, fun _ => rfl⟩
              · exact ⟨0, fun h' => absurd h' h⟩
            have hways := okF_ways s f d hd n hn
            obtain ⟨fd, lv, ms⟩ := f
            simp only at hd hways q0 q1 q2 hms i1 i2
            subst hd
            have hdims : d < s.1.length → ∃ b2 o2 AL cL, A1 = some ⟨b2, o2, none⟩ ∧ b2 < wr.heap.size ∧ wr.cell? ⟨b2, o2 + d * 2 + 1, none⟩ = some (.slice AL n cL) ∧ n ≤ cL := fun h => by
              obtain ⟨b2, o2, rfl, hbl, es, hel, hcell, hr⟩ := (good_dims.stays H1.out HB.out).at_ h
              obtain ⟨hl1, ⟨ex, -⟩, hlv⟩ := hr
              obtain ⟨AL, cL, eL, hL1, hL2⟩ := hlv.open_
              obtain rfl : es = [.string s.1[d].1, .slice AL s.1[d].2.length cL] := by
                rw [← List.take_append_drop 1 es, ex, eL]; rfl
              rw [hn h] at hcell hL1
              exact ⟨b2, o2, AL, cL, rfl, by omega, hcell 1 _ rfl, hL1⟩
            obtain ⟨hcM, hmM⟩ := hms.cap
            generalize ms.length = nm at *
            have HMS := hid hms
            generalize okF s ((d : Int), lv, ms) = okb at *
            have HNO := hid hno; have HYES := hid hyes; have HDM := hid hdims
            clear hno hyes hms hn hdims
            obtain ⟨Wf, hWf⟩ : ∃ W, W = wr.alloc (.cells #[.int .i64 (d : Int), .int .i64 lv, .slice AM nm cM] 83) := ⟨_, rfl⟩
            have gf : Below wr.heap.size wr Wf := by rw [hWf]; exact bl1 _ _
            have zf : Wf.heap.size = wr.heap.size + 1 := by rw [hWf]; simp
            have f0 : Wf.cell? ⟨wr.heap.size, 0, none⟩ = some (.int .i64 (d : Int)) := by rw [hWf]; simp [go_sem]
            have f1 : Wf.cell? ⟨wr.heap.size, 1, none⟩ = some (.int .i64 lv) := by rw [hWf]; simp [go_sem]
            have f2 : Wf.cell? ⟨wr.heap.size, 2, none⟩ = some (.slice AM nm cM) := by rw [hWf]; simp [go_sem]
            have HWf := hid hWf; have GF := hid gf; have F1 := hid f1; have F2 := hid f2
            have l0 := cellK (HB.out.trans (gf.mono hs)) (by omega) Y0.out
            have GW := hid (HB.out.trans (gf.mono hs))
            clear hWf gf
            rcases hways with ⟨c1', rfl⟩ | ⟨c1', c2', rfl⟩ | ⟨c1', c2', c3', rfl⟩ | ⟨c1', c2', c3', c4', rfl⟩ | ⟨c1', c2', c3', c4', hok⟩
            · have t1 : decide (s.1.length ≤ d) = true := by rw [decide_eq_true_eq]; omega
              go_wp2
              rw [← HWf.out]
              go_quiet (fail)
              go_wp2
              go_ret
              exact ⟨by rw [HR.out, HNO.out (by first | rfl | trivial)]; rfl, G0.out.trans ((below_drewN GW.out _).mono (by omega))⟩
            · have t1 : decide (s.1.length ≤ d) = false := by rw [decide_eq_false_iff_not]; omega
              have t2 : decide (lv < 1) = true := by rw [decide_eq_true_eq]; omega
              clear c2' c1'
              go_wp2
              rw [← HWf.out]
              go_quiet (fail)
              go_wp2
              go_ret
              exact ⟨by rw [HR.out, HNO.out (by first | rfl | trivial)]; rfl, G0.out.trans ((below_drewN GW.out _).mono (by omega))⟩
            · obtain ⟨b2, o2, AL, cL, rfl, hb2, hlc, hnc⟩ := HDM.out c1'
              have hlc' := cellK GF.out hb2 hlc
              have t1 : decide (s.1.length ≤ d) = false := by rw [decide_eq_false_iff_not]; omega
              have t2 : decide (lv < 1) = false := by rw [decide_eq_false_iff_not]; omega
              have t3 : decide ((n : Int) < lv) = true := by rw [decide_eq_true_eq]; omega
              clear c2' c3'
              have t5 : decide ((d : Int) < (s.1.length : Int)) = true := by rw [decide_eq_true_eq]; omega
              clear hlc
              go_wp2
              rw [← HWf.out]
              go_quiet (fail)
              go_wp2
              go_ret
              exact ⟨by rw [HR.out, HNO.out (by first | rfl | trivial)]; rfl, G0.out.trans ((below_drewN GW.out _).mono (by omega))⟩
            · obtain ⟨b2, o2, AL, cL, rfl, hb2, hlc, hnc⟩ := HDM.out c1'
              have hlc' := cellK GF.out hb2 hlc
              have t1 : decide (s.1.length ≤ d) = false := by rw [decide_eq_false_iff_not]; omega
              have t2 : decide (lv < 1) = false := by rw [decide_eq_false_iff_not]; omega
              have t3 : decide ((n : Int) < lv) = false := by rw [decide_eq_false_iff_not]; omega
              have t5 : decide ((d : Int) < (s.1.length : Int)) = true := by rw [decide_eq_true_eq]; omega
              have t4 : ((nm : Int) == 0) = true := by rw [beq_iff_eq]; omega
              clear c2' c3' c4'
              clear hlc
              go_wp2
              rw [← HWf.out]
              go_quiet (fail)
              go_wp2
              go_ret
              exact ⟨by rw [HR.out, HNO.out (by first | rfl | trivial)]; rfl, G0.out.trans ((below_drewN GW.out _).mono (by omega))⟩
            · obtain ⟨b2, o2, AL, cL, rfl, hb2, hlc, hnc⟩ := HDM.out c1'
              have hlc' := cellK GF.out hb2 hlc
              have t1 : decide (s.1.length ≤ d) = false := by rw [decide_eq_false_iff_not]; omega
              have t2 : decide (lv < 1) = false := by rw [decide_eq_false_iff_not]; omega
              have t3 : decide ((n : Int) < lv) = false := by rw [decide_eq_false_iff_not]; omega
              have t5 : decide ((d : Int) < (s.1.length : Int)) = true := by rw [decide_eq_true_eq]; omega
              have t4 : ((nm : Int) == 0) = false := by rw [beq_eq_false_iff_ne]; omega
              clear c2' c3' c4'
              have HAS := hid (fun (W : World) (hb : Below Wf.heap.size Wf W) => hasP_any 55 #[.pointer (some ⟨wr.heap.size, 0, none⟩)] (fun p => decide ((p.length : Int) ≠ lv)) (.slice AM nm cM) ms W (good_paths.on (good_paths.on (good_paths.more HMS.out hs) GF.out) hb) good_paths enters_lenNot (fun x u W' hx hr' hb' =>
                lenNot_any u x lv wr.heap.size W' (cellK (hb.trans (hb'.mono hb.size)) (by omega) F1.out) hr'))
              generalize (ms.any fun p => decide ((p.length : Int) ≠ lv)) = bz at *
              subst hok
              clear hlc
              go_wp2
              rw [← HWf.out]
              go_quiet (fail)
              go_wp2_with fail
              refine (HAS.out _ (below_drewN (Below.refl _ _) _)).mono ?_
              rintro e w4 ⟨rfl, hb4⟩
              have B4 := hid ((below_drewN (Below.refl Wf.heap.size Wf) nq).trans (hb4.mono (le_drewN (Nat.le_refl _))))
              clear hb4
              cases bz
              · go_wp2
                go_roundw
                case rel => exact ⟨k + 1, by omega, by go_num, HYES.out (by first | rfl | trivial), GW.out.trans (B4.out.mono (by omega))⟩
                case measure => simp [intOf]; omega
              · go_wp2
                go_ret
                exact ⟨by rw [HR.out, HNO.out (by first | rfl | trivial)]; rfl, G0.out.trans ((GW.out.trans (B4.out.mono (by omega))).mono (by omega))⟩
          · have hall := all_yes (p := okF s) (l := q.2) (fun j hj => HALL.out j hj (by omega))
            have HALL' := hid hall; clear hall
            go_wp2
            go_ret
            exact ⟨by rw [HR.out, HALL'.out]; rfl, G0.out.trans (HB.out.mono (by omega))⟩
end Go.Proofs.YtgoapnkdcfcjgaaGreat
