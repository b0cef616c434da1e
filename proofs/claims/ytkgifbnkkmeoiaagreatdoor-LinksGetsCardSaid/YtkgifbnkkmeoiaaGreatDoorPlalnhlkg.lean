/- 2 texts of this claim, in build order. -/
import Derived.Test.YtkgifbnkkmeoiaaGreatDoorPjkhkmabk
import Derived.Test.YtkgifbnkkmeoiaaGreatDoorPiacfbhok
import Derived.Test.YtkgifbnkkmeoiaaGreatDoorPinglbimp
/- slices.IndexFunc and slices.ContainsFunc with any function value. Printed by wip/idx.py. -/
namespace Go.Proofs.YtkgifbnkkmeoiaaGreatDoor
open Go.ChangeShapes Go.WideShapes Go.ChangeAt Go.RowKit
set_option linter.unusedVariables false
set_option linter.unusedSimpArgs false

set_option maxRecDepth 100000 in
set_option maxHeartbeats 800000 in
theorem idxI_any (F : FuncId) (caps : Array Value) (p : Int → Bool) (v : Value) (l : List Int) (w : World) (hv : rdSlice 1 rdInt w w.heap.size [v] l) (hg : Good (rdSlice 1 rdInt)) (hE : Enters F) (hF : Tells rdInt F caps p l w) :
    Calls Tryz.prog 125 #[v, .func (Fn.func F) #[] caps] w (IdxG p l w) := by
  obtain ⟨A, c, e0, hc1, hc2, -⟩ := id hv
  obtain rfl : v = .slice A l.length c := by simpa using e0
  unfold maxLen at hc2
  have HV := hid hv; have HF := hid hF
  clear hv hF e0
  go_enter Tryz.func125, Tryz.ntmps125
  go_wp2
  go_loopw [8] (fun i wr => IdxRelG p l w i wr) (fun i _ => l.length - (intOf i).toNat)
  case atStart => exact ⟨0, by omega, rfl, by simp, Below.refl _ _⟩
  case round =>
    obtain ⟨k, hk, rfl, hall, hb⟩ := hrel
    have HALL := hid hall; have HB := hid hb
    have hs := hb.size
    clear hall hb
    by_cases hlt : k < l.length
    · obtain ⟨b, off, rfl, hbl, es, hel, hcell, hr⟩ := (hg.stays HV.out HB.out).at_ hlt
      obtain ⟨u, rfl⟩ := List.length_eq_one_iff.1 hel
      have hcell := hcell 0 u rfl
      rw [Nat.mul_one, Nat.add_zero] at hcell
      have hin : l[k] ∈ l := List.getElem_mem hlt
      have e1 := any_take_succ (p := p) hlt
      have e2 := any_of_at (p := p) hlt
      have hr := (good_int).more hr hs
      generalize l[k] = x at *
      have HC := hid (HF.out x u wr hin hr HB.out)
      have E1 := hid e1; have E2 := hid e2
      clear e1 e2 hr hel hin
      go_wp2_with fail
      rw [hE]
      refine HC.out.mono ?_
      rintro e w1 ⟨rfl, hb1⟩
      have HB1 := hid (HB.out.trans (hb1.mono hs)); clear hb1
      cases hp : p x with
      | false =>
        have HP := hid hp; clear hp
        go_wp2
        go_roundw
        case rel => exact ⟨k + 1, by omega, by go_num, by rw [E1.out, HALL.out, HP.out]; rfl, HB1.out⟩
        case measure => simp [intOf]; omega
      | true =>
        have HP := hid (E2.out hp); clear hp
        go_wp2
        go_ret
        exact ⟨(k : Int), rfl, by rw [HP.out]; simp, HB1.out⟩
    · have hall : l.any p = false := by
        have := HALL.out
        rwa [List.take_of_length_le (by omega)] at this
      have HP := hid hall; clear hall
      go_wp2
      go_ret
      exact ⟨-1, rfl, by rw [HP.out]; decide, HB.out⟩
theorem hasI_any (F : FuncId) (caps : Array Value) (p : Int → Bool) (v : Value) (l : List Int) (w : World) (hv : rdSlice 1 rdInt w w.heap.size [v] l) (hg : Good (rdSlice 1 rdInt)) (hE : Enters F) (hF : Tells rdInt F caps p l w) :
    Calls Tryz.prog 107 #[v, .func (Fn.func F) #[] caps] w (Gives (.bool (l.any p)) w) := by
  have HI := hid (idxI_any F caps p v l w hv hg hE hF)
  clear hv hF
  go_enter Tryz.func107, Tryz.ntmps107
  go_wp2_with fail
  refine HI.out.mono ?_
  rintro e w1 ⟨i, rfl, hi, hb⟩
  go_wp2
  go_ret
  exact ⟨rfl, hb⟩

set_option maxRecDepth 100000 in
set_option maxHeartbeats 800000 in
theorem idxS_any (F : FuncId) (caps : Array Value) (p : ByteArray → Bool) (v : Value) (l : List ByteArray) (w : World) (hv : rdSlice 1 rdStr w w.heap.size [v] l) (hg : Good (rdSlice 1 rdStr)) (hE : Enters F) (hF : Tells rdStr F caps p l w) :
    Calls Tryz.prog 133 #[v, .func (Fn.func F) #[] caps] w (IdxG p l w) := by
  obtain ⟨A, c, e0, hc1, hc2, -⟩ := id hv
  obtain rfl : v = .slice A l.length c := by simpa using e0
  unfold maxLen at hc2
  have HV := hid hv; have HF := hid hF
  clear hv hF e0
  go_enter Tryz.func133, Tryz.ntmps133
  go_wp2
  go_loopw [8] (fun i wr => IdxRelG p l w i wr) (fun i _ => l.length - (intOf i).toNat)
  case atStart => exact ⟨0, by omega, rfl, by simp, Below.refl _ _⟩
  case round =>
    obtain ⟨k, hk, rfl, hall, hb⟩ := hrel
    have HALL := hid hall; have HB := hid hb
    have hs := hb.size
    clear hall hb
    by_cases hlt : k < l.length
    · obtain ⟨b, off, rfl, hbl, es, hel, hcell, hr⟩ := (hg.stays HV.out HB.out).at_ hlt
      obtain ⟨u, rfl⟩ := List.length_eq_one_iff.1 hel
      have hcell := hcell 0 u rfl
      rw [Nat.mul_one, Nat.add_zero] at hcell
      have hin : l[k] ∈ l := List.getElem_mem hlt
      have e1 := any_take_succ (p := p) hlt
      have e2 := any_of_at (p := p) hlt
      have hr := (good_str).more hr hs
      generalize l[k] = x at *
      have HC := hid (HF.out x u wr hin hr HB.out)
      have E1 := hid e1; have E2 := hid e2
      clear e1 e2 hr hel hin
      go_wp2_with fail
      rw [hE]
      refine HC.out.mono ?_
      rintro e w1 ⟨rfl, hb1⟩
      have HB1 := hid (HB.out.trans (hb1.mono hs)); clear hb1
      cases hp : p x with
      | false =>
        have HP := hid hp; clear hp
        go_wp2
        go_roundw
        case rel => exact ⟨k + 1, by omega, by go_num, by rw [E1.out, HALL.out, HP.out]; rfl, HB1.out⟩
        case measure => simp [intOf]; omega
      | true =>
        have HP := hid (E2.out hp); clear hp
        go_wp2
        go_ret
        exact ⟨(k : Int), rfl, by rw [HP.out]; simp, HB1.out⟩
    · have hall : l.any p = false := by
        have := HALL.out
        rwa [List.take_of_length_le (by omega)] at this
      have HP := hid hall; clear hall
      go_wp2
      go_ret
      exact ⟨-1, rfl, by rw [HP.out]; decide, HB.out⟩
theorem hasS_any (F : FuncId) (caps : Array Value) (p : ByteArray → Bool) (v : Value) (l : List ByteArray) (w : World) (hv : rdSlice 1 rdStr w w.heap.size [v] l) (hg : Good (rdSlice 1 rdStr)) (hE : Enters F) (hF : Tells rdStr F caps p l w) :
    Calls Tryz.prog 122 #[v, .func (Fn.func F) #[] caps] w (Gives (.bool (l.any p)) w) := by
  have HI := hid (idxS_any F caps p v l w hv hg hE hF)
  clear hv hF
  go_enter Tryz.func122, Tryz.ntmps122
  go_wp2_with fail
  refine HI.out.mono ?_
  rintro e w1 ⟨i, rfl, hi, hb⟩
  go_wp2
  go_ret
  exact ⟨rfl, hb⟩

set_option maxRecDepth 100000 in
set_option maxHeartbeats 800000 in
theorem idxP_any (F : FuncId) (caps : Array Value) (p : (List ByteArray) → Bool) (v : Value) (l : List (List ByteArray)) (w : World) (hv : rdSlice 1 (rdSlice 1 rdStr) w w.heap.size [v] l) (hg : Good (rdSlice 1 (rdSlice 1 rdStr))) (hE : Enters F) (hF : Tells (rdSlice 1 rdStr) F caps p l w) :
    Calls Tryz.prog 121 #[v, .func (Fn.func F) #[] caps] w (IdxG p l w) := by
  obtain ⟨A, c, e0, hc1, hc2, -⟩ := id hv
  obtain rfl : v = .slice A l.length c := by simpa using e0
  unfold maxLen at hc2
  have HV := hid hv; have HF := hid hF
  clear hv hF e0
  go_enter Tryz.func121, Tryz.ntmps121
  go_wp2
  go_loopw [8] (fun i wr => IdxRelG p l w i wr) (fun i _ => l.length - (intOf i).toNat)
  case atStart => exact ⟨0, by omega, rfl, by simp, Below.refl _ _⟩
  case round =>
    obtain ⟨k, hk, rfl, hall, hb⟩ := hrel
    have HALL := hid hall; have HB := hid hb
    have hs := hb.size
    clear hall hb
    by_cases hlt : k < l.length
    · obtain ⟨b, off, rfl, hbl, es, hel, hcell, hr⟩ := (hg.stays HV.out HB.out).at_ hlt
      obtain ⟨u, rfl⟩ := List.length_eq_one_iff.1 hel
      have hcell := hcell 0 u rfl
      rw [Nat.mul_one, Nat.add_zero] at hcell
      have hin : l[k] ∈ l := List.getElem_mem hlt
      have e1 := any_take_succ (p := p) hlt
      have e2 := any_of_at (p := p) hlt
      have hr := (good_slice good_str).more hr hs
      generalize l[k] = x at *
      have HC := hid (HF.out x u wr hin hr HB.out)
      have E1 := hid e1; have E2 := hid e2
      clear e1 e2 hr hel hin
      go_wp2_with fail
      rw [hE]
      refine HC.out.mono ?_
      rintro e w1 ⟨rfl, hb1⟩
      have HB1 := hid (HB.out.trans (hb1.mono hs)); clear hb1
      cases hp : p x with
      | false =>
        have HP := hid hp; clear hp
        go_wp2
        go_roundw
        case rel => exact ⟨k + 1, by omega, by go_num, by rw [E1.out, HALL.out, HP.out]; rfl, HB1.out⟩
        case measure => simp [intOf]; omega
      | true =>
        have HP := hid (E2.out hp); clear hp
        go_wp2
        go_ret
        exact ⟨(k : Int), rfl, by rw [HP.out]; simp, HB1.out⟩
    · have hall : l.any p = false := by
        have := HALL.out
        rwa [List.take_of_length_le (by omega)] at this
      have HP := hid hall; clear hall
      go_wp2
      go_ret
      exact ⟨-1, rfl, by rw [HP.out]; decide, HB.out⟩
theorem hasP_any (F : FuncId) (caps : Array Value) (p : (List ByteArray) → Bool) (v : Value) (l : List (List ByteArray)) (w : World) (hv : rdSlice 1 (rdSlice 1 rdStr) w w.heap.size [v] l) (hg : Good (rdSlice 1 (rdSlice 1 rdStr))) (hE : Enters F) (hF : Tells (rdSlice 1 rdStr) F caps p l w) :
    Calls Tryz.prog 104 #[v, .func (Fn.func F) #[] caps] w (Gives (.bool (l.any p)) w) := by
  have HI := hid (idxP_any F caps p v l w hv hg hE hF)
  clear hv hF
  go_enter Tryz.func104, Tryz.ntmps104
  go_wp2_with fail
  refine HI.out.mono ?_
  rintro e w1 ⟨i, rfl, hi, hb⟩
  go_wp2
  go_ret
  exact ⟨rfl, hb⟩

end Go.Proofs.YtkgifbnkkmeoiaaGreatDoor
/- batch.plain, and slices.ContainsFunc at facts. -/
namespace Go.Proofs.YtkgifbnkkmeoiaaGreatDoor
open Go.ChangeShapes Go.WideShapes Go.ChangeAt Go.RowKit
set_option linter.unusedVariables false
set_option linter.unusedSimpArgs false

theorem valMay_any (n : Int) (w : World) : Calls Tryz.prog 109 #[.int .i64 n] w (Stays (.bool (valB n)) w) := by
  unfold valB
  by_cases h : -2305843009213693952 ≤ n
  · have d1 : decide (-2305843009213693952 ≤ n) = true := decide_eq_true h
    rw [d1, Bool.true_and]
    go_enter Tryz.func109, Tryz.ntmps109
    go_wp2
    go_ret
    exact ⟨rfl, Qu.refl _⟩
  · have d1 : decide (-2305843009213693952 ≤ n) = false := decide_eq_false h
    rw [d1, Bool.false_and]
    go_enter Tryz.func109, Tryz.ntmps109
    go_wp2
    go_ret
    exact ⟨rfl, Qu.refl _⟩
theorem valNot_any (n : Int) (w : World) : Calls Tryz.prog 108 #[.int .i64 n] w (Gives (.bool (!valB n)) w) := by
  have HI := hid (valMay_any n)
  go_enter Tryz.func108, Tryz.ntmps108
  go_wp2_with fail
  refine (HI.out _).mono ?_
  rintro e w1 ⟨rfl, hq⟩
  go_wp2
  go_ret
  exact ⟨rfl, hq.below _⟩
theorem enters_valNot : Enters 108 := enters_of Tryz.func108 (by kernel_rfl) rfl
theorem hasVal_any (v : Value) (l : List Int) (w : World) (hv : rdInts w w.heap.size [v] l) :
    Calls Tryz.prog 107 #[v, .func (Fn.func 108) #[] #[]] w (Gives (.bool (l.any fun n => !valB n)) w) :=
  hasI_any 108 #[] (fun n => !valB n) v l w hv good_ints enters_valNot (fun x u W hx hr hb => by
    obtain ⟨e, hs⟩ := hr
    simp only [List.cons.injEq, and_true] at e
    subst e
    exact valNot_any x W)
theorem notMay_any (v : Value) (p : List ByteArray) (w : World) (hv : rdStrs w w.heap.size [v] p) : Calls Tryz.prog 105 #[v] w (Gives (.bool (!mayB p)) w) := by
  have HI := hid (mayN_any v p w (strs_sl hv).1 (strs_sl hv).2 (strs_len hv))
  clear hv
  go_enter Tryz.func105, Tryz.ntmps105
  go_wp2_with fail
  refine HI.out.mono ?_
  rintro e w1 ⟨rfl, hb⟩
  go_wp2
  go_ret
  exact ⟨rfl, hb⟩
theorem enters_notMay : Enters 105 := enters_of Tryz.func105 (by kernel_rfl) rfl
theorem hasBad_any (v : Value) (l : List (List ByteArray)) (w : World) (hv : rdSlice 1 rdStrs w w.heap.size [v] l) :
    Calls Tryz.prog 104 #[v, .func (Fn.func 105) #[] #[]] w (Gives (.bool (l.any fun p => !mayB p)) w) :=
  hasP_any 105 #[] (fun p => !mayB p) v l w hv good_paths enters_notMay (fun x u W hx hr hb => notMay_any u x W hr)
set_option maxRecDepth 100000 in
set_option maxHeartbeats 1600000 in
theorem plainFt_any (v : Value) (f : FactX) (w : World) (hv : FactV w w.heap.size v f) :
    Calls Tryz.prog 82 #[v] w (Gives (.bool (plainFt f)) w) := by
  obtain ⟨A1, c1, A2, c2, rfl, h1, h2⟩ := hv
  obtain ⟨hc1, hm1⟩ := h1.cap
  obtain ⟨hc2, hm2⟩ := h2.cap
  obtain ⟨W0, hW0⟩ : ∃ W, W = w.alloc (.cells #[.slice A1 f.1.length c1, .slice A2 f.2.length c2] 127) := ⟨_, rfl⟩
  have g0 : Below w.heap.size w W0 := by rw [hW0]; exact bl1 _ _
  have z0 : W0.heap.size = w.heap.size + 1 := by rw [hW0]; simp
  have y0 : W0.cell? ⟨w.heap.size, 0, none⟩ = some (.slice A1 f.1.length c1) := by rw [hW0]; simp [go_sem]
  have y1 : W0.cell? ⟨w.heap.size, 1, none⟩ = some (.slice A2 f.2.length c2) := by rw [hW0]; simp [go_sem]
  have HW0 := hid hW0
  have G0 := hid g0; have Y0 := hid y0; have Y1 := hid y1
  have HB1 := hid (hasBad_any _ f.1 W0 (good_paths.on h1 g0))
  have HV := hid (fun W (hb : Below W0.heap.size W0 W) => hasVal_any _ f.2 W (good_ints.on (good_ints.on h2 g0) hb))
  have hpl : plainFt f = ((!(f.1.any fun p => !mayB p) && !(f.2.any fun n => !valB n)) && decide (f.1.length ≤ 3) && decide (f.2.length ≤ 2)) := rfl
  generalize plainFt f = res at *
  generalize (f.1.any fun p => !mayB p) = a at *
  generalize (f.2.any fun n => !valB n) = b at *
  generalize hn1 : f.1.length = n1 at *
  generalize hn2 : f.2.length = n2 at *
  have HPL := hid hpl
  clear hW0 g0 h1 h2 hpl
  go_enter Tryz.func82, Tryz.ntmps82
  go_wp2_with fail
  rw [← HW0.out]
  refine HB1.out.mono ?_
  rintro e w1 ⟨rfl, hb1⟩
  have y1 := cellK hb1 (by omega) Y1.out
  have HB2 := hid hb1
  clear hb1
  go_wp2_with fail
  refine (HV.out _ HB2.out).mono ?_
  rintro e w2 ⟨rfl, hb2⟩
  have HB3 := hid (HB2.out.trans (hb2.mono HB2.out.size))
  have y0 := cellK HB3.out (by omega) Y0.out
  have y1 := cellK HB3.out (by omega) Y1.out
  clear hb2
  have hw : (a = true) ∨ (a = false ∧ b = true) ∨ (a = false ∧ b = false) := by cases a <;> cases b <;> simp
  rcases hw with rfl | ⟨rfl, rfl⟩ | ⟨rfl, rfl⟩
  · have HN := hid (show res = false by rw [HPL.out]; rfl)
    go_wp2
    go_ret
    exact ⟨by rw [HN.out]; rfl, G0.out.trans (HB3.out.mono (by omega))⟩
  · have HN := hid (show res = false by rw [HPL.out]; rfl)
    go_wp2
    go_ret
    exact ⟨by rw [HN.out]; rfl, G0.out.trans (HB3.out.mono (by omega))⟩
  · by_cases l1 : n1 ≤ 3
    · have t1 : decide ((n1 : Int) ≤ 3) = true := by rw [decide_eq_true_eq]; omega
      have t1' : decide (n1 ≤ 3) = true := decide_eq_true l1
      have HN := hid (show res = decide (n2 ≤ 2) by rw [HPL.out, t1']; rfl)
      by_cases l2 : n2 ≤ 2
      · have t2 : decide ((n2 : Int) ≤ 2) = true := by rw [decide_eq_true_eq]; omega
        have t2' : decide (n2 ≤ 2) = true := decide_eq_true l2
        rw [t2'] at HN
        clear l1 l2
        go_wp2
        go_ret
        exact ⟨by rw [HN.out]; rfl, G0.out.trans (HB3.out.mono (by omega))⟩
      · have t2 : decide ((n2 : Int) ≤ 2) = false := by rw [decide_eq_false_iff_not]; omega
        have t2' : decide (n2 ≤ 2) = false := decide_eq_false l2
        rw [t2'] at HN
        clear l1 l2
        go_wp2
        go_ret
        exact ⟨by rw [HN.out]; rfl, G0.out.trans (HB3.out.mono (by omega))⟩
    · have t1 : decide ((n1 : Int) ≤ 3) = false := by rw [decide_eq_false_iff_not]; omega
      have t1' : decide (n1 ≤ 3) = false := decide_eq_false l1
      have HN := hid (show res = false by rw [HPL.out, t1']; rfl)
      clear l1
      go_wp2
      go_ret
      exact ⟨by rw [HN.out]; rfl, G0.out.trans (HB3.out.mono (by omega))⟩
end Go.Proofs.YtkgifbnkkmeoiaaGreatDoor
