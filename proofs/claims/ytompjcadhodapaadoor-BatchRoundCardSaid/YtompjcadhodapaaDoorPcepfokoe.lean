/- 1 text of this claim, in build order. -/
import Derived.Test.YtompjcadhodapaaDoorPbadcdopa
import Derived.Test.YtompjcadhodapaaDoorPgjpeejfi
import Derived.Test.YtompjcadhodapaaDoorPlkjnbcdk
/- batch.plain, and slices.ContainsFunc at facts. -/
namespace Go.Proofs.YtompjcadhodapaaDoor
open Go.ChangeShapes Go.WideShapes Go.ChangeAt Go.RowKit
set_option linter.unusedVariables false
set_option linter.unusedSimpArgs false

theorem valMay_any (n : Int) (w : World) : Calls Tryd.prog 55 #[.int .i64 n] w (Stays (.bool (valB n)) w) := by
  unfold valB
  by_cases h : -2305843009213693952 ≤ n
  · have d1 : decide (-2305843009213693952 ≤ n) = true := decide_eq_true h
    rw [d1, Bool.true_and]
    go_enter Tryd.func55, Tryd.ntmps55
    go_wp2
    go_ret
    exact ⟨rfl, Qu.refl _⟩
  · have d1 : decide (-2305843009213693952 ≤ n) = false := decide_eq_false h
    rw [d1, Bool.false_and]
    go_enter Tryd.func55, Tryd.ntmps55
    go_wp2
    go_ret
    exact ⟨rfl, Qu.refl _⟩
theorem valNot_any (n : Int) (w : World) : Calls Tryd.prog 54 #[.int .i64 n] w (Gives (.bool (!valB n)) w) := by
  have HI := hid (valMay_any n)
  go_enter Tryd.func54, Tryd.ntmps54
  go_wp2_with fail
  refine (HI.out _).mono ?_
  rintro e w1 ⟨rfl, hq⟩
  go_wp2
  go_ret
  exact ⟨rfl, hq.below _⟩
theorem enters_valNot : Enters 54 := enters_of Tryd.func54 (by kernel_rfl) rfl
theorem hasVal_any (v : Value) (l : List Int) (w : World) (hv : rdInts w w.heap.size [v] l) :
    Calls Tryd.prog 53 #[v, .func (Fn.func 54) #[] #[]] w (Gives (.bool (l.any fun n => !valB n)) w) :=
  hasI_any 54 #[] (fun n => !valB n) v l w hv good_ints enters_valNot (fun x u W hx hr hb => by
    obtain ⟨e, hs⟩ := hr
    simp only [List.cons.injEq, and_true] at e
    subst e
    exact valNot_any x W)
theorem notMay_any (v : Value) (p : List ByteArray) (w : World) (hv : rdStrs w w.heap.size [v] p) : Calls Tryd.prog 52 #[v] w (Gives (.bool (!mayB p)) w) := by
  have HI := hid (mayN_any v p w (strs_sl hv).1 (strs_sl hv).2 (strs_len hv))
  clear hv
  go_enter Tryd.func52, Tryd.ntmps52
  go_wp2_with fail
  refine HI.out.mono ?_
  rintro e w1 ⟨rfl, hb⟩
  go_wp2
  go_ret
  exact ⟨rfl, hb⟩
theorem enters_notMay : Enters 52 := enters_of Tryd.func52 (by kernel_rfl) rfl
theorem hasBad_any (v : Value) (l : List (List ByteArray)) (w : World) (hv : rdSlice 1 rdStrs w w.heap.size [v] l) :
    Calls Tryd.prog 51 #[v, .func (Fn.func 52) #[] #[]] w (Gives (.bool (l.any fun p => !mayB p)) w) :=
  hasP_any 52 #[] (fun p => !mayB p) v l w hv good_paths enters_notMay (fun x u W hx hr hb => notMay_any u x W hr)
set_option maxRecDepth 100000 in
set_option maxHeartbeats 1600000 in
theorem plainFt_any (v : Value) (f : FactX) (w : World) (hv : FactV w w.heap.size v f) :
    Calls Tryd.prog 30 #[v] w (Gives (.bool (plainFt f)) w) := by
  obtain ⟨A1, c1, A2, c2, rfl, h1, h2⟩ := hv
  obtain ⟨hc1, hm1⟩ := h1.cap
  obtain ⟨hc2, hm2⟩ := h2.cap
  obtain ⟨W0, hW0⟩ : ∃ W, W = w.alloc (.cells #[.slice A1 f.1.length c1, .slice A2 f.2.length c2] 54) := ⟨_, rfl⟩
  have g0 : Below w.heap.size w W0 := by rw [hW0]; exact bl1 _ _
  have z0 : W0.heap.size = w.heap.size + 1 := by rw [hW0]; simp
  have y0 : W0.cell? ⟨w.heap.size, 0, none⟩ = some (.slice A1 f.1.length c1) := by rw [hW0]; simp [go_sem]
  have y1 : W0.cell? ⟨w.heap.size, 1, none⟩ = some (.slice A2 f.2.length c2) := by rw [hW0]; simp [go_sem]
  have HW0 := hid hW0
  have G0 := hid g0; have Y0 := hid y0; have Y1 := hid y1
  have HB1 := hid (hasBad_any _ f.1 W0 (good_paths.on h1 g0))
  have HV := hid (fun W (hb : Below W0.heap.size W0 W) => hasVal_any _ f.2 W (good_ints.on (good_ints.on h2 g0) hb))
  have hpl : plainFt f = ((!(f.1.any fun p => !mayB p) && !(f.2.any fun n => !valB n)) && decide (f.1.length ≤ 3) && decide (f.2.length ≤ 2)) := rfl
  generalize plainFt f = res at *
  generalize (f.1.any fun p => !mayB p) = a at *
  generalize (f.2.any fun n => !valB n) = b at *
  generalize hn1 : f.1.length = n1 at *
  generalize hn2 : f.2.length = n2 at *
  have HPL := hid hpl
  clear hW0 g0 h1 h2 hpl
  go_enter Tryd.func30, Tryd.ntmps30
  go_wp2_with fail
  rw [← HW0.out]
  refine HB1.out.mono ?_
  rintro e w1 ⟨rfl, hb1⟩
  have y1 := cellK hb1 (by omega) Y1.out
  have HB2 := hid hb1
  clear hb1
  go_wp2_with fail
  refine (HV.out _ HB2.out).mono ?_
  rintro e w2 ⟨rfl, hb2⟩
  have HB3 := hid (HB2.out.trans (hb2.mono HB2.out.size))
  have y0 := cellK HB3.out (by omega) Y0.out
  have y1 := cellK HB3.out (by omega) Y1.out
  clear hb2
  have hw : (a = true) ∨ (a = false ∧ b = true) ∨ (a = false ∧ b = false) := by cases a <;> cases b <;> simp
  rcases hw with rfl | ⟨rfl, rfl⟩ | ⟨rfl, rfl⟩
  · have HN := hid (show res = false by rw [HPL.out]; rfl)
    go_wp2
    go_ret
    exact ⟨by rw [HN.out]; rfl, G0.out.trans (HB3.out.mono (by omega))⟩
  · have HN := hid (show res = false by rw [HPL.out]; rfl)
    go_wp2
    go_ret
    exact ⟨by rw [HN.out]; rfl, G0.out.trans (HB3.out.mono (by omega))⟩
  · by_cases l1 : n1 ≤ 3
    · have t1 : decide ((n1 : Int) ≤ 3) = true := by rw [decide_eq_true_eq]; omega
      have t1' : decide (n1 ≤ 3) = true := decide_eq_true l1
      have HN := hid (show res = decide (n2 ≤ 2) by rw [HPL.out, t1']; rfl)
      by_cases l2 : n2 ≤ 2
      · have t2 : decide ((n2 : Int) ≤ 2) = true := by rw [decide_eq_true_eq]; omega
        have t2' : decide (n2 ≤ 2) = true := decide_eq_true l2
        rw [t2'] at HN
        clear l1 l2
        go_wp2
        go_ret
        exact ⟨by rw [HN.out]; rfl, G0.out.trans (HB3.out.mono (by omega))⟩
      · have t2 : decide ((n2 : Int) ≤ 2) = false := by rw [decide_eq_false_iff_not]; omega
        have t2' : decide (n2 ≤ 2) = false := decide_eq_false l2
        rw [t2'] at HN
        clear l1 l2
        go_wp2
        go_ret
        exact ⟨by rw [HN.out]; rfl, G0.out.trans (HB3.out.mono (by omega))⟩
    · have t1 : decide ((n1 : Int) ≤ 3) = false := by rw [decide_eq_false_iff_not]; omega
      have t1' : decide (n1 ≤ 3) = false := decide_eq_false l1
      have HN := hid (show res = false by rw [HPL.out, t1']; rfl)
      clear l1
      go_wp2
      go_ret
      exact ⟨by rw [HN.out]; rfl, G0.out.trans (HB3.out.mono (by omega))⟩
/-- What a function value tells of facts. -/
def TellsF (F : FuncId) (caps : Array Value) (p : FactX → Bool) (l : List FactX) (w : World) : Prop :=
  ∀ x u W, x ∈ l → FactV W W.heap.size u x → Below w.heap.size w W → Calls Tryd.prog F (#[u] ++ caps) W (Gives (.bool (p x)) W)
set_option maxRecDepth 100000 in
set_option maxHeartbeats 800000 in
theorem idxF_any (F : FuncId) (caps : Array Value) (p : FactX → Bool) (v : Value) (l : List FactX) (w : World) (hv : rdSlice 2 rdFact w w.heap.size [v] l) (hE : Enters F) (hF : TellsF F caps p l w) :
    Calls Tryd.prog 78 #[v, .func (Fn.func F) #[] caps] w (IdxG p l w) := by
  obtain ⟨A, c, e0, hc1, hc2⟩ := hv.open_
  obtain rfl : v = .slice A l.length c := by simpa using e0
  have HV := hid hv; have HF := hid hF
  clear hv hF e0
  go_enter Tryd.func78, Tryd.ntmps78
  go_wp2
  go_loopw [8] (fun i wr => IdxRelG p l w i wr) (fun i _ => l.length - (intOf i).toNat)
  case atStart => exact ⟨0, by omega, rfl, by simp, Below.refl _ _⟩
  case round =>
    obtain ⟨k, hk, rfl, hall, hb⟩ := hrel
    have HALL := hid hall; have HB := hid hb
    have hs := hb.size
    clear hall hb
    by_cases hlt : k < l.length
    · obtain ⟨b, off, AP, cP, AV, cV, rfl, hbl, q0, q1, r0, r1⟩ := facts_at (good_facts.stays HV.out HB.out) hlt
      have hin : l[k] ∈ l := List.getElem_mem hlt
      have e1 := any_take_succ (p := p) hlt
      have e2 := any_of_at (p := p) hlt
      have hfv : FactV wr wr.heap.size (.agg #[.slice AP l[k].1.length cP, .slice AV l[k].2.length cV]) l[k] := ⟨AP, cP, AV, cV, rfl, good_paths.more r0 hs, good_ints.more r1 hs⟩
      have HC := hid (HF.out l[k] _ wr hin hfv HB.out)
      generalize l[k] = x at *
      have E1 := hid e1; have E2 := hid e2
      clear e1 e2 r0 r1 hin hfv
      go_wp2_with fail
      rw [hE]
      refine HC.out.mono ?_
      rintro e w1 ⟨rfl, hb1⟩
      have HB1 := hid (HB.out.trans (hb1.mono hs)); clear hb1
      cases hp : p x with
      | false =>
        have HP := hid hp; clear hp
        go_wp2
        go_roundw
        case rel => exact ⟨k + 1, by omega, by go_num, by rw [E1.out, HALL.out, HP.out]; rfl, HB1.out⟩
        case measure => simp [intOf]; omega
      | true =>
        have HP := hid (E2.out hp); clear hp
        go_wp2
        go_ret
        exact ⟨(k : Int), rfl, by rw [HP.out]; simp, HB1.out⟩
    · have hall : l.any p = false := by
        have := HALL.out
        rwa [List.take_of_length_le (by omega)] at this
      have HP := hid hall; clear hall
      go_wp2
      go_ret
      exact ⟨-1, rfl, by rw [HP.out]; decide, HB.out⟩
theorem hasF_any (F : FuncId) (caps : Array Value) (p : FactX → Bool) (v : Value) (l : List FactX) (w : World) (hv : rdSlice 2 rdFact w w.heap.size [v] l) (hE : Enters F) (hF : TellsF F caps p l w) :
    Calls Tryd.prog 58 #[v, .func (Fn.func F) #[] caps] w (Gives (.bool (l.any p)) w) := by
  have HI := hid (idxF_any F caps p v l w hv hE hF)
  clear hv hF
  go_enter Tryd.func58, Tryd.ntmps58
  go_wp2_with fail
  refine HI.out.mono ?_
  rintro e w1 ⟨i, rfl, hi, hb⟩
  go_wp2
  go_ret
  exact ⟨by rw [← hi]; rfl, hb⟩
end Go.Proofs.YtompjcadhodapaaDoor
