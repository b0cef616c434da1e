/- 1 text of this claim, in build order. -/
import Derived.Test.YtkdpclllenbgfaaDoorPgeebagdj
/- slices.IndexFunc and slices.ContainsFunc with any function value. Printed by wip/idx.py. -/
namespace Go.Proofs.YtkdpclllenbgfaaDoor
open Go.ChangeShapes Go.WideShapes Go.ChangeAt Go.RowKit
set_option linter.unusedVariables false
set_option linter.unusedSimpArgs false

set_option maxRecDepth 100000 in
set_option maxHeartbeats 800000 in
theorem idxI_any (F : FuncId) (caps : Array Value) (p : Int → Bool) (v : Value) (l : List Int) (w : World) (hv : rdSlice 1 rdInt w w.heap.size [v] l) (hg : Good (rdSlice 1 rdInt)) (hE : Enters F) (hF : Tells rdInt F caps p l w) :
    Calls Tryd.prog 71 #[v, .func (Fn.func F) #[] caps] w (IdxG p l w) := by
  obtain ⟨A, c, e0, hc1, hc2, -⟩ := id hv
  obtain rfl : v = .slice A l.length c := by simpa using e0
  unfold maxLen at hc2
  have HV := hid hv; have HF := hid hF
  clear hv hF e0
  go_enter Tryd.func71, Tryd.ntmps71
  go_wp2
  go_loopw [8] (fun i wr => IdxRelG p l w i wr) (fun i _ => l.length - (intOf i).toNat)
  case atStart => exact ⟨0, by omega, rfl, by simp, Below.refl _ _⟩
  case round =>
    obtain ⟨k, hk, rfl, hall, hb⟩ := hrel
    have HALL := hid hall; have HB := hid hb
    have hs := hb.size
    clear hall hb
    by_cases hlt : k < l.length
    · obtain ⟨b, off, rfl, hbl, es, hel, hcell, hr⟩ := (hg.stays HV.out HB.out).at_ hlt
      obtain ⟨u, rfl⟩ := List.length_eq_one_iff.1 hel
      have hcell := hcell 0 u rfl
      rw [Nat.mul_one, Nat.add_zero] at hcell
      have hin : l[k] ∈ l := List.getElem_mem hlt
      have e1 := any_take_succ (p := p) hlt
      have e2 := any_of_at (p := p) hlt
      have hr := (good_int).more hr hs
      generalize l[k] = x at *
      have HC := hid (HF.out x u wr hin hr HB.out)
      have E1 := hid e1; have E2 := hid e2
      clear e1 e2 hr hel hin
      go_wp2_with fail
      rw [hE]
      refine HC.out.mono ?_
      rintro e w1 ⟨rfl, hb1⟩
      have HB1 := hid (HB.out.trans (hb1.mono hs)); clear hb1
      cases hp : p x with
      | false =>
        have HP := hid hp; clear hp
        go_wp2
        go_roundw
        case rel => exact ⟨k + 1, by omega, by go_num, by rw [E1.out, HALL.out, HP.out]; rfl, HB1.out⟩
        case measure => simp [intOf]; omega
      | true =>
        have HP := hid (E2.out hp); clear hp
        go_wp2
        go_ret
        exact ⟨(k : Int), rfl, by rw [HP.out]; simp, HB1.out⟩
    · have hall : l.any p = false := by
        have := HALL.out
        rwa [List.take_of_length_le (by omega)] at this
      have HP := hid hall; clear hall
      go_wp2
      go_ret
      exact ⟨-1, rfl, by rw [HP.out]; decide, HB.out⟩
theorem hasI_any (F : FuncId) (caps : Array Value) (p : Int → Bool) (v : Value) (l : List Int) (w : World) (hv : rdSlice 1 rdInt w w.heap.size [v] l) (hg : Good (rdSlice 1 rdInt)) (hE : Enters F) (hF : Tells rdInt F caps p l w) :
    Calls Tryd.prog 51 #[v, .func (Fn.func F) #[] caps] w (Gives (.bool (l.any p)) w) := by
  have HI := hid (idxI_any F caps p v l w hv hg hE hF)
  clear hv hF
  go_enter Tryd.func51, Tryd.ntmps51
  go_wp2_with fail
  refine HI.out.mono ?_
  rintro e w1 ⟨i, rfl, hi, hb⟩
  go_wp2
  go_ret
  exact ⟨rfl, hb⟩

set_option maxRecDepth 100000 in
set_option maxHeartbeats 800000 in
theorem idxS_any (F : FuncId) (caps : Array Value) (p : ByteArray → Bool) (v : Value) (l : List ByteArray) (w : World) (hv : rdSlice 1 rdStr w w.heap.size [v] l) (hg : Good (rdSlice 1 rdStr)) (hE : Enters F) (hF : Tells rdStr F caps p l w) :
    Calls Tryd.prog 81 #[v, .func (Fn.func F) #[] caps] w (IdxG p l w) := by
  obtain ⟨A, c, e0, hc1, hc2, -⟩ := id hv
  obtain rfl : v = .slice A l.length c := by simpa using e0
  unfold maxLen at hc2
  have HV := hid hv; have HF := hid hF
  clear hv hF e0
  go_enter Tryd.func81, Tryd.ntmps81
  go_wp2
  go_loopw [8] (fun i wr => IdxRelG p l w i wr) (fun i _ => l.length - (intOf i).toNat)
  case atStart => exact ⟨0, by omega, rfl, by simp, Below.refl _ _⟩
  case round =>
    obtain ⟨k, hk, rfl, hall, hb⟩ := hrel
    have HALL := hid hall; have HB := hid hb
    have hs := hb.size
    clear hall hb
    by_cases hlt : k < l.length
    · obtain ⟨b, off, rfl, hbl, es, hel, hcell, hr⟩ := (hg.stays HV.out HB.out).at_ hlt
      obtain ⟨u, rfl⟩ := List.length_eq_one_iff.1 hel
      have hcell := hcell 0 u rfl
      rw [Nat.mul_one, Nat.add_zero] at hcell
      have hin : l[k] ∈ l := List.getElem_mem hlt
      have e1 := any_take_succ (p := p) hlt
      have e2 := any_of_at (p := p) hlt
      have hr := (good_str).more hr hs
      generalize l[k] = x at *
      have HC := hid (HF.out x u wr hin hr HB.out)
      have E1 := hid e1; have E2 := hid e2
      clear e1 e2 hr hel hin
      go_wp2_with fail
      rw [hE]
      refine HC.out.mono ?_
      rintro e w1 ⟨rfl, hb1⟩
      have HB1 := hid (HB.out.trans (hb1.mono hs)); clear hb1
      cases hp : p x with
      | false =>
        have HP := hid hp; clear hp
        go_wp2
        go_roundw
        case rel => exact ⟨k + 1, by omega, by go_num, by rw [E1.out, HALL.out, HP.out]; rfl, HB1.out⟩
        case measure => simp [intOf]; omega
      | true =>
        have HP := hid (E2.out hp); clear hp
        go_wp2
        go_ret
        exact ⟨(k : Int), rfl, by rw [HP.out]; simp, HB1.out⟩
    · have hall : l.any p = false := by
        have := HALL.out
        rwa [List.take_of_length_le (by omega)] at this
      have HP := hid hall; clear hall
      go_wp2
      go_ret
      exact ⟨-1, rfl, by rw [HP.out]; decide, HB.out⟩
theorem hasS_any (F : FuncId) (caps : Array Value) (p : ByteArray → Bool) (v : Value) (l : List ByteArray) (w : World) (hv : rdSlice 1 rdStr w w.heap.size [v] l) (hg : Good (rdSlice 1 rdStr)) (hE : Enters F) (hF : Tells rdStr F caps p l w) :
    Calls Tryd.prog 65 #[v, .func (Fn.func F) #[] caps] w (Gives (.bool (l.any p)) w) := by
  have HI := hid (idxS_any F caps p v l w hv hg hE hF)
  clear hv hF
  go_enter Tryd.func65, Tryd.ntmps65
  go_wp2_with fail
  refine HI.out.mono ?_
  rintro e w1 ⟨i, rfl, hi, hb⟩
  go_wp2
  go_ret
  exact ⟨rfl, hb⟩

set_option maxRecDepth 100000 in
set_option maxHeartbeats 800000 in
theorem idxP_any (F : FuncId) (caps : Array Value) (p : (List ByteArray) → Bool) (v : Value) (l : List (List ByteArray)) (w : World) (hv : rdSlice 1 (rdSlice 1 rdStr) w w.heap.size [v] l) (hg : Good (rdSlice 1 (rdSlice 1 rdStr))) (hE : Enters F) (hF : Tells (rdSlice 1 rdStr) F caps p l w) :
    Calls Tryd.prog 63 #[v, .func (Fn.func F) #[] caps] w (IdxG p l w) := by
  obtain ⟨A, c, e0, hc1, hc2, -⟩ := id hv
  obtain rfl : v = .slice A l.length c := by simpa using e0
  unfold maxLen at hc2
  have HV := hid hv; have HF := hid hF
  clear hv hF e0
  go_enter Tryd.func63, Tryd.ntmps63
  go_wp2
  go_loopw [8] (fun i wr => IdxRelG p l w i wr) (fun i _ => l.length - (intOf i).toNat)
  case atStart => exact ⟨0, by omega, rfl, by simp, Below.refl _ _⟩
  case round =>
    obtain ⟨k, hk, rfl, hall, hb⟩ := hrel
    have HALL := hid hall; have HB := hid hb
    have hs := hb.size
    clear hall hb
    by_cases hlt : k < l.length
    · obtain ⟨b, off, rfl, hbl, es, hel, hcell, hr⟩ := (hg.stays HV.out HB.out).at_ hlt
      obtain ⟨u, rfl⟩ := List.length_eq_one_iff.1 hel
      have hcell := hcell 0 u rfl
      rw [Nat.mul_one, Nat.add_zero] at hcell
      have hin : l[k] ∈ l := List.getElem_mem hlt
      have e1 := any_take_succ (p := p) hlt
      have e2 := any_of_at (p := p) hlt
      have hr := (good_slice good_str).more hr hs
      generalize l[k] = x at *
      have HC := hid (HF.out x u wr hin hr HB.out)
      have E1 := hid e1; have E2 := hid e2
      clear e1 e2 hr hel hin
      go_wp2_with fail
      rw [hE]
      refine HC.out.mono ?_
      rintro e w1 ⟨rfl, hb1⟩
      have HB1 := hid (HB.out.trans (hb1.mono hs)); clear hb1
      cases hp : p x with
      | false =>
        have HP := hid hp; clear hp
        go_wp2
        go_roundw
        case rel => exact ⟨k + 1, by omega, by go_num, by rw [E1.out, HALL.out, HP.out]; rfl, HB1.out⟩
        case measure => simp [intOf]; omega
      | true =>
        have HP := hid (E2.out hp); clear hp
        go_wp2
        go_ret
        exact ⟨(k : Int), rfl, by rw [HP.out]; simp, HB1.out⟩
    · have hall : l.any p = false := by
        have := HALL.out
        rwa [List.take_of_length_le (by omega)] at this
      have HP := hid hall; clear hall
      go_wp2
      go_ret
      exact ⟨-1, rfl, by rw [HP.out]; decide, HB.out⟩
theorem hasP_any (F : FuncId) (caps : Array Value) (p : (List ByteArray) → Bool) (v : Value) (l : List (List ByteArray)) (w : World) (hv : rdSlice 1 (rdSlice 1 rdStr) w w.heap.size [v] l) (hg : Good (rdSlice 1 (rdSlice 1 rdStr))) (hE : Enters F) (hF : Tells (rdSlice 1 rdStr) F caps p l w) :
    Calls Tryd.prog 39 #[v, .func (Fn.func F) #[] caps] w (Gives (.bool (l.any p)) w) := by
  have HI := hid (idxP_any F caps p v l w hv hg hE hF)
  clear hv hF
  go_enter Tryd.func39, Tryd.ntmps39
  go_wp2_with fail
  refine HI.out.mono ?_
  rintro e w1 ⟨i, rfl, hi, hb⟩
  go_wp2
  go_ret
  exact ⟨rfl, hb⟩

set_option maxRecDepth 100000 in
set_option maxHeartbeats 800000 in
theorem idxR_any (F : FuncId) (caps : Array Value) (p : (List Int) → Bool) (v : Value) (l : List (List Int)) (w : World) (hv : rdSlice 1 (rdSlice 1 rdInt) w w.heap.size [v] l) (hg : Good (rdSlice 1 (rdSlice 1 rdInt))) (hE : Enters F) (hF : Tells (rdSlice 1 rdInt) F caps p l w) :
    Calls Tryd.prog 77 #[v, .func (Fn.func F) #[] caps] w (IdxG p l w) := by
  obtain ⟨A, c, e0, hc1, hc2, -⟩ := id hv
  obtain rfl : v = .slice A l.length c := by simpa using e0
  unfold maxLen at hc2
  have HV := hid hv; have HF := hid hF
  clear hv hF e0
  go_enter Tryd.func77, Tryd.ntmps77
  go_wp2
  go_loopw [8] (fun i wr => IdxRelG p l w i wr) (fun i _ => l.length - (intOf i).toNat)
  case atStart => exact ⟨0, by omega, rfl, by simp, Below.refl _ _⟩
  case round =>
    obtain ⟨k, hk, rfl, hall, hb⟩ := hrel
    have HALL := hid hall; have HB := hid hb
    have hs := hb.size
    clear hall hb
    by_cases hlt : k < l.length
    · obtain ⟨b, off, rfl, hbl, es, hel, hcell, hr⟩ := (hg.stays HV.out HB.out).at_ hlt
      obtain ⟨u, rfl⟩ := List.length_eq_one_iff.1 hel
      have hcell := hcell 0 u rfl
      rw [Nat.mul_one, Nat.add_zero] at hcell
      have hin : l[k] ∈ l := List.getElem_mem hlt
      have e1 := any_take_succ (p := p) hlt
      have e2 := any_of_at (p := p) hlt
      have hr := (good_slice good_int).more hr hs
      generalize l[k] = x at *
      have HC := hid (HF.out x u wr hin hr HB.out)
      have E1 := hid e1; have E2 := hid e2
      clear e1 e2 hr hel hin
      go_wp2_with fail
      rw [hE]
      refine HC.out.mono ?_
      rintro e w1 ⟨rfl, hb1⟩
      have HB1 := hid (HB.out.trans (hb1.mono hs)); clear hb1
      cases hp : p x with
      | false =>
        have HP := hid hp; clear hp
        go_wp2
        go_roundw
        case rel => exact ⟨k + 1, by omega, by go_num, by rw [E1.out, HALL.out, HP.out]; rfl, HB1.out⟩
        case measure => simp [intOf]; omega
      | true =>
        have HP := hid (E2.out hp); clear hp
        go_wp2
        go_ret
        exact ⟨(k : Int), rfl, by rw [HP.out]; simp, HB1.out⟩
    · have hall : l.any p = false := by
        have := HALL.out
        rwa [List.take_of_length_le (by omega)] at this
      have HP := hid hall; clear hall
      go_wp2
      go_ret
      exact ⟨-1, rfl, by rw [HP.out]; decide, HB.out⟩
theorem hasR_any (F : FuncId) (caps : Array Value) (p : (List Int) → Bool) (v : Value) (l : List (List Int)) (w : World) (hv : rdSlice 1 (rdSlice 1 rdInt) w w.heap.size [v] l) (hg : Good (rdSlice 1 (rdSlice 1 rdInt))) (hE : Enters F) (hF : Tells (rdSlice 1 rdInt) F caps p l w) :
    Calls Tryd.prog 60 #[v, .func (Fn.func F) #[] caps] w (Gives (.bool (l.any p)) w) := by
  have HI := hid (idxR_any F caps p v l w hv hg hE hF)
  clear hv hF
  go_enter Tryd.func60, Tryd.ntmps60
  go_wp2_with fail
  refine HI.out.mono ?_
  rintro e w1 ⟨i, rfl, hi, hb⟩
  go_wp2
  go_ret
  exact ⟨rfl, hb⟩
end Go.Proofs.YtkdpclllenbgfaaDoor
