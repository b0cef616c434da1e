/- 2 texts of this claim, in build order. -/
import Derived.Test.YtgoapnkdcfcjgaaGreatPcdoodoej
import Derived.Test.YtgoapnkdcfcjgaaGreatPkohgbcdn
/- Schemas: slices.Equal, Corner; rows of one's own that read as lists. -/
namespace Go.Proofs.YtgoapnkdcfcjgaaGreat
open Go.ChangeShapes Go.WideShapes Go.ChangeAt Go.RowKit
set_option linter.unusedVariables false
set_option linter.unusedSimpArgs false

theorem dims_in {w : World} {B : Nat} {v : Value} {l : List DimX} (h : rdSlice 2 rdDim w B [v] l) : ∀ d ∈ l, d.1.size ≤ maxLen ∧ d.2.length ≤ 9223372036854775807 := by
  intro d hd
  obtain ⟨i, hi, rfl⟩ := List.mem_iff_getElem.1 hd
  obtain ⟨A, c, e, -, -⟩ := h.open_
  rw [e] at h
  obtain ⟨b, off, -, -, es, -, -, hl1, ⟨-, hs⟩, hlv⟩ := h.at_ hi
  obtain ⟨AL, cL, -, hL1, hL2⟩ := hlv.open_
  exact ⟨hs, by omega⟩
theorem base_in {w : World} {B : Nat} {v : Value} {s : SchemaX} (h : rdSlice 2 rdDim w B [v] s.1) : ∀ x ∈ baseX s, InI64 x := by
  intro x hx
  unfold baseX at hx
  obtain ⟨d, hd, rfl⟩ := List.mem_map.1 hx
  have := (dims_in h d hd).2
  unfold InI64; omega
set_option maxRecDepth 100000 in
set_option maxHeartbeats 800000 in
theorem eqInts_any (v x : Value) (l r : List Int) (w : World) (hv : rdInts w w.heap.size [v] l) (hx : rdInts w w.heap.size [x] r) :
    Calls Tryz.prog 60 #[v, x] w (Stays (.bool (decide (l = r))) w) := by
  obtain ⟨A1, c1, e, hc1, hm1⟩ := hv.open_
  simp only [List.cons.injEq, and_true] at e
  subst e
  obtain ⟨A2, c2, e, hc2, hm2⟩ := hx.open_
  simp only [List.cons.injEq, and_true] at e
  subst e
  have S1 := hid hv; have S2 := hid hx; clear hv hx
  have hdec : l ≠ r → decide (l = r) = false := fun h => decide_eq_false h
  have hyes : l = r → decide (l = r) = true := fun h => decide_eq_true h
  generalize decide (l = r) = res at *
  have HD := hid hdec; have HY := hid hyes; clear hdec hyes
  go_enter Tryz.func60, Tryz.ntmps60
  by_cases hl : l.length = r.length
  · have HL := hid hl
    have u0 : ((l.length : Int) != (r.length : Int)) = false := by simp [hl]
    clear hl
    go_wp2
    go_loopw [13] (fun i wr => SameRelG l r w i wr) (fun i _ => l.length - (intOf i).toNat)
    case atStart => exact ⟨0, by omega, rfl, rfl, Qu.refl _⟩
    case round =>
      obtain ⟨k, hk, rfl, hsame, hq⟩ := hrel
      have HS := hid hsame; clear hsame
      by_cases hlt : k < l.length
      · have hlt' : k < r.length := by have := HL.out; omega
        obtain ⟨b1, o1, rfl, hb1, hx1, -⟩ := ints_at' S1.out hlt
        obtain ⟨b2, o2, rfl, hb2, hx2, -⟩ := ints_at' S2.out hlt'
        have g1 : wr.cell? ⟨b1, o1 + k, none⟩ = _ := (hq.cell _).trans hx1
        have g2 : wr.cell? ⟨b2, o2 + k, none⟩ = _ := (hq.cell _).trans hx2
        clear hx1 hx2
        have e1 : l.take (k + 1) = l.take k ++ [l[k]] := List.take_succ_eq_append_getElem hlt
        have e2 : r.take (k + 1) = r.take k ++ [r[k]] := List.take_succ_eq_append_getElem hlt'
        have hgn : l[k] ≠ r[k] → l ≠ r := fun h h' => h (by subst h'; rfl)
        generalize l[k] = p1 at *
        generalize r[k] = p2 at *
        by_cases he : p1 = p2
        · subst he
          have hs' : l.take (k + 1) = r.take (k + 1) := by rw [e1, e2, HS.out]
          have t2 : (p1 != p1) = false := by simp
          have HS' := hid hs'; clear e1 e2 hs' hgn
          go_wp2
          go_quiet (fail)
          go_wp2
          go_roundw
          case rel => exact ⟨k + 1, by omega, by go_num, HS'.out, hq.drewN _⟩
          case measure => simp [intOf]; omega
        · have hn := HD.out (hgn he)
          have t2 : (p1 != p2) = true := by simpa using he
          have HN := hid hn; clear e1 e2 hgn hn he
          go_wp2
          go_quiet (fail)
          go_wp2
          go_ret
          exact ⟨by rw [HN.out]; rfl, hq.drewN _⟩
      · have he1 : l = r := by
          have := HS.out
          rwa [List.take_of_length_le (by omega), List.take_of_length_le (by have := HL.out; omega)] at this
        have hn := HY.out he1
        have HN := hid hn; clear he1 HS hn
        go_wp2
        go_ret
        exact ⟨by rw [HN.out]; rfl, hq⟩
  · have u0 : ((l.length : Int) != (r.length : Int)) = true := by simp; omega
    have hn := HD.out (fun e => hl (by rw [e]))
    have HN := hid hn
    clear hl hn
    go_wp2
    go_ret
    exact ⟨by rw [HN.out]; rfl, Qu.refl _⟩
theorem belowZero_any (x : Int) (w : World) : Calls Tryz.prog 85 #[.int .i64 x] w (Gives (.bool (decide (x < 0))) w) := by
  go_enter Tryz.func85, Tryz.ntmps85
  go_wp2
  go_ret
  exact ⟨rfl, Below.refl _ _⟩
theorem enters_belowZero : Enters 85 := enters_of Tryz.func85 (by kernel_rfl) rfl
theorem hasNeg_any (v : Value) (l : List Int) (w : World) (hv : rdInts w w.heap.size [v] l) :
    Calls Tryz.prog 80 #[v, .func (Fn.func 85) #[] #[]] w (Gives (.bool (l.any fun n => decide (n < 0))) w) :=
  hasI_any 85 #[] (fun n => decide (n < 0)) v l w hv good_ints enters_belowZero (fun x u W hx hr hb => by
    obtain ⟨e, hs⟩ := hr
    simp only [List.cons.injEq, and_true] at e
    subst e
    exact belowZero_any x W)
set_option maxHeartbeats 800000 in
theorem corner_any (v x : Value) (s : SchemaX) (l : List Int) (w : World) (hv : SchemaV w w.heap.size v s) (hl : s.1.length ≤ 1000) (hx : rdInts w w.heap.size [x] l) :
    Calls Tryz.prog 53 #[v, x] w (Gives (.bool (cornerB s l)) w) := by
  have hv0 := hv
  obtain ⟨A1, c1, A2, c2, A3, c3, rfl, h1, h2, h3⟩ := hv
  have hin := base_in h1
  have HBS := hid (fun W (hb : Below w.heap.size w W) => base_any _ s W (hv0.on hb) hl)
  have HX := hid (fun W (hb : Below w.heap.size w W) => good_ints.on hx hb)
  have HIN := hid hin
  unfold cornerB
  clear hv0 h1 h2 h3 hx hin
  generalize baseX s = bs at *
  have HCV := hid (fun (r : Value) (W : World) (hr : rdInts W W.heap.size [r] bs) (hb : Below w.heap.size w W) => covers_any r x bs l W hr (HX.out W hb))
  have HNG := hid (fun (W : World) (hb : Below w.heap.size w W) => hasNeg_any x l W (HX.out W hb))
  clear HX
  generalize coversB bs l = cv at *
  generalize (l.any fun n => decide (n < 0)) = ng at *
  go_enter Tryz.func53, Tryz.ntmps53
  go_wp2_with fail
  refine (HBS.out _ (by repeat' first | with_reducible exact Below.refl _ _ | assumption | (with_reducible refine Below.alloc ?_ ?_ _) | (with_reducible refine Below.setCell ?_ ?_ _) | (with_reducible refine Below.drew ?_) | (with_reducible refine below_drewN ?_ _) | (with_reducible refine Below.trans ?_ (Below.mono ‹_› ?_)) | omega | (with_reducible refine le_alloc ?_) | (with_reducible refine le_setCell ?_) | (with_reducible refine le_drew ?_) | (with_reducible refine le_drewN ?_) | (with_reducible refine Nat.le_trans ?_ (Below.size ‹_›)) | (simp <;> omega))).mono ?_
  rintro e w1 ⟨r, rfl, hown, hb1⟩
  have HB1 := hid (show Below w.heap.size w w1 from ((bl1 w _).trans (hb1.mono (by simp))))
  have HR := hid (rdInts_of_own rfl hown HIN.out)
  clear hown hb1
  go_wp2_with fail
  refine (HCV.out _ _ HR.out HB1.out).mono ?_
  rintro e w2 ⟨rfl, hq⟩
  have HB2 := hid (HB1.out.trans (hq.below _))
  clear hq
  cases cv
  · go_wp2
    go_ret
    exact ⟨rfl, HB2.out⟩
  · go_wp2_with fail
    refine (HNG.out _ HB2.out).mono ?_
    rintro e w3 ⟨rfl, hb3⟩
    have HB3 := hid (HB2.out.trans (hb3.mono HB2.out.size))
    clear hb3
    go_wp2
    go_ret
    exact ⟨rfl, HB3.out⟩
end Go.Proofs.YtgoapnkdcfcjgaaGreat
/- slices.IndexFunc, slices.ContainsFunc over lists of numbers, with any function value. -/
namespace Go.Proofs.YtgoapnkdcfcjgaaGreat
open Go.ChangeShapes Go.WideShapes Go.ChangeAt Go.RowKit
set_option linter.unusedVariables false
set_option linter.unusedSimpArgs false

set_option maxRecDepth 100000 in
set_option maxHeartbeats 800000 in
theorem idxR_any (F : FuncId) (caps : Array Value) (p : (List Int) → Bool) (v : Value) (l : List (List Int)) (w : World) (hv : rdSlice 1 (rdSlice 1 rdInt) w w.heap.size [v] l) (hg : Good (rdSlice 1 (rdSlice 1 rdInt))) (hE : Enters F) (hF : Tells (rdSlice 1 rdInt) F caps p l w) :
    Calls Tryz.prog 91 #[v, .func (Fn.func F) #[] caps] w (IdxG p l w) := by
  obtain ⟨A, c, e0, hc1, hc2, -⟩ := id hv
  obtain rfl : v = .slice A l.length c := by simpa using e0
  unfold maxLen at hc2
  have HV := hid hv; have HF := hid hF
  clear hv hF e0
  go_enter Tryz.func91, Tryz.ntmps91
  go_wp2
  go_loopw [8] (fun i wr => IdxRelG p l w i wr) (fun i _ => l.length - (intOf i).toNat)
  case atStart => exact ⟨0, by omega, rfl, by simp, Below.refl _ _⟩
  case round =>
    obtain ⟨k, hk, rfl, hall, hb⟩ := hrel
    have HALL := hid hall; have HB := hid hb
    have hs := hb.size
    clear hall hb
    by_cases hlt : k < l.length
    · obtain ⟨b, off, rfl, hbl, es, hel, hcell, hr⟩ := (hg.stays HV.out HB.out).at_ hlt
      obtain ⟨u, rfl⟩ := List.length_eq_one_iff.1 hel
      have hcell := hcell 0 u rfl
      rw [Nat.mul_one, Nat.add_zero] at hcell
      have hin : l[k] ∈ l := List.getElem_mem hlt
      have e1 := any_take_succ (p := p) hlt
      have e2 := any_of_at (p := p) hlt
      have hr := (good_slice good_int).more hr hs
      generalize l[k] = x at *
      have HC := hid (HF.out x u wr hin hr HB.out)
      have E1 := hid e1; have E2 := hid e2
      clear e1 e2 hr hel hin
      go_wp2_with fail
      rw [hE]
      refine HC.out.mono ?_
      rintro e w1 ⟨rfl, hb1⟩
      have HB1 := hid (HB.out.trans (hb1.mono hs)); clear hb1
      cases hp : p x with
      | false =>
        have HP := hid hp; clear hp
        go_wp2
        go_roundw
        case rel => exact ⟨k + 1, by omega, by go_num, by rw [E1.out, HALL.out, HP.out]; rfl, HB1.out⟩
        case measure => simp [intOf]; omega
      | true =>
        have HP := hid (E2.out hp); clear hp
        go_wp2
        go_ret
        exact ⟨(k : Int), rfl, by rw [HP.out]; simp, HB1.out⟩
    · have hall : l.any p = false := by
        have := HALL.out
        rwa [List.take_of_length_le (by omega)] at this
      have HP := hid hall; clear hall
      go_wp2
      go_ret
      exact ⟨-1, rfl, by rw [HP.out]; decide, HB.out⟩
theorem hasR_any (F : FuncId) (caps : Array Value) (p : (List Int) → Bool) (v : Value) (l : List (List Int)) (w : World) (hv : rdSlice 1 (rdSlice 1 rdInt) w w.heap.size [v] l) (hg : Good (rdSlice 1 (rdSlice 1 rdInt))) (hE : Enters F) (hF : Tells (rdSlice 1 rdInt) F caps p l w) :
    Calls Tryz.prog 61 #[v, .func (Fn.func F) #[] caps] w (Gives (.bool (l.any p)) w) := by
  have HI := hid (idxR_any F caps p v l w hv hg hE hF)
  clear hv hF
  go_enter Tryz.func61, Tryz.ntmps61
  go_wp2_with fail
  refine HI.out.mono ?_
  rintro e w1 ⟨i, rfl, hi, hb⟩
  go_wp2
  go_ret
  exact ⟨rfl, hb⟩
end Go.Proofs.YtgoapnkdcfcjgaaGreat
