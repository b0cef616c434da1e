/- The reference's total, Values, Merge. -/
import Derived.Test.YtafmdpnfigkbfaaCellLib
namespace Go.Proofs.Ytafmdpnfigkbfaa
open Go.ChangeShapes Go.WideShapes Go.ChangeAt Go.RowKit
set_option linter.unusedVariables false

def okSum (x : Int) : Bool := decide (-SUM ≤ x ∧ x ≤ SUM)
theorem okSum_iff {x : Int} : okSum x = true ↔ -SUM ≤ x ∧ x ≤ SUM := by unfold okSum; rw [decide_eq_true_eq]
def TotalP (x : Int) (w : World) (e : Ending) (w' : World) : Prop := (∃ y, e = .returned (.tuple #[.int .i64 y, .bool (okSum x)]) ∧ (okSum x = true → y = x)) ∧ Below w.heap.size w w'
set_option maxHeartbeats 800000 in
theorem total_any (v : Value) (l : List Int) (w : World) (hl : l.length ≤ 1073741824) (hv : Sl w w.heap.size v (ivals l)) (h1 : -604462909807314587353088 ≤ l.sum) (h2 : l.sum < 604462909807314587353088) :
    Calls Try.prog 33 #[v] w (TotalP l.sum w) := by
  have HT := hid (refTotal_any v l w hl hv); clear hv
  obtain ⟨z, hz⟩ : ∃ z, z = l.sum := ⟨_, rfl⟩
  rw [← hz] at h1 h2 ⊢
  have HZ := hid hz; clear hz
  have H1 := hid h1; have H2 := hid h2; clear h1 h2
  go_enter Try.func33, Try.ntmps33
  go_wp2_with fail
  refine HT.out.mono ?_
  rintro e w1 ⟨v1, rfl, hs1, hb1⟩
  rw [← HZ.out] at hs1
  have HI := hid (refInt_any v1 z w1 hs1 H1.out H2.out)
  have HB := hid hb1
  clear hs1 hb1
  cases hf : FitsI z
  · have hno : okSum z = false := by
      rw [Bool.eq_false_iff]; intro h
      have := okSum_iff.1 h
      unfold SUM at this
      unfold FitsI at hf
      rw [decide_eq_false_iff_not] at hf
      omega
    rw [show RefIntPost z w1 = fun e w' => e = .returned (.tuple #[.int .i64 0, .int .i64 14]) ∧ Qu w1 w' by unfold RefIntPost; rw [hf]; rfl] at HI
    have HN := hid hno; clear hno hf
    go_wp2_with fail
    refine HI.out.mono ?_
    rintro e w2 ⟨rfl, hq⟩
    go_wp2
    go_ret2
    exact ⟨⟨0, by rw [HN.out]; rfl, fun h => by rw [HN.out] at h; cases h⟩, HB.out.trans (hq.below _)⟩
  · have hin : inB z 4611686018427387904 = okSum z := by
      rw [Bool.eq_iff_iff, inB_iff, okSum_iff]; exact Iff.rfl
    rw [show RefIntPost z w1 = fun e w' => e = .returned (.tuple #[.int .i64 z, .int .i64 0]) ∧ Qu w1 w' by unfold RefIntPost; rw [hf]; rfl] at HI
    have HC := hid (fun w => refInC_any z 4611686018427387904 w (by omega) (by omega))
    rw [hin] at HC
    clear hin hf
    go_wp2_with fail
    refine HI.out.mono ?_
    rintro e w2 ⟨rfl, hq⟩
    go_wp2_with fail
    refine (HC.out _).mono ?_
    rintro e w3 ⟨rfl, hq3⟩
    go_wp2
    go_ret2
    exact ⟨⟨z, rfl, fun _ => rfl⟩, (HB.out.trans (hq.below _)).trans (hq3.below _)⟩
set_option maxHeartbeats 800000 in
theorem values_any (m : Int) (v : Value) (l : List Int) (w : World) (B : Nat) (hv : Sl w B v (ivals l)) :
    Calls Try.prog 32 #[.int .i64 m, v] w (Stays (.bool (valsB m l)) w) := by
  obtain ⟨A1, c1, rfl, hc1, hm1⟩ := hv.formI
  unfold maxLen at hm1
  have S1 := hid hv; clear hv
  go_enter Try.func32, Try.ntmps32
  by_cases hl : (l.length : Int) = m
  · have hval : valsB m l = l.all (fun x => inB x VAL) := by unfold valsB; rw [decide_eq_true hl, Bool.true_and]
    rw [hval]
    have u0 : ((l.length : Int) != m) = false := by simp [hl]
    clear hl hval
    go_wp2
    go_loopw [5] (fun i wr => AllRel l w i wr) (fun i _ => l.length - (intOf i).toNat)
    case atStart => exact ⟨0, by omega, rfl, by simp, Qu.refl _⟩
    case round =>
      obtain ⟨k, hk, rfl, hall, hq⟩ := hrel
      have HA := hid hall; clear hall
      by_cases hlt : k < l.length
      · obtain ⟨b1, o1, rfl, hb1, hx1⟩ := S1.out.int hlt
        have g1 : wr.cell? ⟨b1, o1 + k, none⟩ = _ := (hq.cell _).trans hx1
        clear hx1
        have hm := getD_mem hlt
        have hn := all_take_succ HA.out hlt
        generalize l.getD k 0 = x at *
        have HM := hid hm; have HN := hid hn; clear hm hn
        have hf := fun w => refInC_any x 2305843009213693952 w (by omega) (by omega)
        cases hb : inB x 2305843009213693952
        · rw [hb] at hf
          have HF := hid hf; have HB := hid hb; clear hf hb
          go_wp2_with fail
          refine (HF.out _).mono ?_
          rintro e w1 ⟨rfl, hq1⟩
          go_wp2
          go_ret
          refine ⟨ret_bool ?_, hq.trans hq1⟩
          symm
          rw [← Bool.not_eq_true, List.all_eq_true]
          intro h
          have := h x HM.out
          rw [show inB x VAL = inB x 2305843009213693952 from rfl, HB.out] at this
          cases this
        · rw [hb] at hf
          have HF := hid hf; have HB := hid hb; clear hf hb
          go_wp2_with fail
          refine (HF.out _).mono ?_
          rintro e w1 ⟨rfl, hq1⟩
          go_wp2
          go_roundw
          case rel => exact ⟨k + 1, by omega, by go_num, HN.out HB.out, hq.trans hq1⟩
          case measure => simp [intOf]; omega
      · have := HA.out
        rw [List.take_of_length_le (by omega)] at this
        have HT := hid this; clear this
        go_wp2
        go_ret
        exact ⟨ret_bool (List.all_eq_true.2 (by simpa using HT.out)).symm, hq⟩
  · have hval : valsB m l = false := by unfold valsB; rw [decide_eq_false hl, Bool.false_and]
    have u0 : ((l.length : Int) != m) = true := by simpa using hl
    have HV := hid hval
    clear hl hval
    go_wp2
    go_ret
    exact ⟨ret_bool HV.out.symm, Qu.refl _⟩
end Go.Proofs.Ytafmdpnfigkbfaa
