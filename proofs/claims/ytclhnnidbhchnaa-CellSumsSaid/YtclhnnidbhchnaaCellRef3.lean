/- The reference's total, Values, Merge. -/
import Derived.Test.YtclhnnidbhchnaaCellLib
namespace Go.Proofs.Ytclhnnidbhchnaa
open Go.ChangeShapes Go.WideShapes Go.ChangeAt Go.RowKit
set_option linter.unusedVariables false

def okSum (x : Int) : Bool := decide (-SUM ≤ x ∧ x ≤ SUM)
theorem okSum_iff {x : Int} : okSum x = true ↔ -SUM ≤ x ∧ x ≤ SUM := by unfold okSum; rw [decide_eq_true_eq]
def TotalP (x : Int) (w : World) (e : Ending) (w' : World) : Prop := (∃ y, e = .returned (.tuple #[.int .i64 y, .bool (okSum x)]) ∧ (okSum x = true → y = x)) ∧ Below w.heap.size w w'
set_option maxRecDepth 100000 in
set_option maxHeartbeats 800000 in
theorem total_any (v : Value) (l : List Int) (w : World) (hl : l.length ≤ 1073741824) (hv : Sl w w.heap.size v (ivals l)) (h1 : -604462909807314587353088 ≤ l.sum) (h2 : l.sum < 604462909807314587353088) :
    Calls Try.prog 48 #[v] w (TotalP l.sum w) := by
  have HT := hid (refTotal_any v l w hl hv); clear hv
  obtain ⟨z, hz⟩ : ∃ z, z = l.sum := ⟨_, rfl⟩
  rw [← hz] at h1 h2 ⊢
  have HZ := hid hz; clear hz
  have H1 := hid h1; have H2 := hid h2; clear h1 h2
  go_enter Try.func48, Try.ntmps48
  go_wp2_with fail
  refine HT.out.mono ?_
  rintro e w1 ⟨v1, rfl, hs1, hb1⟩
  rw [← HZ.out] at hs1
  have HI := hid (refInt_any v1 z w1 hs1 H1.out H2.out)
  have HB := hid hb1
  clear hs1 hb1
  cases hf : FitsI z
  · have hno : okSum z = false := by
      rw [Bool.eq_false_iff]; intro h
      have := okSum_iff.1 h
      unfold SUM at this
      unfold FitsI at hf
      rw [decide_eq_false_iff_not] at hf
      omega
    rw [show RefIntPost z w1 = fun e w' => e = .returned (.tuple #[.int .i64 0, .int .i64 14]) ∧ Qu w1 w' by unfold RefIntPost; rw [hf]; rfl] at HI
    have HN := hid hno; clear hno hf
    go_wp2_with fail
    refine HI.out.mono ?_
    rintro e w2 ⟨rfl, hq⟩
    go_wp2
    go_ret2
    exact ⟨⟨0, by rw [HN.out]; rfl, fun h => by rw [HN.out] at h; cases h⟩, HB.out.trans (hq.below _)⟩
  · have hin : inB z 4611686018427387904 = okSum z := by
      rw [Bool.eq_iff_iff, inB_iff, okSum_iff]; exact Iff.rfl
    rw [show RefIntPost z w1 = fun e w' => e = .returned (.tuple #[.int .i64 z, .int .i64 0]) ∧ Qu w1 w' by unfold RefIntPost; rw [hf]; rfl] at HI
    have HC := hid (fun w => refInC_any z 4611686018427387904 w (by omega) (by omega))
    rw [hin] at HC
    clear hin hf
    go_wp2_with fail
    refine HI.out.mono ?_
    rintro e w2 ⟨rfl, hq⟩
    go_wp2_with fail
    refine (HC.out _).mono ?_
    rintro e w3 ⟨rfl, hq3⟩
    go_wp2
    go_ret2
    exact ⟨⟨z, rfl, fun _ => rfl⟩, (HB.out.trans (hq.below _)).trans (hq3.below _)⟩
end Go.Proofs.Ytclhnnidbhchnaa
