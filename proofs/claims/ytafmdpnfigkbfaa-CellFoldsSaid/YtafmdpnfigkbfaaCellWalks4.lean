/- The walk of CellFolds. -/
import Derived.Test.YtafmdpnfigkbfaaCellWalks3
import Derived.Test.YtafmdpnfigkbfaaCellRefF
namespace Go.Proofs.Ytafmdpnfigkbfaa
open Go.ChangeShapes Go.WideShapes Go.ChangeAt Go.RowKit
set_option linter.unusedVariables false
set_option linter.unusedSimpArgs false

set_option maxRecDepth 100000 in
set_option maxHeartbeats 1600000 in
theorem walk_CellFolds (w : World) (m : Int) (hm : -9223372036854775808 ≤ m ∧ m ≤ 9223372036854775807) (v : Value) (l : List (List Int)) (hl : rdSlice 1 (rdSlice 1 rdInt) w w.heap.size [v] l) :
    Calls Try.prog 3 #[.int .i64 m, v] w (Gives (.bool true) w) := by
  have HFW := hid (few_any 60 v l w (rdRows hl) (by omega))
  have hL := fewL_len 60 l
  generalize fewL 60 l = L at *
  clear hl
  have HM := hid (fun v W (h : RowsI W W.heap.size v L) => (fold_any m v L W h (by omega)).mono fun _ _ hp => MOwnPost.lit hp)
  have HR := hid (fun v W (h : RowsI W W.heap.size v L) => (refFold_any m v L W h (by omega)).mono fun _ _ hp => MergePost.lit hp)
  generalize foldC m L = r at *
  obtain ⟨⟨n, s, lo, hi⟩, rk⟩ := r
  have HS := hid (fun v x W => refSameC_any v x ⟨n, s, lo, hi⟩ ⟨n, s, lo, hi⟩ W)
  rw [decide_eq_true (show (⟨n, s, lo, hi⟩ : CellM) = ⟨n, s, lo, hi⟩ from rfl)] at HS
  simp only at HM HR
  go_enter Try.func3, Try.ntmps3
  go_wp2_with fail
  refine HFW.out.mono ?_
  rintro e w0 ⟨v1, rfl, hr0, hb0⟩
  have s0 := hb0.size
  have HR0 := hid hr0; have HB0 := hid hb0
  clear hr0 hb0
  go_wp2_with fail
  refine (HM.out _ _ HR0.out).mono ?_
  rintro e w1 ⟨B1, b1, B2, b2, B3, b3, rfl, hr1, hb1⟩
  have q1 : Below w0.heap.size w0 w1 := hb1
  have s1 := q1.size
  have HR1 := hid hr1; have Q1 := hid q1
  clear hb1 hr1 q1
  go_wp2_with fail
  refine (HR.out _ _ ((HR0.out.below (Q1.out.trans ((bl1 w1 _).mono s1))).more (by simp; omega))).mono ?_
  rintro e w2 ⟨D1, e1, D2, e2, D3, e3, rfl, hr2, hb2⟩
  have q2 : Below w1.heap.size w1 w2 := (by refine Below.trans ?_ (Below.mono hb2 ?_) <;> first | exact (by repeat' first | with_reducible exact Below.refl _ _ | assumption | (with_reducible refine Below.alloc ?_ ?_ _) | (with_reducible refine Below.setCell ?_ ?_ _) | (with_reducible refine Below.drew ?_) | (with_reducible refine below_drewN ?_ _) | (with_reducible refine Below.trans ?_ (Below.mono ‹_› ?_)) | omega | (with_reducible refine le_alloc ?_) | (with_reducible refine le_setCell ?_) | (with_reducible refine le_drew ?_) | (with_reducible refine le_drewN ?_) | (with_reducible refine Nat.le_trans ?_ (Below.size ‹_›)) | (simp <;> omega)))
  have s2 := q2.size
  have z2 : w1.heap.size < w2.heap.size := by have := hb2.size; simp at this; omega
  obtain ⟨m0, m1, m2, m3, -, -, -, -⟩ : Blk (w2.alloc (.cells #[.int .i64 n, .slice D1 s.length e1, .slice D2 lo.length e2, .slice D3 hi.length e3] 26)) w1.heap.size (.int .i64 n) (.slice B1 s.length b1) (.slice B2 lo.length b2) (.slice B3 hi.length b3) := (Blk.below (by constructor <;> simp [go_sem]) hb2 (by simp <;> omega)).alloc (by omega) _
  have HR2 := hid hr2
  clear hb2 hr2
  go_wp2_with fail
  refine (HS.out _ _ _ ((HR1.out.below (q2.trans ((bl1 w2 _).mono s2))).more (by simp; omega)) ((HR2.out.below (bl1 w2 _)).more (by simp))).mono ?_
  rintro e w3 ⟨rfl, hb3⟩
  have q3 : Below w2.heap.size w2 w3 := (by refine Below.trans ?_ (Below.mono hb3 ?_) <;> first | exact (by repeat' first | with_reducible exact Below.refl _ _ | assumption | (with_reducible refine Below.alloc ?_ ?_ _) | (with_reducible refine Below.setCell ?_ ?_ _) | (with_reducible refine Below.drew ?_) | (with_reducible refine below_drewN ?_ _) | (with_reducible refine Below.trans ?_ (Below.mono ‹_› ?_)) | omega | (with_reducible refine le_alloc ?_) | (with_reducible refine le_setCell ?_) | (with_reducible refine le_drew ?_) | (with_reducible refine le_drewN ?_) | (with_reducible refine Nat.le_trans ?_ (Below.size ‹_›)) | (simp <;> omega)))
  have s3 := q3.size
  clear hb3
  go_wp2_with fail
  refine (lives_true _).mono ?_
  rintro e w4 ⟨rfl, hb4⟩
  go_wp2
  go_ret
  exact ⟨rfl, (HB0.out.trans ((Q1.out.trans (q2.mono s1)).mono s0)).trans ((q3.mono (by omega)).trans (hb4.mono (by omega)))⟩
end Go.Proofs.Ytafmdpnfigkbfaa
