/- The walk of NamesOrder. -/
import Derived.Test.YtompjcadhodapabDoorNLives
import Derived.Test.YtompjcadhodapabDoorNFew
namespace Go.Proofs.YtompjcadhodapabDoor
open Go.ChangeShapes Go.WideShapes Go.ChangeAt Go.RowKit
set_option linter.unusedVariables false
set_option linter.unusedSimpArgs false

theorem cmpB (a : Int) (h : a = -1 ∨ a = 0 ∨ a = 1) : IntKind.i64.wrap (-a) = -a := by
  rcases h with rfl | rfl | rfl <;> decide
set_option maxRecDepth 100000 in
set_option maxHeartbeats 3200000 in
theorem walk_NamesOrder (w : World) (hm : MaxL w) (v0 : Value) (p0 : List ByteArray) (h0 : rdStrs w w.heap.size [v0] p0) (v1 : Value) (q0 : List ByteArray) (h1 : rdStrs w w.heap.size [v1] q0) (v2 : Value) (r0 : List ByteArray) (h2 : rdStrs w w.heap.size [v2] r0) :
    Calls Tryd.prog 4 #[v0, v1, v2] w (Gives (.bool true) w) := by
  have HF0 := hid (few6_any v0 p0 w w h0 (Below.refl _ _))
  have HF1 := hid (fun W => few6_any v1 q0 w W h1)
  have HF2 := hid (fun W => few6_any v2 r0 w W h2)
  have l0 := take6 p0; have l1 := take6 q0; have l2 := take6 r0
  generalize p0.take 6 = p at *
  generalize q0.take 6 = q at *
  generalize r0.take 6 = r at *
  have HM := hid hm
  clear hm h0 h1 h2
  go_enter Tryd.func4, Tryd.ntmps4
  go_wp2_with fail
  refine HF0.out.mono ?_
  rintro e w1 ⟨A0, c0, rfl, hr0, hb1⟩
  have B1 := hid hb1; have R0 := hid hr0; clear hb1 hr0
  go_wp2_with fail
  refine (HF1.out _ B1.out).mono ?_
  rintro e w2 ⟨A1, c1, rfl, hr1, hb2⟩
  have B2 := hid hb2; have R1 := hid hr1; clear hb2 hr1
  go_wp2_with fail
  refine (HF2.out _ B2.out).mono ?_
  rintro e w3 ⟨A2, c2, rfl, hr2, hb3⟩
  have B3 := hid hb3; have R2 := hid hr2; clear hb3 hr2
  have HS := hid (sameS_any (.slice A0 p.length c0) (.slice A1 q.length c1) p q w3 (strs_sl (R0.out _ B3.out)).1 (strs_sl (R1.out _ B3.out)).1)
  have K01 := hid (fun W hW => cmp_any (.slice A0 p.length c0) (.slice A1 q.length c1) p q W (R0.out W hW) (R1.out W hW))
  have K10 := hid (fun W hW => cmp_any (.slice A1 q.length c1) (.slice A0 p.length c0) q p W (R1.out W hW) (R0.out W hW))
  have K12 := hid (fun W hW => cmp_any (.slice A1 q.length c1) (.slice A2 r.length c2) q r W (R1.out W hW) (R2.out W hW))
  have K02 := hid (fun W hW => cmp_any (.slice A0 p.length c0) (.slice A2 r.length c2) p r W (R0.out W hW) (R2.out W hW))
  have n1 := cmpS_neg p q
  have n2 : (cmpS p q == 0) = decide (p = q) := by
    rw [Bool.eq_iff_iff, beq_iff_eq, decide_eq_true_iff]; exact cmpS_zero p q
  have n3 := cmpS_trans p q r
  have n4 := cmpS_range q p
  generalize decide (p = q) = dq at *
  generalize cmpS p q = a at *
  generalize cmpS q p = b at *
  generalize cmpS q r = d at *
  generalize cmpS p r = f at *
  generalize p.length = m0 at *
  generalize q.length = m1 at *
  generalize r.length = m2 at *
  have t0 := cmpB b n4
  have t1 : (a != IntKind.i64.wrap (-b)) = false := by rw [t0, n1]; simp
  have t1' : (a != -b) = false := by rw [n1]; simp
  have t2 : ((a == 0) != dq) = false := by rw [n2]; simp
  have N3 := hid n3
  clear n1 n4 n3
  go_wp2_with fail
  refine HS.out.mono ?_
  rintro e w4 ⟨rfl, hq4⟩
  have B4 := hid (B3.out.trans (hq4.below _)); clear hq4
  go_wp2_with fail
  refine (K01.out _ B4.out).mono ?_
  rintro e w5 ⟨rfl, hq5⟩
  have B5 := hid (B4.out.trans (hq5.below _)); clear hq5
  go_wp2_with fail
  refine (K10.out _ B5.out).mono ?_
  rintro e w6 ⟨rfl, hq6⟩
  have B6 := hid (B5.out.trans (hq6.below _)); clear hq6
  go_wp2_with fail
  refine (K01.out _ B6.out).mono ?_
  rintro e w7 ⟨rfl, hq7⟩
  have B7 := hid (B6.out.trans (hq7.below _)); clear hq7
  go_wp2_with fail
  refine (K01.out _ B7.out).mono ?_
  rintro e w8 ⟨rfl, hq8⟩
  have B8 := hid (B7.out.trans (hq8.below _)); clear hq8
  have t3 : (dq != dq) = false := by simp
  by_cases ha : a ≤ 0
  · have u1 : decide (a ≤ 0) = true := decide_eq_true ha
    go_wp2_with fail
    refine (K12.out _ B8.out).mono ?_
    rintro e w81 ⟨rfl, hq81⟩
    have B81 := hid (B8.out.trans (hq81.below _)); clear hq81
    by_cases hd : d ≤ 0
    · have u2 : decide (d ≤ 0) = true := decide_eq_true hd
      have u3 : decide (0 < f) = false := decide_eq_false (by have := N3.out ha hd; omega)
      go_wp2_with fail
      refine (K02.out _ B81.out).mono ?_
      rintro e w82 ⟨rfl, hq82⟩
      have B82 := hid (B81.out.trans (hq82.below _)); clear hq82
      go_wp2_with fail
      refine (lives_true _ (HM.out.on B82.out)).mono ?_
      rintro e w9 ⟨rfl, hb9⟩
      have B9 := hid (B82.out.trans (hb9.mono B82.out.size)); clear hb9
      go_wp2
      go_ret
      exact ⟨rfl, B9.out⟩
    · have u2 : decide (d ≤ 0) = false := decide_eq_false hd
      go_wp2_with fail
      refine (lives_true _ (HM.out.on B81.out)).mono ?_
      rintro e w9 ⟨rfl, hb9⟩
      have B9 := hid (B81.out.trans (hb9.mono B81.out.size)); clear hb9
      go_wp2
      go_ret
      exact ⟨rfl, B9.out⟩
  · have u1 : decide (a ≤ 0) = false := decide_eq_false ha
    go_wp2_with fail
    refine (lives_true _ (HM.out.on B8.out)).mono ?_
    rintro e w9 ⟨rfl, hb9⟩
    have B9 := hid (B8.out.trans (hb9.mono B8.out.size)); clear hb9
    go_wp2
    go_ret
    exact ⟨rfl, B9.out⟩
end Go.Proofs.YtompjcadhodapabDoor
