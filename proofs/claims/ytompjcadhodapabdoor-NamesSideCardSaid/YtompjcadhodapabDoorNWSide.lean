/- The walk of NamesSide. -/
import Derived.Test.YtompjcadhodapabDoorNLives
import Derived.Test.YtompjcadhodapabDoorNFew
namespace Go.Proofs.YtompjcadhodapabDoor
open Go.ChangeShapes Go.WideShapes Go.ChangeAt Go.RowKit
set_option linter.unusedVariables false
set_option linter.unusedSimpArgs false

set_option maxRecDepth 100000 in
set_option maxHeartbeats 3200000 in
theorem walk_NamesSide (w : World) (hm : MaxL w) (v3 : Value) (t0 : List ByteArray) (h3 : rdStrs w w.heap.size [v3] t0) (v0 : Value) (p0 : List ByteArray) (h0 : rdStrs w w.heap.size [v0] p0) (v1 : Value) (q0 : List ByteArray) (h1 : rdStrs w w.heap.size [v1] q0) (v2 : Value) (r0 : List ByteArray) (h2 : rdStrs w w.heap.size [v2] r0) :
    Calls Tryd.prog 5 #[v3, v0, v1, v2] w (Gives (.bool true) w) := by
  have HF3 := hid (few6_any v3 t0 w w h3 (Below.refl _ _))
  have HF0 := hid (fun W => few6_any v0 p0 w W h0)
  have HF1 := hid (fun W => few6_any v1 q0 w W h1)
  have HF2 := hid (fun W => few6_any v2 r0 w W h2)
  generalize t0.take 6 = t at *
  generalize p0.take 6 = p at *
  generalize q0.take 6 = q at *
  generalize r0.take 6 = r at *
  have HM := hid hm
  clear hm h0 h1 h2 h3
  go_enter Tryd.func5, Tryd.ntmps5
  go_wp2_with fail
  refine HF3.out.mono ?_
  rintro e w1 ⟨A3, c3, rfl, hr3, hb1⟩
  have B1 := hid hb1; have R3 := hid hr3; clear hb1 hr3
  go_wp2_with fail
  refine (HF0.out _ B1.out).mono ?_
  rintro e w2 ⟨A0, c0, rfl, hr0, hb2⟩
  have B2 := hid hb2; have R0 := hid hr0; clear hb2 hr0
  go_wp2_with fail
  refine (HF1.out _ B2.out).mono ?_
  rintro e w3 ⟨A1, c1, rfl, hr1, hb3⟩
  have B3 := hid hb3; have R1 := hid hr1; clear hb3 hr1
  go_wp2_with fail
  refine (HF2.out _ B3.out).mono ?_
  rintro e w4 ⟨A2, c2, rfl, hr2, hb4⟩
  have B4 := hid hb4; have R2 := hid hr2; clear hb4 hr2
  have U0 := hid (fun W hW => under_any (.slice A0 p.length c0) (.slice A3 t.length c3) p t W (R0.out W hW) (R3.out W hW))
  have U1 := hid (fun W hW => under_any (.slice A1 q.length c1) (.slice A3 t.length c3) q t W (R1.out W hW) (R3.out W hW))
  have U2 := hid (fun W hW => under_any (.slice A2 r.length c2) (.slice A3 t.length c3) r t W (R2.out W hW) (R3.out W hW))
  have K01 := hid (fun W hW => cmp_any (.slice A0 p.length c0) (.slice A1 q.length c1) p q W (R0.out W hW) (R1.out W hW))
  have K12 := hid (fun W hW => cmp_any (.slice A1 q.length c1) (.slice A2 r.length c2) q r W (R1.out W hW) (R2.out W hW))
  have NB := hid (under_between t p q r)
  generalize underB p t = b0 at *
  generalize underB q t = b1 at *
  generalize underB r t = b2 at *
  generalize cmpS p q = a at *
  generalize cmpS q r = d at *
  generalize p.length = m0 at *
  generalize q.length = m1 at *
  generalize r.length = m2 at *
  generalize t.length = m3 at *
  go_wp2_with fail
  refine (U0.out _ B4.out).mono ?_
  rintro e w5 ⟨rfl, hq5⟩
  have B5 := hid (B4.out.trans (hq5.below _)); clear hq5
  cases b0
  · go_wp2_with fail
    refine (lives_true _ (HM.out.on B5.out)).mono ?_
    rintro e w9 ⟨rfl, hb9⟩
    have B9 := hid (B5.out.trans (hb9.mono B5.out.size)); clear hb9
    go_wp2
    go_ret
    exact ⟨rfl, B9.out⟩
  · go_wp2_with fail
    refine (U2.out _ B5.out).mono ?_
    rintro e w6 ⟨rfl, hq6⟩
    have B6 := hid (B5.out.trans (hq6.below _)); clear hq6
    cases b2
    · go_wp2_with fail
      refine (lives_true _ (HM.out.on B6.out)).mono ?_
      rintro e w9 ⟨rfl, hb9⟩
      have B9 := hid (B6.out.trans (hb9.mono B6.out.size)); clear hb9
      go_wp2
      go_ret
      exact ⟨rfl, B9.out⟩
    · go_wp2_with fail
      refine (K01.out _ B6.out).mono ?_
      rintro e w7 ⟨rfl, hq7⟩
      have B7 := hid (B6.out.trans (hq7.below _)); clear hq7
      by_cases ha : a ≤ 0
      · have u1 : decide (a ≤ 0) = true := decide_eq_true ha
        go_wp2_with fail
        refine (K12.out _ B7.out).mono ?_
        rintro e w8 ⟨rfl, hq8⟩
        have B8 := hid (B7.out.trans (hq8.below _)); clear hq8
        by_cases hd : d ≤ 0
        · have u2 : decide (d ≤ 0) = true := decide_eq_true hd
          have hb1 : b1 = true := NB.out (by simp) (by simp) ha hd
          subst hb1
          go_wp2_with fail
          refine (U1.out _ B8.out).mono ?_
          rintro e w81 ⟨rfl, hq81⟩
          have B81 := hid (B8.out.trans (hq81.below _)); clear hq81
          go_wp2_with fail
          refine (lives_true _ (HM.out.on B81.out)).mono ?_
          rintro e w9 ⟨rfl, hb9⟩
          have B9 := hid (B81.out.trans (hb9.mono B81.out.size)); clear hb9
          go_wp2
          go_ret
          exact ⟨rfl, B9.out⟩
        · have u2 : decide (d ≤ 0) = false := decide_eq_false hd
          go_wp2_with fail
          refine (lives_true _ (HM.out.on B8.out)).mono ?_
          rintro e w9 ⟨rfl, hb9⟩
          have B9 := hid (B8.out.trans (hb9.mono B8.out.size)); clear hb9
          go_wp2
          go_ret
          exact ⟨rfl, B9.out⟩
      · have u1 : decide (a ≤ 0) = false := decide_eq_false ha
        go_wp2_with fail
        refine (lives_true _ (HM.out.on B7.out)).mono ?_
        rintro e w9 ⟨rfl, hb9⟩
        have B9 := hid (B7.out.trans (hb9.mono B7.out.size)); clear hb9
        go_wp2
        go_ret
        exact ⟨rfl, B9.out⟩
end Go.Proofs.YtompjcadhodapabDoor
