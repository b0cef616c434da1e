/- The walk of NamesCompares. -/
import Derived.Test.YtompjcadhodapabDoorNLives
import Derived.Test.YtompjcadhodapabDoorNFew
import Derived.Test.YtompjcadhodapabDoorCmpRef
import Derived.Test.YtompjcadhodapabDoorQry1
import Derived.Test.YtompjcadhodapabDoorUpRef
namespace Go.Proofs.YtompjcadhodapabDoor
open Go.ChangeShapes Go.WideShapes Go.ChangeAt Go.RowKit
set_option linter.unusedVariables false
set_option linter.unusedSimpArgs false

set_option maxRecDepth 100000 in
set_option maxHeartbeats 3200000 in
theorem walk_NamesCompares (w : World) (hm : MaxL w) (v0 : Value) (p0 : List ByteArray) (h0 : rdStrs w w.heap.size [v0] p0) (v1 : Value) (q0 : List ByteArray) (h1 : rdStrs w w.heap.size [v1] q0) (n : Int) (hn : InI64 n) :
    Calls Tryd.prog 6 #[v0, v1, .int .i64 n] w (Gives (.bool true) w) := by
  have HF0 := hid (few6_any v0 p0 w w h0 (Below.refl _ _))
  have HF1 := hid (fun W => few6_any v1 q0 w W h1)
  have l0 := take6 p0
  generalize p0.take 6 = p at *
  generalize q0.take 6 = q at *
  have HM := hid hm
  clear hm h0 h1
  go_enter Tryd.func6, Tryd.ntmps6
  go_wp2_with fail
  refine HF0.out.mono ?_
  rintro e w1 ⟨A0, c0, rfl, hr0, hb1⟩
  have B1 := hid hb1; have R0 := hid hr0; clear hb1 hr0
  go_wp2_with fail
  refine (HF1.out _ B1.out).mono ?_
  rintro e w2 ⟨A1, c1, rfl, hr1, hb2⟩
  have B2 := hid hb2; have R1 := hid hr1; clear hb2 hr1
  have HU := hid (fun W hW => up_any (.slice A0 p.length c0) n p W (R0.out W hW) (by omega))
  have HUR := hid (fun W hW => refUp_any (.slice A0 p.length c0) n p W (R0.out W hW) (by omega))
  have HC := hid (fun W hW => cmp_any (.slice A0 p.length c0) (.slice A1 q.length c1) p q W (R0.out W hW) (R1.out W hW))
  have HCR := hid (fun W hW => refCmp_any (.slice A0 p.length c0) (.slice A1 q.length c1) p q W (R0.out W hW) (R1.out W hW))
  have HN := hid (fun W hW => under_any (.slice A0 p.length c0) (.slice A1 q.length c1) p q W (R0.out W hW) (R1.out W hW))
  have HNR := hid (fun W hW => refUnder_any (.slice A0 p.length c0) (.slice A1 q.length c1) p q W (R0.out W hW) (R1.out W hW))
  generalize cmpS p q = a at *
  generalize underB p q = b at *
  generalize upS p n = u at *
  generalize p.length = m0 at *
  generalize q.length = m1 at *
  have t0 : (a == a) = true := by simp
  have t1 : (b == b) = true := by simp
  go_wp2_with fail
  refine (HU.out _ B2.out).mono ?_
  rintro e w3 ⟨r3, rfl, ho3, hb3⟩
  have B3 := hid (B2.out.trans (hb3.mono B2.out.size)); have O3 := hid ho3; clear hb3 ho3
  go_wp2_with fail
  refine (HUR.out _ B3.out).mono ?_
  rintro e w4 ⟨r4, rfl, ho4, hb4⟩
  have B4 := hid (B3.out.trans (hb4.mono B3.out.size))
  have HS := hid (sameS_any r3 r4 u u w4 (Sl.of_own (own_kept O3.out (fun g hg => hb4.block g (O3.out.lt g hg).2))) (Sl.of_own ho4))
  rw [decide_eq_true rfl] at HS
  clear hb4 ho4
  go_wp2_with fail
  refine HS.out.mono ?_
  rintro e w5 ⟨rfl, hq5⟩
  have B5 := hid (B4.out.trans (hq5.below _)); clear hq5
  go_wp2_with fail
  refine (HC.out _ B5.out).mono ?_
  rintro e w6 ⟨rfl, hq6⟩
  have B6 := hid (B5.out.trans (hq6.below _)); clear hq6
  go_wp2_with fail
  refine (HCR.out _ B6.out).mono ?_
  rintro e w7 ⟨rfl, hq7⟩
  have B7 := hid (B6.out.trans (hq7.below _)); clear hq7
  go_wp2_with fail
  refine (HN.out _ B7.out).mono ?_
  rintro e w8 ⟨rfl, hq8⟩
  have B8 := hid (B7.out.trans (hq8.below _)); clear hq8
  go_wp2_with fail
  refine (HNR.out _ B8.out).mono ?_
  rintro e w9 ⟨rfl, hq9⟩
  have B9 := hid (B8.out.trans (hq9.below _)); clear hq9
  go_wp2_with fail
  refine (lives_true _ (HM.out.on B9.out)).mono ?_
  rintro e wa ⟨rfl, hba⟩
  have BA := hid (B9.out.trans (hba.mono B9.out.size)); clear hba
  go_wp2
  go_ret
  exact ⟨rfl, BA.out⟩
end Go.Proofs.YtompjcadhodapabDoor
