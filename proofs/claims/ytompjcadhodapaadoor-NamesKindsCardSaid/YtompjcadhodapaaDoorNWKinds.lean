/- The walk of NamesKinds. -/
import Derived.Test.YtompjcadhodapaaDoorNLives
import Derived.Test.YtompjcadhodapaaDoorNFew
namespace Go.Proofs.YtompjcadhodapaaDoor
open Go.ChangeShapes Go.WideShapes Go.ChangeAt Go.RowKit
set_option linter.unusedVariables false
set_option linter.unusedSimpArgs false

set_option maxRecDepth 100000 in
set_option maxHeartbeats 1600000 in
theorem walk_NamesKinds (w : World) (hm : MaxL w) (s : ByteArray) (hz : s.size ≤ maxLen) (v : Value) (p : List ByteArray) (hv : rdStrs w w.heap.size [v] p) :
    Calls Tryd.prog 5 #[.string s, v] w (Gives (.bool true) w) := by
  have HF := hid (fewN_any v p w hv)
  have hl := take6 p
  generalize p.take 6 = q at *
  have hz' : s.size ≤ 9223372036854775807 := by unfold maxLen at hz; omega
  have HN := hid (fun W => name_any s W hz')
  have HRN := hid (fun W => refName_any s W)
  have HM := hid hm
  clear hm hv hz hz'
  generalize nameB s = b at *
  have hbb : (b == b) = true := by simp
  go_enter Tryd.func5, Tryd.ntmps5
  go_wp2_with fail
  refine HF.out.mono ?_
  rintro e w1 ⟨A, c, rfl, hr, hq1⟩
  have B1 := hid (hq1.below w.heap.size)
  have HR := hid (fun W (hb : Below w.heap.size w1 W) => good_strs.more (good_strs.stays (hr _ (Nat.le_refl _)) hb) (show w.heap.size ≤ W.heap.size by have := hb.size; have := hq1.size; omega))
  clear hr hq1
  have HTX := hid (fun W hW => text_any (.slice A q.length c) q W (strs_sl (HR.out W hW)).1 (strs_sl (HR.out W hW)).2 (by omega))
  have HRT := hid (fun W hW => refText_any (.slice A q.length c) q W (strs_sl (HR.out W hW)).1)
  have HMY := hid (fun W hW => mayN_any (.slice A q.length c) q W (strs_sl (HR.out W hW)).1 (strs_sl (HR.out W hW)).2 (by omega))
  have HRM := hid (fun W hW => refMayN_any (.slice A q.length c) q W (strs_sl (HR.out W hW)).1)
  generalize q.length = n at *
  generalize mayB q = bm at *
  have hbm : (bm == bm) = true := by simp
  generalize textR q = tr at *
  obtain ⟨t, te⟩ := tr
  unfold GivesT at HTX HRT
  have htt : (t.toList == t.toList) = true := by simp
  have hee : (te == te) = true := by simp
  have C1 := hid (Below.refl w.heap.size w1)
  go_wp2_with fail
  refine (HTX.out _ C1.out).mono ?_
  rintro e w2 ⟨rfl, hb2⟩
  have C2 := hid (C1.out.trans (hb2.mono B1.out.size)); clear hb2
  go_wp2_with fail
  refine (HRT.out _ C2.out).mono ?_
  rintro e w3 ⟨rfl, hb3⟩
  have C3 := hid (C2.out.trans (hb3.mono (Nat.le_trans B1.out.size C2.out.size))); clear hb3
  go_wp2_with fail
  refine (HN.out _).mono ?_
  rintro e w4 ⟨rfl, hb4⟩
  have C4 := hid (C3.out.trans (hb4.mono (Nat.le_trans B1.out.size C3.out.size))); clear hb4
  go_wp2_with fail
  refine (HRN.out _).mono ?_
  rintro e w5 ⟨rfl, hq5⟩
  have C5 := hid (C4.out.trans (hq5.below _)); clear hq5
  go_wp2_with fail
  refine (HMY.out _ C5.out).mono ?_
  rintro e w6 ⟨rfl, hb6⟩
  have C6 := hid (C5.out.trans (hb6.mono (Nat.le_trans B1.out.size C5.out.size))); clear hb6
  go_wp2_with fail
  refine (HRM.out _ C6.out).mono ?_
  rintro e w7 ⟨rfl, hq7⟩
  have C7 := hid (B1.out.trans (C6.out.trans (hq7.below _))); clear hq7
  go_wp2_with fail
  refine (lives_true _ (HM.out.on C7.out)).mono ?_
  rintro e w8 ⟨rfl, hb8⟩
  have C8 := hid (C7.out.trans (hb8.mono C7.out.size)); clear hb8
  go_wp2
  go_ret
  exact ⟨rfl, C8.out⟩
end Go.Proofs.YtompjcadhodapaaDoor
