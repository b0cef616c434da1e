/- The walk of NamesRound. -/
import Derived.Test.YtompjcadhodapabDoorNLives
import Derived.Test.YtompjcadhodapabDoorNFew
namespace Go.Proofs.YtompjcadhodapabDoor
open Go.ChangeShapes Go.WideShapes Go.ChangeAt Go.RowKit
set_option linter.unusedVariables false
set_option linter.unusedSimpArgs false

theorem textR_cases (q : List ByteArray) : (mayB q = true ∧ textR q = (textB q, 0)) ∨ textR q = (⟨#[]⟩, 10) := by
  unfold textR
  cases h : mayB q
  · right; rfl
  · left; exact ⟨rfl, rfl⟩
set_option maxRecDepth 100000 in
set_option maxHeartbeats 1600000 in
theorem walk_NamesRound (w : World) (hm : MaxL w) (v : Value) (p : List ByteArray) (hv : rdStrs w w.heap.size [v] p) :
    Calls Tryd.prog 3 #[v] w (Gives (.bool true) w) := by
  have HF := hid (fewN_any v p w hv)
  have hl := take6 p
  generalize p.take 6 = q at *
  have HM := hid hm
  clear hm hv
  go_enter Tryd.func3, Tryd.ntmps3
  go_wp2_with fail
  refine HF.out.mono ?_
  rintro e w1 ⟨A, c, rfl, hr, hq1⟩
  have B1 := hid (hq1.below w.heap.size)
  have HR := hid (fun W (hb : Below w.heap.size w1 W) => good_strs.more (good_strs.stays (hr _ (Nat.le_refl _)) hb) (show w.heap.size ≤ W.heap.size by have := hb.size; have := hq1.size; omega))
  clear hr hq1
  have HTX := hid (text_any (.slice A q.length c) q w1 (strs_sl (HR.out w1 (Below.refl _ _))).1 (strs_sl (HR.out w1 (Below.refl _ _))).2 (by omega))
  rcases textR_cases q with ⟨hmb, ht⟩ | ht
  · rw [ht] at HTX
    unfold GivesT at HTX
    have hsz := textB_size hmb
    have HPA := hid (fun W hm => by
      have := path_any (textB q) W (by omega) hm
      rwa [pathR_text hmb] at this)
    have HSM := hid (fun x W hx (hb : Below w.heap.size w1 W) => by
      have := sameS_any (.slice A q.length c) x q q W (strs_sl (HR.out W hb)).1 hx
      rwa [decide_eq_true rfl] at this)
    unfold PathPost at HPA
    simp only at HPA
    generalize textB q = t at *
    clear hmb ht hsz
    go_wp2_with fail
    refine HTX.out.mono ?_
    rintro e w2 ⟨rfl, hb2⟩
    have C2 := hid ((Below.refl w.heap.size w1).trans (hb2.mono B1.out.size)); clear hb2
    have B2 := hid (B1.out.trans C2.out)
    go_wp2_with fail
    refine (HPA.out _ (HM.out.on B2.out)).mono ?_
    rintro e w3 ⟨x, rfl, ho, hb3⟩
    have C3 := hid (C2.out.trans (hb3.mono B2.out.size)); clear hb3
    have HS := hid (HSM.out _ _ (Sl.of_own ho) C3.out)
    clear ho
    have B3 := hid (B1.out.trans C3.out)
    go_wp2_with fail
    refine HS.out.mono ?_
    rintro e w4 ⟨rfl, hq4⟩
    have B4 := hid (B3.out.trans (hq4.below _)); clear hq4
    go_wp2_with fail
    refine (lives_true _ (HM.out.on B4.out)).mono ?_
    rintro e w5 ⟨rfl, hb5⟩
    have B5 := hid (B4.out.trans (hb5.mono B4.out.size)); clear hb5
    go_wp2
    go_ret
    exact ⟨rfl, B5.out⟩
  · rw [ht] at HTX
    unfold GivesT at HTX
    clear ht
    generalize q.length = n at *
    go_wp2_with fail
    refine HTX.out.mono ?_
    rintro e w2 ⟨rfl, hb2⟩
    have B2 := hid (B1.out.trans (hb2.mono B1.out.size)); clear hb2
    go_wp2_with fail
    refine (lives_true _ (HM.out.on B2.out)).mono ?_
    rintro e w5 ⟨rfl, hb5⟩
    have B5 := hid (B2.out.trans (hb5.mono B2.out.size)); clear hb5
    go_wp2
    go_ret
    exact ⟨rfl, B5.out⟩
end Go.Proofs.YtompjcadhodapabDoor
