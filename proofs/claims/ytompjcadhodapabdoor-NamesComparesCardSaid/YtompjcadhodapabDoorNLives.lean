/- The laws' lives (layer 6): the document's examples. -/
import Derived.Test.YtompjcadhodapabDoorLitS
import Derived.Test.YtompjcadhodapabDoorPath
import Derived.Test.YtompjcadhodapabDoorCmp
import Derived.Test.YtompjcadhodapabDoorUnder
namespace Go.Proofs.YtompjcadhodapabDoor
open Go.ChangeShapes Go.WideShapes Go.ChangeAt Go.RowKit
set_option linter.unusedVariables false
set_option linter.unusedSimpArgs false

theorem l61 : textR [⟨#[97]⟩, ⟨#[98, 45, 49]⟩] = (⟨#[97, 47, 98, 45, 49]⟩, 0) := by decide +kernel
theorem l62 : pathR ⟨#[97, 47, 47, 98]⟩ = ([], 10) := by decide +kernel
theorem l63 : pathR ⟨#[42]⟩ = ([], 0) := by decide +kernel
theorem l64 : cmpS [⟨#[97]⟩] [⟨#[97]⟩, ⟨#[98]⟩] = -1 := by decide +kernel
theorem l65 : underB [⟨#[97]⟩, ⟨#[98]⟩] [⟨#[97]⟩] = true := by decide +kernel
theorem l66 : nameB ⟨#[65]⟩ = false := by decide +kernel
set_option maxRecDepth 100000 in
set_option maxHeartbeats 1600000 in
theorem lives_true (w : World) (hm : MaxL w) : Calls Tryd.prog 9 #[] w (Gives (.bool true) w) := by
  have HTX := hid (fun v W hv => by
    have := text_any v [⟨#[97]⟩, ⟨#[98, 45, 49]⟩] W (strs_sl hv).1 (strs_sl hv).2 (by decide)
    rwa [l61] at this)
  have HP2 := hid (fun W hm => by
    have := path_any ⟨#[97, 47, 47, 98]⟩ W (by decide) hm
    rwa [l62] at this)
  have HP3 := hid (fun W hm => by
    have := path_any ⟨#[42]⟩ W (by decide) hm
    rwa [l63] at this)
  have HCM := hid (fun v x W hv hx => by
    have := cmp_any v x [⟨#[97]⟩] [⟨#[97]⟩, ⟨#[98]⟩] W hv hx
    rwa [l64] at this)
  have HUN := hid (fun v x W hv hx => by
    have := under_any v x [⟨#[97]⟩, ⟨#[98]⟩] [⟨#[97]⟩] W hv hx
    rwa [l65] at this)
  have HNM := hid (fun W => by
    have := name_any ⟨#[65]⟩ W (by decide)
    rwa [l66] at this)
  have HM := hid hm
  clear hm
  go_enter Tryd.func9, Tryd.ntmps9
  obtain ⟨W0, hW0⟩ : ∃ W, W = w.alloc (.cells #[.string ⟨#[97]⟩, .string ⟨#[98, 45, 49]⟩] 9) := ⟨_, rfl⟩
  have g0 : Below w.heap.size w W0 := by rw [hW0]; exact bl1 _ _
  have r0 : rdStrs W0 W0.heap.size [.slice (some ⟨w.heap.size, 0, none⟩) 2 2] [⟨#[97]⟩, ⟨#[98, 45, 49]⟩] := by
    rw [hW0]; exact strs2 (by simp) (by decide) (by decide) (by simp [go_sem]) (by simp [go_sem])
  have HW0 := hid hW0; have G0 := hid g0; have R0 := hid r0
  clear hW0 g0 r0
  go_wp2_with fail
  rw [← HW0.out]
  refine (HTX.out _ _ R0.out).mono ?_
  rintro e w1 ⟨rfl, hb1⟩
  have B1 := hid (G0.out.trans (hb1.mono G0.out.size)); clear hb1
  go_wp2_with fail
  refine (HP2.out _ (HM.out.on B1.out)).mono ?_
  rintro e w2 ⟨r2, rfl, -, hb2⟩
  have B2 := hid (B1.out.trans (hb2.mono B1.out.size)); clear hb2
  go_wp2_with fail
  refine (HP3.out _ (HM.out.on B2.out)).mono ?_
  rintro e w3 ⟨r3, rfl, hr3, hb3⟩
  have B3 := hid (B2.out.trans (hb3.mono B2.out.size)); clear hb3
  obtain ⟨A3, c3, rfl, -, -, -⟩ := own_cells hr3
  clear hr3
  obtain ⟨W4, hW4⟩ : ∃ W, W = (w3.alloc (.cells #[.string ⟨#[97]⟩] 9)).alloc (.cells #[.string ⟨#[97]⟩, .string ⟨#[98]⟩] 9) := ⟨_, rfl⟩
  have g4 : Below w3.heap.size w3 W4 := by rw [hW4]; exact (bl1 w3 _).alloc (by simp) _
  have r4 : rdStrs W4 W4.heap.size [.slice (some ⟨w3.heap.size, 0, none⟩) 1 1] [⟨#[97]⟩] := by
    rw [hW4]; exact strs1 (by simp; omega) (by decide) (by simp [go_sem])
  have r5 : rdStrs W4 W4.heap.size [.slice (some ⟨w3.heap.size + 1, 0, none⟩) 2 2] [⟨#[97]⟩, ⟨#[98]⟩] := by
    rw [hW4]; exact strs2 (by simp) (by decide) (by decide) (by simp [go_sem]) (by simp [go_sem])
  have HW4 := hid hW4; have R4 := hid r4; have R5 := hid r5
  have B4 := hid (B3.out.trans (g4.mono B3.out.size))
  clear hW4 g4 r4 r5
  go_wp2_with fail
  rw [← HW4.out]
  refine (HCM.out _ _ _ R4.out R5.out).mono ?_
  rintro e w5 ⟨rfl, hq5⟩
  have B5 := hid (B4.out.trans ((hq5.below _).mono B4.out.size)); clear hq5
  obtain ⟨W6, hW6⟩ : ∃ W, W = (w5.alloc (.cells #[.string ⟨#[97]⟩, .string ⟨#[98]⟩] 9)).alloc (.cells #[.string ⟨#[97]⟩] 9) := ⟨_, rfl⟩
  have g6 : Below w5.heap.size w5 W6 := by rw [hW6]; exact (bl1 w5 _).alloc (by simp) _
  have r6 : rdStrs W6 W6.heap.size [.slice (some ⟨w5.heap.size, 0, none⟩) 2 2] [⟨#[97]⟩, ⟨#[98]⟩] := by
    rw [hW6]; exact strs2 (by simp; omega) (by decide) (by decide) (by simp [go_sem]) (by simp [go_sem])
  have r7 : rdStrs W6 W6.heap.size [.slice (some ⟨w5.heap.size + 1, 0, none⟩) 1 1] [⟨#[97]⟩] := by
    rw [hW6]; exact strs1 (by simp) (by decide) (by simp [go_sem])
  have HW6 := hid hW6; have R6 := hid r6; have R7 := hid r7
  have B6 := hid (B5.out.trans (g6.mono B5.out.size))
  clear hW6 g6 r6 r7
  go_wp2_with fail
  rw [← HW6.out]
  refine (HUN.out _ _ _ R6.out R7.out).mono ?_
  rintro e w7 ⟨rfl, hq7⟩
  have B7 := hid (B6.out.trans ((hq7.below _).mono B6.out.size)); clear hq7
  go_wp2_with fail
  refine (HNM.out _).mono ?_
  rintro e w8 ⟨rfl, hb8⟩
  have B8 := hid (B7.out.trans (hb8.mono B7.out.size)); clear hb8
  go_wp2
  go_ret
  exact ⟨rfl, B8.out⟩
end Go.Proofs.YtompjcadhodapabDoor
