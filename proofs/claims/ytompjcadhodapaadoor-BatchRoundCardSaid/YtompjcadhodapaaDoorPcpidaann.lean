/- 1 text of this claim, in build order. -/
import Derived.Test.YtompjcadhodapaaDoorPjoepmbmj
import Derived.Test.YtompjcadhodapaaDoorPabdadkad
import Derived.Test.YtompjcadhodapaaDoorPcjebdjaa
import Derived.Test.YtompjcadhodapaaDoorPhfjcngjl
import Derived.Test.YtompjcadhodapaaDoorPbbjobcmj
/- The laws' lives (layer 9): the document's examples. -/
namespace Go.Proofs.YtompjcadhodapaaDoor
open Go.ChangeShapes Go.WideShapes Go.ChangeAt Go.RowKit
set_option linter.unusedVariables false
set_option linter.unusedSimpArgs false

def lL : List FactX := [([[⟨#[97]⟩, ⟨#[120]⟩]], [3])]
def sL9 : SchemaX := ([(⟨#[100]⟩, [⟨#[108]⟩, ⟨#[109]⟩])], [⟨#[109]⟩], [])
theorem l91 : putE lL = 0 := by decide +kernel
theorem l92 : ([] : List UInt8) ++ putFacts lL = [2, 2, 6, 97, 47, 120, 2, 6] := by decide +kernel
theorem l93 : mayBt sL9 lL = 0 := by decide +kernel
theorem l94 : mayBt sL9 [] = 13 := by decide +kernel
theorem l95 : valsOf lL = [[3]] := rfl
def lW (w : World) : World :=
  (((w.alloc (.cells #[.string ⟨#[97]⟩, .string ⟨#[120]⟩] 9)).alloc (.cells #[.slice (some ⟨w.heap.size, 0, none⟩) 2 2] 41)).alloc (.cells #[.int .i64 3] 3)).alloc
    (.cells #[.slice (some ⟨w.heap.size + 1, 0, none⟩) 1 1, .slice (some ⟨w.heap.size + 1 + 1, 0, none⟩) 1 1] 54)
theorem lW_below (w : World) : Below w.heap.size w (lW w) := by
  unfold lW
  exact (by repeat' first | with_reducible exact Below.refl _ _ | assumption | (with_reducible refine Below.alloc ?_ ?_ _) | (with_reducible refine Below.setCell ?_ ?_ _) | (with_reducible refine Below.drew ?_) | (with_reducible refine below_drewN ?_ _) | (with_reducible refine Below.trans ?_ (Below.mono ‹_› ?_)) | omega | (with_reducible refine le_alloc ?_) | (with_reducible refine le_setCell ?_) | (with_reducible refine le_drew ?_) | (with_reducible refine le_drewN ?_) | (with_reducible refine Nat.le_trans ?_ (Below.size ‹_›)) | (simp <;> omega))
theorem lW_rd (w : World) : rdSlice 2 rdFact (lW w) (lW w).heap.size [.slice (some ⟨w.heap.size + 1 + 1 + 1, 0, none⟩) 1 1] lL := by
  have e0 : (lW w).heap.size = w.heap.size + 1 + 1 + 1 + 1 := by simp [lW]
  have d : rdStrs (lW w) (lW w).heap.size [.slice (some ⟨w.heap.size, 0, none⟩) 2 2] [⟨#[97]⟩, ⟨#[120]⟩] := strs2 (by omega) (by decide) (by decide) (by simp [lW, go_sem]) (by simp [lW, go_sem])
  have m : rdSlice 1 rdStrs (lW w) (lW w).heap.size [.slice (some ⟨w.heap.size + 1, 0, none⟩) 1 1] [[⟨#[97]⟩, ⟨#[120]⟩]] := paths1 (by omega) (by simp [lW, go_sem]) d
  have g : rdInts (lW w) (lW w).heap.size [.slice (some ⟨w.heap.size + 1 + 1, 0, none⟩) 1 1] [3] := ints1 (by omega) (by unfold InI64; omega) (by simp [lW, go_sem])
  exact rd_lit rfl (by omega) (by omega) (fun i z hz => by
      obtain rfl : i = 0 := by have := (List.getElem?_eq_some_iff.1 hz).1; simp [lL] at this; omega
      simp [lL] at hz; subst hz
      refine ⟨[.slice (some ⟨w.heap.size + 1, 0, none⟩) 1 1, .slice (some ⟨w.heap.size + 1 + 1, 0, none⟩) 1 1], rfl, fun j u hu => ?_, rfl, m, g⟩
      rcases j with _ | _ | j <;> simp at hu <;> subst hu <;> simp [lW, go_sem])
def sW (w : World) : World :=
  (((w.alloc (.cells #[.string ⟨#[108]⟩, .string ⟨#[109]⟩] 9)).alloc (.cells #[.string ⟨#[100]⟩, .slice (some ⟨w.heap.size, 0, none⟩) 2 2] 60)).alloc (.cells #[.string ⟨#[109]⟩] 9)).alloc
    (.cells #[.slice (some ⟨w.heap.size + 1, 0, none⟩) 1 1, .slice (some ⟨w.heap.size + 1 + 1, 0, none⟩) 1 1, .slice none 0 0] 64)
theorem sW_below (w : World) : Below w.heap.size w (sW w) := by
  unfold sW
  exact (by repeat' first | with_reducible exact Below.refl _ _ | assumption | (with_reducible refine Below.alloc ?_ ?_ _) | (with_reducible refine Below.setCell ?_ ?_ _) | (with_reducible refine Below.drew ?_) | (with_reducible refine below_drewN ?_ _) | (with_reducible refine Below.trans ?_ (Below.mono ‹_› ?_)) | omega | (with_reducible refine le_alloc ?_) | (with_reducible refine le_setCell ?_) | (with_reducible refine le_drew ?_) | (with_reducible refine le_drewN ?_) | (with_reducible refine Nat.le_trans ?_ (Below.size ‹_›)) | (simp <;> omega))
theorem sW_rd (w : World) : SchemaV (sW w) (sW w).heap.size (.agg #[.slice (some ⟨w.heap.size + 1, 0, none⟩) 1 1, .slice (some ⟨w.heap.size + 1 + 1, 0, none⟩) 1 1, .slice none 0 0]) sL9 := by
  have e0 : (sW w).heap.size = w.heap.size + 1 + 1 + 1 + 1 := by simp [sW]
  have d : rdStrs (sW w) (sW w).heap.size [.slice (some ⟨w.heap.size, 0, none⟩) 2 2] [⟨#[108]⟩, ⟨#[109]⟩] := strs2 (by omega) (by decide) (by decide) (by simp [sW, go_sem]) (by simp [sW, go_sem])
  have v : rdStrs (sW w) (sW w).heap.size [.slice (some ⟨w.heap.size + 1 + 1, 0, none⟩) 1 1] [⟨#[109]⟩] := strs1 (by omega) (by decide) (by simp [sW, go_sem])
  have dm : rdSlice 2 rdDim (sW w) (sW w).heap.size [.slice (some ⟨w.heap.size + 1, 0, none⟩) 1 1] [(⟨#[100]⟩, [⟨#[108]⟩, ⟨#[109]⟩])] :=
    rd_lit rfl (by omega) (by omega) (fun i z hz => by
      obtain rfl : i = 0 := by have := (List.getElem?_eq_some_iff.1 hz).1; simp at this; omega
      simp at hz; subst hz
      refine ⟨[.string ⟨#[100]⟩, .slice (some ⟨w.heap.size, 0, none⟩) 2 2], rfl, fun j u hu => ?_, rfl, ⟨rfl, by decide⟩, d⟩
      rcases j with _ | _ | j <;> simp at hu <;> subst hu <;> simp [sW, go_sem])
  exact ⟨_, _, _, _, _, _, rfl, dm, v, rd_nil⟩
theorem sW_box (w : World) : (sW w).cell? ⟨w.heap.size + 1 + 1 + 1, 0, none⟩ = some (.slice (some ⟨w.heap.size + 1, 0, none⟩) 1 1) ∧ (sW w).cell? ⟨w.heap.size + 1 + 1 + 1, 1, none⟩ = some (.slice (some ⟨w.heap.size + 1 + 1, 0, none⟩) 1 1) ∧
    (sW w).cell? ⟨w.heap.size + 1 + 1 + 1, 2, none⟩ = some (.slice none 0 0) ∧ (sW w).heap.size = w.heap.size + 1 + 1 + 1 + 1 := by
  refine ⟨?_, ?_, ?_, ?_⟩ <;> simp [sW, go_sem]
set_option maxRecDepth 100000 in
set_option maxHeartbeats 3200000 in
theorem lives_true (w : World) : Calls Tryd.prog 9 #[] w (Gives (.bool true) w) := by
  have HPU := hid (fun x W hx => by
    have := putFacts_any (.slice none 0 0) x [] lL W Sl.nil_ (by simp) hx
    unfold PutFP at this
    rwa [l91, l92] at this)
  have HMY := hid (fun v x W hv hx => by
    have := mayBt_any v x sL9 lL W hv (by decide) hx
    rwa [l93] at this)
  have HMN := hid (fun v W hv => by
    have := mayBt_any v (.slice none 0 0) sL9 [] W hv (by decide) rd_nil
    rwa [l94] at this)
  have HVA := hid (fun x W hx => by
    have := values_any x lL W hx (by decide) (by decide)
    rwa [l95] at this)
  go_enter Tryd.func9, Tryd.ntmps9
  have HL := hid (lW_rd w); have HB0 := hid (lW_below w)
  obtain ⟨W0, hW0⟩ : ∃ W, W = lW w := ⟨_, rfl⟩
  have z0 : W0.heap.size = w.heap.size + 1 + 1 + 1 + 1 := by rw [hW0]; simp [lW]
  rw [← hW0] at HL HB0
  unfold lW at hW0
  have HW0 := hid hW0
  clear hW0
  go_wp2_with fail
  rw [← HW0.out]
  refine (HPU.out _ _ HL.out).mono ?_
  rintro e w1 h
  rcases h with ⟨-, r, rfl, hr, hb1⟩ | ⟨h, -, -⟩
  case inr => exact absurd rfl h
  obtain ⟨Ar, cr, rfl, -, -⟩ := hr.form
  have HR := hid hr
  have HL1 := hid (good_facts.on HL.out hb1)
  have HB1 := hid (HB0.out.trans (hb1.mono HB0.out.size))
  clear hb1 hr
  obtain ⟨W1, hW1⟩ : ∃ W, W = w1.alloc (.cells (bvals [2, 2, 6, 97, 47, 120, 2, 6]).toArray 5) := ⟨_, rfl⟩
  have g1 : Below w1.heap.size w1 W1 := by rw [hW1]; exact bl1 _ _
  have hlit := bytes8_at w1 w1.heap.size [2, 2, 6, 97, 47, 120, 2, 6] 8 rfl (by omega) rfl
  rw [← hW1] at hlit
  have HSA := hid (same_any (.slice Ar _ cr) _ _ _ W1 (by simp) (by simp) (HR.out.on g1).sl hlit)
  unfold SamePost at HSA
  simp only [decide_true] at HSA
  have HL2 := hid (good_facts.on HL1.out g1)
  have HB2 := hid (HB1.out.trans (g1.mono HB1.out.size))
  have HW1 := hid hW1
  clear hW1 g1 hlit
  go_wp2_with fail
  rw [show (#[.int .u8 2, .int .u8 2, .int .u8 6, .int .u8 97, .int .u8 47, .int .u8 120, .int .u8 2, .int .u8 6] : Array Value) = (bvals [2, 2, 6, 97, 47, 120, 2, 6]).toArray from rfl, ← HW1.out]
  refine HSA.out.mono ?_
  rintro e w2 ⟨rfl, hq2⟩
  have HB3 := hid (HB2.out.trans ((hq2.below W1.heap.size).mono HB2.out.size))
  have HL3 := hid (good_facts.on HL2.out (hq2.below W1.heap.size))
  clear hq2
  have hsb := sW_box w2
  have hsr := sW_rd w2
  have hsw := sW_below w2
  obtain ⟨W2, hW2⟩ : ∃ W, W = sW w2 := ⟨_, rfl⟩
  rw [← hW2] at hsb hsr hsw
  unfold sW at hW2
  obtain ⟨s0, s1, s2, zW2⟩ := hsb
  have s0i := s0; have s1i := s1; have s2i := s2
  rw [hW2] at s0i s1i s2i
  have HW2 := hid hW2; have HSR := hid hsr
  have HL4 := hid (good_facts.on HL3.out hsw)
  have HB4 := hid (HB3.out.trans (hsw.mono HB3.out.size))
  clear hW2 hsr hsw
  go_wp2_with fail
  rw [← HW2.out]
  refine (HVA.out _ _ HL4.out).mono ?_
  rintro e w3 ⟨r, rfl, hr, hb3⟩
  obtain ⟨vs, hvl, hown, hvs⟩ := hr
  obtain ⟨A, c2, rfl, -, -, h3⟩ := own_cells2 hown
  obtain ⟨g, rfl, hg1, hg2, -, hcell⟩ := h3 (by decide)
  obtain ⟨u, rfl⟩ : ∃ u, vs = [u] := by
    match vs, hvl with
    | [u], _ => exact ⟨u, rfl⟩
  have k0 : w3.cell? ⟨g, 0, none⟩ = some u := hcell 0 (by decide)
  have hu := hvs 0 (by decide)
  have hu' : w3.ownsRow W2.heap.size 3 1 u 1 (ivals [3]) := hu
  obtain ⟨Au, cu, rfl, -, -, h4⟩ := own_cells2 hu'
  obtain ⟨g3, rfl, hg5, hg6, -, hcell3⟩ := h4 (by decide)
  have k1 : w3.cell? ⟨g3, 0, none⟩ = some (.int .i64 3) := hcell3 0 (by decide)
  have m0 := cellK hb3 (by omega) s0
  have m1 := cellK hb3 (by omega) s1
  have m2 := cellK hb3 (by omega) s2
  have HSR3 := hid (HSR.out.on hb3)
  have HL5 := hid (good_facts.on HL4.out hb3)
  have HB5 := hid (HB4.out.trans (hb3.mono HB4.out.size))
  have z3 := hb3.size
  have K0 := hid k0; have K1 := hid k1
  clear hvs hu hu' hcell hcell3 h3 h4 hown hvl hb3 k0 k1 s0i s1i s2i s0 s1 s2
  go_wp2_with fail
  refine (HMY.out _ _ _ HSR3.out HL5.out).mono ?_
  rintro e w4 ⟨rfl, hb4⟩
  have m0' := cellK hb4 (by omega) m0
  have m1' := cellK hb4 (by omega) m1
  have m2' := cellK hb4 (by omega) m2
  have HSR4 := hid (HSR3.out.on hb4)
  have HB6 := hid hb4
  clear hb4 m0 m1 m2
  go_wp2_with fail
  refine (HMN.out _ _ HSR4.out).mono ?_
  rintro e w5 ⟨rfl, hb5⟩
  have HB7 := hid (HB6.out.trans (hb5.mono HB6.out.size))
  have k0 := cellK HB7.out hg2 K0.out
  have k1 := cellK HB7.out hg6 K1.out
  clear hb5
  go_wp2
  go_ret
  exact ⟨rfl, HB5.out.trans (HB7.out.mono HB5.out.size)⟩
end Go.Proofs.YtompjcadhodapaaDoor
