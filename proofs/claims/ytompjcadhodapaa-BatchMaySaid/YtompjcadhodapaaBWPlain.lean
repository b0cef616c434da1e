/- The walk of BatchPlain. -/
import Derived.Test.YtompjcadhodapaaBFew
import Derived.Test.YtompjcadhodapaaBLives
import Derived.Test.YtompjcadhodapaaBBox
import Derived.Test.YtompjcadhodapaaBFacts
namespace Go.Proofs.Ytompjcadhodapaa
open Go.ChangeShapes Go.WideShapes Go.ChangeAt Go.RowKit Go.Deep
set_option linter.unusedVariables false
set_option linter.unusedSimpArgs false

theorem mayBt_puts {s : SchemaX} {l : List FactX} (h : mayBt s l = 0) : putE l = 0 := by
  unfold mayBt at h
  split at h
  · cases h
  · split at h
    · cases h
    · rename_i h1 h2
      split at h
      · cases h
      · rename_i h3
        unfold putE
        rw [if_neg (by omega), if_pos]
        rw [List.all_eq_true]
        intro f hf
        have h4 : fitsB s f = true := by
          rw [Bool.not_eq_true, List.any_eq_false] at h3
          have := h3 f hf
          simpa using this
        unfold fitsB at h4
        simp only [Bool.and_eq_true] at h4
        exact h4.1.1.1
set_option maxRecDepth 100000 in
set_option maxHeartbeats 3200000 in
theorem walk_BatchPlain (w : World) (cs0 : Array Value) (x0 : SchemaX) (z0 : cs0.size = 3) (h0 : rdSchema w w.heap.size cs0.toList x0) (x : Value) (L : List FactX) (hx : rdSlice 2 rdFact w w.heap.size [x] L) :
    Calls Try.prog 5 #[.agg cs0, x] w (Gives (.bool true) w) := by
  have hs := schema_of_rd h0
  have hs0 := hs
  obtain ⟨A1, c1, A2, c2, A3, c3, e, -, -, -⟩ := hs
  simp only [Value.agg.injEq] at e
  subst e
  obtain ⟨W0, hW0⟩ : ∃ W, W = w.alloc (.cells #[.slice A1 x0.1.length c1, .slice A2 x0.2.1.length c2, .slice A3 x0.2.2.length c3] 26) := ⟨_, rfl⟩
  have g0 : Below w.heap.size w W0 := by rw [hW0]; exact bl1 _ _
  have zW0 : W0.heap.size = w.heap.size + 1 := by rw [hW0]; simp
  have HSML := hid (small_any _ x0 W0 w.heap.size g0.size (hs0.below g0))
  have HF := hid (fun W (hb : Below w.heap.size w W) => fewB_any x L W w.heap.size hb.size (good_facts.stays hx hb))
  have hsl : (smallS x0).1.length ≤ 1000 := by simp [smallS]; omega
  obtain ⟨hs1, -⟩ := fewFs_small L
  have hpm : mayBt (smallS x0) (fewFs L) = 0 → putE (fewFs L) = 0 := mayBt_puts
  generalize fewFs L = M at *
  generalize smallS x0 = s at *
  generalize x0.1.length = k1 at *
  generalize x0.2.1.length = k2 at *
  generalize x0.2.2.length = k3 at *
  have HPM := hid hpm
  have HW0 := hid hW0; have G0 := hid g0
  clear hpm h0 hs0 hx z0 hW0 g0
  go_enter Try.func5, Try.ntmps5
  have y0 : (w.alloc (.cells #[.slice A1 k1 c1, .slice A2 k2 c2, .slice A3 k3 c3] 26)).cell? ⟨w.heap.size, 0, none⟩ = some (.slice A1 k1 c1) := by simp [go_sem]
  have y1 : (w.alloc (.cells #[.slice A1 k1 c1, .slice A2 k2 c2, .slice A3 k3 c3] 26)).cell? ⟨w.heap.size, 1, none⟩ = some (.slice A2 k2 c2) := by simp [go_sem]
  have y2 : (w.alloc (.cells #[.slice A1 k1 c1, .slice A2 k2 c2, .slice A3 k3 c3] 26)).cell? ⟨w.heap.size, 2, none⟩ = some (.slice A3 k3 c3) := by simp [go_sem]
  go_wp2_with fail
  rw [← HW0.out]
  refine HSML.out.mono ?_
  rintro e w1 ⟨B1, b1, B2, b2, B3, b3, rfl, hsv, hb1⟩
  have hb1' := hb1
  rw [zW0, HW0.out] at hb1'
  have z1 := hb1.size
  have HBX := hid (BoxS.start hb1' hsv)
  have k0 := cellK hb1' (by omega) y0
  have k1' := cellK hb1' (by omega) y1
  have k2' := cellK hb1' (by omega) y2
  have n0 : w1.frozen? ⟨w.heap.size, 0, none⟩ = false := frozenK hb1' (by omega) (by simp [go_sem])
  have n1 : w1.frozen? ⟨w.heap.size, 1, none⟩ = false := frozenK hb1' (by omega) (by simp [go_sem])
  have n2 : w1.frozen? ⟨w.heap.size, 2, none⟩ = false := frozenK hb1' (by omega) (by simp [go_sem])
  obtain ⟨W1, hW1⟩ : ∃ W, W = ((w1.setCell ⟨w.heap.size, 0, none⟩ (.slice B1 s.1.length b1)).setCell ⟨w.heap.size, 1, none⟩ (.slice B2 s.2.1.length b2)).setCell ⟨w.heap.size, 2, none⟩ (.slice B3 s.2.2.length b3) := ⟨_, rfl⟩
  rw [← hW1] at HBX
  have HW1 := hid hW1
  clear hb1 hb1' hsv hW1 y0 y1 y2
  go_wp2_with fail
  rw [← HW1.out]
  refine (HF.out _ HBX.out.2.1).mono ?_
  rintro e w2 ⟨r, rfl, hr, hb2⟩
  obtain ⟨hrd, Ar, cr, rfl⟩ := hr.rows (N := w2.heap.size) (Nat.le_trans HBX.out.2.1.size hb2.size) (Nat.le_refl _)
  have HBX2 := hid (HBX.out.on hb2)
  have HRD := hid hrd
  have HP := hid (putFacts_any (.slice none 0 0) _ [] M w2 Sl.nil_ (by simp) hrd)
  unfold PutFP at HP
  clear hb2 hr hrd
  have HMY := hid (fun v W hv hx => mayBt_any v (.slice Ar M.length cr) s M W hv hsl hx)
  generalize hpe : putE M = pe at *
  generalize hme : mayBt s M = me at *
  generalize [] ++ putFacts M = T at *
  clear hpe hme
  generalize M.length = lm at *
  have hfin : ∃ r3 : Value, True := ⟨undef, trivial⟩
  go_wp2_with fail
  refine HP.out.mono ?_
  rintro e w3 hp3
  have hcom : ∃ r3 : Value, e = .returned (.tuple #[r3, .int .i64 pe]) ∧ Below w2.heap.size w2 w3 ∧ ∃ A n c, r3 = .slice A n c := by
    rcases hp3 with ⟨hpl, r2, rfl, ho2, hb2⟩ | ⟨hpl, rfl, hb2⟩
    · obtain ⟨Ao, co, rfl, -, -⟩ := ho2.form
      exact ⟨_, by rw [hpl], hb2, _, _, _, rfl⟩
    · exact ⟨_, rfl, hb2, _, _, _, rfl⟩
  obtain ⟨r3, rfl, hb3, A, n, c, rfl⟩ := hcom
  have HBX3 := hid (HBX2.out.on hb3)
  have HRD3 := hid (good_facts.on HRD.out hb3)
  clear hp3 hb3
  obtain ⟨-, -, j0, j1, j2, hsv3⟩ := HBX3.out
  have HSV3 := hid hsv3; clear hsv3
  go_wp2_with fail
  refine (HMY.out _ _ HSV3.out HRD3.out).mono ?_
  rintro e w4 ⟨rfl, hb4⟩
  have HBX4 := hid (HBX3.out.on hb4)
  clear hb4
  by_cases hm : me = 0
  · have hp0 := HPM.out hm
    subst hm; subst hp0
    go_wp2_with fail
    refine (lives_true _).mono ?_
    rintro e w5 ⟨rfl, hb5⟩
    have HBX5 := hid (HBX4.out.on hb5); clear hb5
    go_wp2
    go_ret
    exact ⟨rfl, HBX5.out.2.1⟩
  · have hme : (me == 0) = false := beq_eq_false_iff_ne.2 hm
    clear hm
    go_wp2_with fail
    refine (lives_true _).mono ?_
    rintro e w5 ⟨rfl, hb5⟩
    have HBX5 := hid (HBX4.out.on hb5); clear hb5
    go_wp2
    go_ret
    exact ⟨rfl, HBX5.out.2.1⟩
end Go.Proofs.Ytompjcadhodapaa
