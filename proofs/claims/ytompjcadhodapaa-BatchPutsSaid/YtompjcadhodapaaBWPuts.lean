/- The walk of BatchPuts. -/
import Derived.Test.YtompjcadhodapaaBFew
import Derived.Test.YtompjcadhodapaaBLives
import Derived.Test.YtompjcadhodapaaBRefP
import Derived.Test.YtompjcadhodapaaCut8
import Derived.Test.YtompjcadhodapaaOpens
namespace Go.Proofs.Ytompjcadhodapaa
open Go.ChangeShapes Go.WideShapes Go.ChangeAt Go.RowKit Go.Deep
set_option linter.unusedVariables false
set_option linter.unusedSimpArgs false

theorem opens_fact : Opens Try.prog 35 2 rdFact := by
  refine opens_struct (k := 2) Try.underlying35 (by kernel_rfl) ?_
  exact opensF_cons (k2 := 1) (by rfl) opens_pathsQ (opensF_one (by rfl) opens_intsQ)
theorem opens_facts : Opens Try.prog 27 1 (rdSlice 2 rdFact) := opens_slice (e := 35) good_fact Try.underlying27 opens_fact (by kernel_rfl) (by omega)
theorem putE_zero {l : List FactX} (h : putE l = 0) : l.length ≤ 8 ∧ ∀ f ∈ l, plainFt f = true := by
  unfold putE at h
  split at h
  · cases h
  · split at h
    · rename_i h1 h2
      exact ⟨by omega, fun f hf => List.all_eq_true.1 h2 f hf⟩
    · cases h
theorem fewFs_small (l : List FactX) : (fewFs l).length ≤ 10 ∧ ∀ f ∈ fewFs l, f.1.length ≤ 5 ∧ f.2.length ≤ 5 := by
  refine ⟨by simp [fewFs]; omega, fun f hf => ?_⟩
  unfold fewFs at hf
  obtain ⟨g, -, rfl⟩ := List.mem_map.1 hf
  unfold fewFt
  simp only [List.length_map, List.length_take]
  omega
set_option maxRecDepth 100000 in
set_option maxHeartbeats 3200000 in
theorem walk_BatchPuts (w : World) (v : Value) (l : List UInt8) (hv : Sl w w.heap.size v (bvals l)) (hz : l.length ≤ maxLen) (x : Value) (L : List FactX) (hx : rdSlice 2 rdFact w w.heap.size [x] L) :
    Calls Try.prog 4 #[v, x] w (Gives (.bool true) w) := by
  have hv' := hv
  obtain ⟨A, c, rfl, hc1, hc2, -⟩ := hv'
  rw [bvals_len] at hv hc1 ⊢
  obtain ⟨n, hn, hnl, hnc, hways⟩ := cut8 (m := 20) hv
  have hln : (l.take 20).length ≤ 20 := by rw [List.length_take]; omega
  have HF := hid (fewB_any x L w w.heap.size (Nat.le_refl _) hx)
  obtain ⟨hs1, -⟩ := fewFs_small L
  generalize fewFs L = M at *
  clear hx hv
  generalize l.take 20 = b0 at *
  generalize l.length = ln at *
  unfold maxLen at hc2
  have HN := hid hn
  have hlenT : putE M = 0 → (b0 ++ putFacts M).length ≤ 140737488355328 := fun h => by
    obtain ⟨h1, h2⟩ := putE_zero h
    have := putFacts_len hs1 h2
    rw [List.length_append]; omega
  have HLT := hid hlenT
  clear hn hnl hz hlenT
  go_enter Try.func4, Try.ntmps4
  go_wp2_with fail
  refine HF.out.mono ?_
  rintro e w1 ⟨r, rfl, hr, hb1⟩
  obtain ⟨hrd, Ar, cr, rfl⟩ := hr.rows (N := w1.heap.size) hb1.size (Nat.le_refl _)
  have HB1 := hid hb1
  have HP := hid (putFacts_any (.slice A n c) _ b0 M w1 ((HN.out.below hb1).more hb1.size) (by omega) hrd)
  have HRP := hid (fun W (hb : Below w1.heap.size w1 W) => refPutFacts_any (.slice A n c) _ b0 M W ((HN.out.below (hb1.trans (hb.mono hb1.size))).more (Nat.le_trans hb1.size hb.size)) (by omega) (good_facts.on hrd hb))
  clear hb1 hr hrd HN
  unfold PutFP at HP HRP
  generalize b0 ++ putFacts M = T at *
  generalize M.length = lm at *
  generalize hpe : putE M = pe at *
  clear hpe
  rcases hways with ⟨t1, hml, rfl⟩ | ⟨t1, rfl⟩
  all_goals
    go_wp2_with fail
    refine HP.out.mono ?_
    rintro e w2 hp2
    rcases hp2 with ⟨hpl, r2, rfl, ho2, hb2⟩ | ⟨hpl, rfl, hb2⟩
    · have HB2 := hid hb2
      have HO2 := hid ho2
      have HPL := hid hpl
      clear hb2 ho2 hpl
      go_wp2_with fail
      refine (HRP.out _ HB2.out).mono ?_
      rintro e w3 hp3
      rcases hp3 with ⟨-, r3, rfl, ho3, hb3⟩ | ⟨hpl3, rfl, hb3⟩
      · have HS := hid (same_any r2 r3 T T w3 (HLT.out HPL.out) (HLT.out HPL.out) ((HO2.out.on hb3).sl) ho3.sl)
        have HB3 := hid (HB2.out.trans (hb3.mono HB2.out.size))
        unfold SamePost at HS
        simp only [decide_true] at HS
        clear hb3 ho3
        go_wp2_with fail
        refine HS.out.mono ?_
        rintro e w4 ⟨rfl, hq4⟩
        have HB4 := hid (HB3.out.trans (hq4.below _)); clear hq4
        go_wp2_with fail
        refine (lives_true _).mono ?_
        rintro e w5 ⟨rfl, hb5⟩
        have HB5 := hid (HB4.out.trans (hb5.mono HB4.out.size)); clear hb5
        go_wp2
        go_ret
        exact ⟨rfl, HB1.out.trans (HB5.out.mono HB1.out.size)⟩
      · exact absurd HPL.out hpl3
    · have HB2 := hid hb2
      have HPL := hid hpl
      clear hb2 hpl
      go_wp2_with fail
      refine (HRP.out _ HB2.out).mono ?_
      rintro e w3 hp3
      rcases hp3 with ⟨hpl3, r3, rfl, ho3, hb3⟩ | ⟨-, rfl, hb3⟩
      · exact absurd hpl3 HPL.out
      · have HS := hid (same_any (.slice none 0 0) (.slice none 0 0) [] [] w3 (by simp) (by simp) (sl_nil8 _) (sl_nil8 _))
        have HB3 := hid (HB2.out.trans (hb3.mono HB2.out.size))
        unfold SamePost at HS
        simp only [decide_true] at HS
        clear hb3
        go_wp2_with fail
        refine HS.out.mono ?_
        rintro e w4 ⟨rfl, hq4⟩
        have HB4 := hid (HB3.out.trans (hq4.below _)); clear hq4
        have hpp : (pe == pe) = true := by simp
        go_wp2_with fail
        refine (lives_true _).mono ?_
        rintro e w5 ⟨rfl, hb5⟩
        have HB5 := hid (HB4.out.trans (hb5.mono HB4.out.size)); clear hb5
        go_wp2
        go_ret
        exact ⟨rfl, HB1.out.trans (HB5.out.mono HB1.out.size)⟩
end Go.Proofs.Ytompjcadhodapaa
