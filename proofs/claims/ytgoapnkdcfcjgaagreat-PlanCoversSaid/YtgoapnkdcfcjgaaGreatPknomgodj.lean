/- 4 texts of this claim, in build order. -/
import Derived.Test.YtgoapnkdcfcjgaaGreatPambjpnfd
import Derived.Test.YtgoapnkdcfcjgaaGreatPnbmhhlfj
import Derived.Test.YtgoapnkdcfcjgaaGreatPaodhbhgg
import Derived.Test.YtgoapnkdcfcjgaaGreatPdgbecjcf
import Derived.Test.YtgoapnkdcfcjgaaGreatPmmljdcfd
import Derived.Test.YtgoapnkdcfcjgaaGreatPkohgbcdn
import Derived.Test.YtgoapnkdcfcjgaaGreatPlhikkigo
/- The walk of PlanCovers. -/
namespace Go.Proofs.YtgoapnkdcfcjgaaGreat
open Go.ChangeShapes Go.WideShapes Go.ChangeAt Go.RowKit Go.Deep
set_option linter.unusedVariables false
set_option linter.unusedSimpArgs false

set_option maxRecDepth 100000 in
set_option maxHeartbeats 3200000 in
theorem walk_PlanCovers (w : World) (cs0 : Array Value) (x0 : SchemaX) (z0 : cs0.size = 3) (h0 : rdSchema w w.heap.size cs0.toList x0) (cs1 : Array Value) (x1 : QueryX) (z1 : cs1.size = 2) (h1 : rdQuery w w.heap.size cs1.toList x1) :
    Calls Tryz.prog 3 #[.agg cs0, .agg cs1] w (Gives (.bool true) w) := by
  have hs := schema_of_rd h0
  have hq := query_of_rd h1
  have hs0 := hs; have hq0 := hq
  obtain ⟨A1, c1, A2, c2, A3, c3, e, -, -, -⟩ := hs
  simp only [Value.agg.injEq] at e
  subst e
  obtain ⟨X1, d1, X2, d2, e, -, -⟩ := hq
  simp only [Value.agg.injEq] at e
  subst e
  have HSML := hid (fun W (hb : Below w.heap.size w W) => small_any _ x0 W w.heap.size hb.size (hs0.below hb))
  have HF := hid (fun W (hb : Below w.heap.size w W) => few13_any _ x1 W w.heap.size hb.size (hq0.below hb))
  obtain ⟨hq1, hq2⟩ := few13_len x1
  obtain ⟨hsl, hs9⟩ := small13_len x0
  clear h0 h1 hs0 hq0 z0 z1
  generalize x0.1.length = k1 at *
  generalize x0.2.1.length = k2 at *
  generalize x0.2.2.length = k3 at *
  generalize x1.1.length = k4 at *
  generalize x1.2.length = k5 at *
  generalize fewQ13 x1 = q at *
  generalize smallS x0 = s at *
  obtain ⟨W0, hW0⟩ : ∃ W, W = (w.alloc (.cells #[.slice A1 k1 c1, .slice A2 k2 c2, .slice A3 k3 c3] 26)).alloc (.cells #[.slice X1 k4 d1, .slice X2 k5 d2] 30) := ⟨_, rfl⟩
  have g0 : Below w.heap.size w W0 := by rw [hW0]; exact (bl1 w _).alloc (by simp) _
  have z0 : W0.heap.size = w.heap.size + 1 + 1 := by rw [hW0]; simp
  have y0 : W0.cell? ⟨w.heap.size, 0, none⟩ = some (.slice A1 k1 c1) := by rw [hW0]; simp [go_sem]
  have y1 : W0.cell? ⟨w.heap.size, 1, none⟩ = some (.slice A2 k2 c2) := by rw [hW0]; simp [go_sem]
  have y2 : W0.cell? ⟨w.heap.size, 2, none⟩ = some (.slice A3 k3 c3) := by rw [hW0]; simp [go_sem]
  have y3 : W0.cell? ⟨w.heap.size + 1, 0, none⟩ = some (.slice X1 k4 d1) := by rw [hW0]; simp [go_sem]
  have y4 : W0.cell? ⟨w.heap.size + 1, 1, none⟩ = some (.slice X2 k5 d2) := by rw [hW0]; simp [go_sem]
  have f0 : W0.frozen? ⟨w.heap.size, 0, none⟩ = false := by rw [hW0]; simp [go_sem]
  have f1 : W0.frozen? ⟨w.heap.size, 1, none⟩ = false := by rw [hW0]; simp [go_sem]
  have f2 : W0.frozen? ⟨w.heap.size, 2, none⟩ = false := by rw [hW0]; simp [go_sem]
  have f3 : W0.frozen? ⟨w.heap.size + 1, 0, none⟩ = false := by rw [hW0]; simp [go_sem]
  have f4 : W0.frozen? ⟨w.heap.size + 1, 1, none⟩ = false := by rw [hW0]; simp [go_sem]
  have HW0 := hid hW0; have G0 := hid g0
  clear hW0 g0
  go_enter Tryz.func3, Tryz.ntmps3
  go_wp2_with fail
  rw [← HW0.out]
  refine (HSML.out _ G0.out).mono ?_
  rintro e w1 ⟨B1, b1, B2, b2, B3, b3, rfl, hsv, hb1⟩
  have z1 := hb1.size
  have k0 := cellK hb1 (by omega) y0
  have k1' := cellK hb1 (by omega) y1
  have k2' := cellK hb1 (by omega) y2
  have n0 := frozenK hb1 (by omega) f0
  have n1 := frozenK hb1 (by omega) f1
  have n2 := frozenK hb1 (by omega) f2
  obtain ⟨W1, hW1⟩ : ∃ W, W = ((w1.setCell ⟨w.heap.size, 0, none⟩ (.slice B1 s.1.length b1)).setCell ⟨w.heap.size, 1, none⟩ (.slice B2 s.2.1.length b2)).setCell ⟨w.heap.size, 2, none⟩ (.slice B3 s.2.2.length b3) := ⟨_, rfl⟩
  have bb1 : Below w.heap.size w1 W1 := by rw [hW1]; exact Below.setCell (Below.setCell (Below.setCell (Below.refl _ w1) (show w.heap.size ≤ w.heap.size from Nat.le_refl _) _) (show w.heap.size ≤ w.heap.size from Nat.le_refl _) _) (show w.heap.size ≤ w.heap.size from Nat.le_refl _) _
  have zW1 : W1.heap.size = w1.heap.size := by rw [hW1]; simp [World.setCell]
  have hfar : ∀ g, g ≠ w.heap.size → W1.heap[g]? = w1.heap[g]? := fun g hg => by rw [hW1]; exact (Below.heap_setCell _ _ _ g (by simp; omega)).trans ((Below.heap_setCell _ _ _ g (by simp; omega)).trans (Below.heap_setCell _ _ _ g (by simp; omega)))
  have m0 : W1.cell? ⟨w.heap.size, 0, none⟩ = some (.slice B1 s.1.length b1) := by rw [hW1]; exact cell_beside (by omega) (cell_beside (by omega) (cell_here k0))
  have m1 : W1.cell? ⟨w.heap.size, 1, none⟩ = some (.slice B2 s.2.1.length b2) := by rw [hW1]; exact cell_beside (by omega) (cell_here (cell_beside (by omega) k1'))
  have m2 : W1.cell? ⟨w.heap.size, 2, none⟩ = some (.slice B3 s.2.2.length b3) := by rw [hW1]; exact cell_here (cell_beside (by omega) (cell_beside (by omega) k2'))
  have hb01 := G0.out.trans ((hb1.mono (by omega)).trans bb1)
  have qb : W1.heap[w.heap.size + 1]? = W0.heap[w.heap.size + 1]? := (hfar _ (by omega)).trans (hb1.block _ (by omega))
  have y3' : W1.cell? ⟨w.heap.size + 1, 0, none⟩ = some (.slice X1 k4 d1) := (World.cell?_of_block (a := ⟨w.heap.size + 1, 0, none⟩) qb).trans y3
  have y4' : W1.cell? ⟨w.heap.size + 1, 1, none⟩ = some (.slice X2 k5 d2) := (World.cell?_of_block (a := ⟨w.heap.size + 1, 1, none⟩) qb).trans y4
  have f3' : W1.frozen? ⟨w.heap.size + 1, 0, none⟩ = false := (World.frozen?_of_block (a := ⟨w.heap.size + 1, 0, none⟩) qb).trans f3
  have f4' : W1.frozen? ⟨w.heap.size + 1, 1, none⟩ = false := (World.frozen?_of_block (a := ⟨w.heap.size + 1, 1, none⟩) qb).trans f4
  have q3 : w1.cell? ⟨w.heap.size + 1, 0, none⟩ = some (.slice X1 k4 d1) := cellK hb1 (by omega) y3
  have q4 : w1.cell? ⟨w.heap.size + 1, 1, none⟩ = some (.slice X2 k5 d2) := cellK hb1 (by omega) y4
  have HSV := hid (hsv.below bb1); have HW1 := hid hW1; have GW1 := hid hb01
  rw [hW1] at y3' y4'
  clear hsv hb1 bb1 hW1 hb01 qb hfar y0 y1 y2 y3 y4 f0 f1 f2 f3 f4
  go_wp2_with fail
  rw [← HW1.out]
  refine (HF.out _ GW1.out).mono ?_
  rintro e w2 ⟨F1, e1, F2, e2, rfl, hqv, hb2⟩
  have z2 := hb2.size
  have k3' := cellK hb2 (by omega) ((congrArg (fun W => World.cell? W ⟨w.heap.size + 1, 0, none⟩) HW1.out).trans y3')
  have k4' := cellK hb2 (by omega) ((congrArg (fun W => World.cell? W ⟨w.heap.size + 1, 1, none⟩) HW1.out).trans y4')
  have n3 := frozenK hb2 (by omega) f3'
  have n4 := frozenK hb2 (by omega) f4'
  have m0' := cellK hb2 (by omega) m0
  have m1' := cellK hb2 (by omega) m1
  have m2' := cellK hb2 (by omega) m2
  obtain ⟨W2, hW2⟩ : ∃ W, W = (w2.setCell ⟨w.heap.size + 1, 0, none⟩ (.slice F1 q.1.length e1)).setCell ⟨w.heap.size + 1, 1, none⟩ (.slice F2 q.2.length e2) := ⟨_, rfl⟩
  have bb2 : Below w.heap.size w2 W2 := by rw [hW2]; exact Below.setCell (Below.setCell (Below.refl _ w2) (show w.heap.size ≤ w.heap.size + 1 by omega) _) (show w.heap.size ≤ w.heap.size + 1 by omega) _
  have zW2 : W2.heap.size = w2.heap.size := by rw [hW2]; simp [World.setCell]
  have htwo : Two w W2 s q (.slice B1 s.1.length b1) (.slice B2 s.2.1.length b2) (.slice B3 s.2.2.length b3) (.slice F1 q.1.length e1) (.slice F2 q.2.length e2) := by
    have hbw := GW1.out.trans ((hb2.mono (by omega)).trans bb2)
    refine ⟨by omega, hbw, ?_, ?_, ?_, ?_, ?_, (HSV.out.below ((hb2.mono (by omega)).trans bb2)).more hbw.size, (hqv.below bb2).more hbw.size⟩
    · rw [hW2]; exact cell_far (by omega) (cell_far (by omega) m0')
    · rw [hW2]; exact cell_far (by omega) (cell_far (by omega) m1')
    · rw [hW2]; exact cell_far (by omega) (cell_far (by omega) m2')
    · rw [hW2]; exact cell_beside (by omega) (cell_here k3')
    · rw [hW2]; exact cell_here (cell_beside (by omega) k4')
  have HW2 := hid hW2; have HT2 := hid htwo
  clear hqv hb2 bb2 hW2 htwo y3' y4' f3' f4' m0 m1 m2 m0' m1' m2' k0 k1' k2' n0 n1 n2 q3 q4
  obtain ⟨tl, -, s0, s1, s2, q0, q1, -, -⟩ := HT2.out
  have HC := hid (covering_any _ _ s q W2 HT2.out.sv HT2.out.qv (by omega) (by omega))
  have HNF := hid (covX_in (s := s) (q := q) hs9)
  have hw2 := HW2.out
  have s0i := s0; have s1i := s1; have s2i := s2; have q0i := q0; have q1i := q1
  rw [hw2] at s0i s1i s2i q0i q1i
  clear hw2
  have HRC := hid (fun W (hb : Below W2.heap.size W2 W) => refCovering_any _ _ s q W (HT2.out.sv.on hb) (HT2.out.qv.on hb) (by omega) (by omega))
  have hhd := covX_head (s := s) (q := q)
  generalize covX s q = r at *
  obtain ⟨ra, re⟩ := r
  simp only at hhd HNF
  have HHD := hid hhd
  clear hhd
  go_wp2_with fail
  rw [← HW2.out]
  refine HC.out.mono ?_
  rintro e w3 ⟨v, rfl, hov, hb3⟩
  obtain ⟨Av, cv, rfl⟩ := own_formB hov
  have HB3 := hid hb3; have HOV := hid hov
  have s0 := cellK hb3 (by omega) s0
  have s1 := cellK hb3 (by omega) s1
  have s2 := cellK hb3 (by omega) s2
  have q0 := cellK hb3 (by omega) q0
  have q1 := cellK hb3 (by omega) q1
  clear hb3 hov k3' k4' n3 n4 s0i s1i s2i q0i q1i
  go_wp2_with fail
  refine (HRC.out _ HB3.out).mono ?_
  rintro e w4 ⟨u, rfl, hou, hb4⟩
  obtain ⟨Au, cu, rfl⟩ := own_formB hou
  have HN3 := hid (good_ints.on (rdInts_of_own rfl HOV.out HNF.out) hb4)
  have HN4 := hid (rdInts_of_own rfl hou HNF.out)
  have HO4 := hid (own_stays HOV.out hb4)
  have HB4 := hid (HB3.out.trans (hb4.mono HB3.out.size))
  clear hb4 hou s0 s1 s2 q0 q1
  go_wp2_with fail
  refine (refSame8_any _ _ ra ra w4 HN3.out HN4.out).mono ?_
  rintro e w5 ⟨rfl, hq5⟩
  have HO5 := hid (own_stays HO4.out (hq5.below _))
  have hb5 := HB4.out.trans ((hq5.below _).mono HB4.out.size)
  have HB5 := hid hb5; clear hb5 hq5
  have t9 : decide (ra = ra) = true := by simp
  have hne : (re != re) = false := by simp
  by_cases hre : re = 0
  · subst hre
    obtain ⟨t, rfl⟩ := HHD.out rfl
    obtain ⟨A5, c5, e5, -, -, h5⟩ := own_cells2 HO5.out
    injection e5 with e5 _ e6
    subst e5; subst e6
    obtain ⟨g, rfl, hg1, hg2, -, hcell⟩ := h5 (by simp)
    have k0 : w5.cell? ⟨g, 0, none⟩ = some (.int .i64 0) := hcell 0 (by simp)
    have hl0 : (0 : Int) < ((0 :: t : List Int).length : Int) := by simp <;> omega
    clear hcell h5
    go_wp2_with fail
    refine (lives_true _).mono ?_
    rintro e w6 ⟨rfl, hb6⟩
    have HB6 := hid (HB5.out.trans (hb6.mono HB5.out.size)); clear hb6
    go_wp2
    go_ret
    exact ⟨by simp, HT2.out.b.trans (HB6.out.mono HT2.out.b.size)⟩
  · have hre' : (re != 0) = true := by simpa using hre
    go_wp2_with fail
    refine (lives_true _).mono ?_
    rintro e w6 ⟨rfl, hb6⟩
    have HB6 := hid (HB5.out.trans (hb6.mono HB5.out.size)); clear hb6
    go_wp2
    go_ret
    exact ⟨by simp, HT2.out.b.trans (HB6.out.mono HT2.out.b.size)⟩
end Go.Proofs.YtgoapnkdcfcjgaaGreat
/- Arguments opened: lists of texts and of numbers, schemas. -/
namespace Go.Proofs.YtgoapnkdcfcjgaaGreat
open Go.ChangeShapes Go.WideShapes Go.ChangeAt Go.RowKit Go.Deep
set_option linter.unusedVariables false
set_option linter.unusedSimpArgs false

theorem opens_rowsQ : Opens Tryz.prog 24 1 (rdSlice 1 rdInts) := opens_slice (e := 27) good_ints Tryz.underlying24 opens_intsQ (by kernel_rfl) (by omega)
theorem opens_dim : Opens Tryz.prog 54 2 rdDim := by
  refine opens_struct (k := 2) Tryz.underlying54 (by kernel_rfl) ?_
  exact opensF_cons (k2 := 1) (by rfl) (opens_str Tryz.underlying9 (by kernel_rfl)) (opensF_one (by rfl) opens_strsQ)
theorem opens_dims : Opens Tryz.prog 22 1 (rdSlice 2 rdDim) := opens_slice (e := 54) good_dim Tryz.underlying22 opens_dim (by kernel_rfl) (by omega)
theorem opens_schema : Opens Tryz.prog 26 3 rdSchema := by
  refine opens_struct (k := 3) Tryz.underlying26 (by kernel_rfl) ?_
  exact opensF_cons (k2 := 2) (by rfl) opens_dims (opensF_cons (k2 := 1) (by rfl) opens_strsQ (opensF_one (by rfl) opens_rowsQ))
end Go.Proofs.YtgoapnkdcfcjgaaGreat
/- Arguments opened: queries. -/
namespace Go.Proofs.YtgoapnkdcfcjgaaGreat
open Go.ChangeShapes Go.WideShapes Go.ChangeAt Go.RowKit Go.Deep
set_option linter.unusedVariables false
set_option linter.unusedSimpArgs false

theorem opens_filter : Opens Tryz.prog 83 3 rdFilter := by
  refine opens_struct (k := 3) Tryz.underlying83 (by kernel_rfl) ?_
  exact opensF_cons (k2 := 2) (by rfl) (opens_int Tryz.underlying3 (by kernel_rfl)) (opensF_cons (k2 := 1) (by rfl) (opens_int Tryz.underlying3 (by kernel_rfl)) (opensF_one (by rfl) opens_pathsQ))
theorem opens_filters : Opens Tryz.prog 28 1 (rdSlice 3 rdFilter) := opens_slice (e := 83) good_filter Tryz.underlying28 opens_filter (by kernel_rfl) (by omega)
theorem opens_query : Opens Tryz.prog 30 2 rdQuery := by
  refine opens_struct (k := 2) Tryz.underlying30 (by kernel_rfl) ?_
  exact opensF_cons (k2 := 1) (by rfl) opens_intsQ (opensF_one (by rfl) opens_filters)
end Go.Proofs.YtgoapnkdcfcjgaaGreat
/- The statement PlanCovers: from the walk of the law's function (it returns true, and nothing that was there has turned) to the given row. No condition. -/
namespace Go.Proofs.YtgoapnkdcfcjgaaGreat.planCovers
open Go.ChangeShapes Go.WideShapes Go.ChangeAt Go.RowKit Go.WideMaps Go.WideElems Go.Joins
open Go.ChangeMaps (open_string shut_string)
set_option linter.unusedVariables false

set_option maxRecDepth 100000 in
theorem lifted (os : Os) (started : os.Started) (H : Type) (enc : TypeId × Value → H) :
    ReturnsInHanded {} Tryz.checked os 3 .any (Rows.planCoversSpec.pre6 enc Tryz.prog Tryz.f3 Rows.planCoversRow.domain false) (Rows.planCoversSpec.post enc Tryz.prog Tryz.f3 false true false false) := by
  refine returnsInHanded_of_change (C := Tryz.checked) own started (by kernel_rfl) Tryz.func3
    (ChangeSpec.witness6 (enc := enc) (C := Tryz.checked) false ⟨#[], #[.agg #[.slice none 0 0, .slice none 0 0, .slice none 0 0], .agg #[.slice none 0 0, .slice none 0 0]], []⟩ 8 (by kernel_rfl) (by kernel_rfl) (by kernel_rfl) (by kernel_rfl)) ?_
  intro W base args ds gs before hval0 hW hcnd _
  have hval : ∀ (j : Nat) t v, Tryz.f3.params[j]? = some t → args[j]? = some v → Value.okWide Tryz.prog W .any base t v := hval0
  have hW' := hW
  obtain ⟨p, q, hA0, hV, rfl, hfz, hnd⟩ := hW
  have hA : DataW.TrodAll enc Tryz.prog W 0 (fun _ => true) true Tryz.f3.params.toList args.toList ds p := hA0
  rw [Tryz.params3] at hA hval
  obtain ⟨v0, vs0, d0, ds0, p0, q0, hargs, rfl, rfl, h0, r0⟩ := trodAll_cons hA
  obtain ⟨v1, vs1, d1, ds1, p1, q1, rfl, rfl, rfl, h1, r1⟩ := trodAll_cons r0
  obtain ⟨rfl, rfl, rfl⟩ := trodAll_nil r1
  obtain rfl : args = #[v0, v1] := by cases args; simp_all
  obtain ⟨rfl, rfl⟩ := trodVars_none hV
  obtain ⟨c0, x0, rfl, z0, s0⟩ := open_read_struct Tryz.underlying26 opens_schema (hval 0 26 v0 rfl rfl) h0
  obtain ⟨c1, x1, rfl, z1, s1⟩ := open_read_struct Tryz.underlying30 opens_query (hval 1 30 v1 rfl rfl) h1
  clear hval0
  refine (walk_PlanCovers W c0 x0 z0 s0 c1 x1 z1 s1).mono fun e W' ⟨he, hb⟩ => ?_
  subst he
  exact ⟨_, rfl, post_of_below hW' (fun _ _ _ => (trodAll_cons_mk (shut_bool Tryz.underlying4 _) trodAll_mk0)) (fun sp hs => trodAll_stays laidOut hb (by kernel_rfl) hA0 (fun x hx => hW'.lt x (List.mem_append_left _ hx)) (fun x hx => hs x (List.mem_append_left _ hx)))
    (fun _ _ => rfl) rfl hb (ok_one (by kernel_rfl) rfl (okWide_bool_mk Tryz.underlying4 _))⟩

theorem over : Rows.planCoversRow.holds Tryz.pinned (OpenSpec.ofChange Rows.planCoversSpec) :=
  OpenClaim.holds_of_wide 3 Tryz.f3 rfl rfl rfl rfl rfl rfl rfl ⟨rfl, rfl, rfl, rfl, rfl⟩ rfl rfl rfl rfl rfl (by kernel_rfl) Tryz.func3 (by kernel_rfl)
    (of_decide_eq_true (by kernel_rfl)) (by unfold Func.isWrapper; first | (rw [if_pos (by decide +kernel)]; kernel_rfl) | (rw [if_neg (by decide +kernel)]; exact ⟨rfl, rfl⟩))
    (fun os started H enc _ => lifted os started H enc)

theorem proved : Rows.PlanCoversSaid :=
  over
#print axioms proved
end Go.Proofs.YtgoapnkdcfcjgaaGreat.planCovers
