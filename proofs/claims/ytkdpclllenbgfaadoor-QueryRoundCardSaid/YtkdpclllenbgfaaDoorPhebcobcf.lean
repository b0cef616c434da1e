/- 1 text of this claim, in build order. -/
import Derived.Test.YtkdpclllenbgfaaDoorPklllhldg
import Derived.Test.YtkdpclllenbgfaaDoorPkhacagho
import Derived.Test.YtkdpclllenbgfaaDoorPocjfhjbp
/- The walk of QueryRound. -/
namespace Go.Proofs.YtkdpclllenbgfaaDoor
open Go.ChangeShapes Go.WideShapes Go.ChangeAt Go.RowKit
set_option linter.unusedVariables false
set_option linter.unusedSimpArgs false

set_option maxRecDepth 100000 in
set_option maxHeartbeats 3200000 in
theorem walk_QueryRound (w : World) (hm : MaxL w) (cs0 : Array Value) (x0 : SchemaX) (z0 : cs0.size = 3) (h0 : rdSchema w w.heap.size cs0.toList x0) (cs1 : Array Value) (x1 : QueryX) (z1 : cs1.size = 2) (h1 : rdQuery w w.heap.size cs1.toList x1) :
    Calls Tryd.prog 4 #[.agg cs0, .agg cs1] w (Gives (.bool true) w) := by
  have hs := schema_of_rd h0
  have hq := query_of_rd h1
  have hs0 := hs; have hq0 := hq
  obtain ⟨A1, c1, A2, c2, A3, c3, e, -, -, -⟩ := hs
  simp only [Value.agg.injEq] at e
  subst e
  obtain ⟨X1, d1, X2, d2, e, -, -⟩ := hq
  simp only [Value.agg.injEq] at e
  subst e
  have HSML := hid (fun W (hb : Below w.heap.size w W) => small_any _ x0 W w.heap.size hb.size (hs0.below hb))
  have HF := hid (fun W (hb : Below w.heap.size w W) => few_any _ x1 W w.heap.size hb.size (hq0.below hb))
  have HM := hid hm
  have hml := hm.lt
  clear hm
  have hl6 := few_len x1
  have hsl := small_len x0
  clear h0 h1 hs0 hq0 z0 z1
  generalize x0.1.length = k1 at *
  generalize x0.2.1.length = k2 at *
  generalize x0.2.2.length = k3 at *
  generalize x1.1.length = k4 at *
  generalize x1.2.length = k5 at *
  generalize fewQ x1 = q at *
  generalize smallS x0 = s at *
  obtain ⟨hq1, hq2⟩ := hl6
  obtain ⟨W0, hW0⟩ : ∃ W, W = (w.alloc (.cells #[.slice A1 k1 c1, .slice A2 k2 c2, .slice A3 k3 c3] 44)).alloc (.cells #[.slice X1 k4 d1, .slice X2 k5 d2] 32) := ⟨_, rfl⟩
  have g0 : Below w.heap.size w W0 := by rw [hW0]; exact (bl1 w _).alloc (by simp) _
  have z0 : W0.heap.size = w.heap.size + 1 + 1 := by rw [hW0]; simp
  have y0 : W0.cell? ⟨w.heap.size, 0, none⟩ = some (.slice A1 k1 c1) := by rw [hW0]; simp [go_sem]
  have y1 : W0.cell? ⟨w.heap.size, 1, none⟩ = some (.slice A2 k2 c2) := by rw [hW0]; simp [go_sem]
  have y2 : W0.cell? ⟨w.heap.size, 2, none⟩ = some (.slice A3 k3 c3) := by rw [hW0]; simp [go_sem]
  have y3 : W0.cell? ⟨w.heap.size + 1, 0, none⟩ = some (.slice X1 k4 d1) := by rw [hW0]; simp [go_sem]
  have y4 : W0.cell? ⟨w.heap.size + 1, 1, none⟩ = some (.slice X2 k5 d2) := by rw [hW0]; simp [go_sem]
  have f0 : W0.frozen? ⟨w.heap.size, 0, none⟩ = false := by rw [hW0]; simp [go_sem]
  have f1 : W0.frozen? ⟨w.heap.size, 1, none⟩ = false := by rw [hW0]; simp [go_sem]
  have f2 : W0.frozen? ⟨w.heap.size, 2, none⟩ = false := by rw [hW0]; simp [go_sem]
  have f3 : W0.frozen? ⟨w.heap.size + 1, 0, none⟩ = false := by rw [hW0]; simp [go_sem]
  have f4 : W0.frozen? ⟨w.heap.size + 1, 1, none⟩ = false := by rw [hW0]; simp [go_sem]
  have HW0 := hid hW0; have G0 := hid g0
  clear hW0 g0
  go_enter Tryd.func4, Tryd.ntmps4
  go_wp2_with fail
  rw [← HW0.out]
  refine (HSML.out _ G0.out).mono ?_
  rintro e w1 ⟨B1, b1, B2, b2, B3, b3, rfl, hsv, hb1⟩
  have z1 := hb1.size
  have k0 := cellK hb1 (by omega) y0
  have k1' := cellK hb1 (by omega) y1
  have k2' := cellK hb1 (by omega) y2
  have n0 := frozenK hb1 (by omega) f0
  have n1 := frozenK hb1 (by omega) f1
  have n2 := frozenK hb1 (by omega) f2
  obtain ⟨W1, hW1⟩ : ∃ W, W = ((w1.setCell ⟨w.heap.size, 0, none⟩ (.slice B1 s.1.length b1)).setCell ⟨w.heap.size, 1, none⟩ (.slice B2 s.2.1.length b2)).setCell ⟨w.heap.size, 2, none⟩ (.slice B3 s.2.2.length b3) := ⟨_, rfl⟩
  have bb1 : Below w.heap.size w1 W1 := by rw [hW1]; exact Below.setCell (Below.setCell (Below.setCell (Below.refl _ w1) (show w.heap.size ≤ w.heap.size from Nat.le_refl _) _) (show w.heap.size ≤ w.heap.size from Nat.le_refl _) _) (show w.heap.size ≤ w.heap.size from Nat.le_refl _) _
  have zW1 : W1.heap.size = w1.heap.size := by rw [hW1]; simp [World.setCell]
  have hfar : ∀ g, g ≠ w.heap.size → W1.heap[g]? = w1.heap[g]? := fun g hg => by rw [hW1]; exact (Below.heap_setCell _ _ _ g (by simp; omega)).trans ((Below.heap_setCell _ _ _ g (by simp; omega)).trans (Below.heap_setCell _ _ _ g (by simp; omega)))
  have m0 : W1.cell? ⟨w.heap.size, 0, none⟩ = some (.slice B1 s.1.length b1) := by rw [hW1]; exact cell_beside (by omega) (cell_beside (by omega) (cell_here k0))
  have m1 : W1.cell? ⟨w.heap.size, 1, none⟩ = some (.slice B2 s.2.1.length b2) := by rw [hW1]; exact cell_beside (by omega) (cell_here (cell_beside (by omega) k1'))
  have m2 : W1.cell? ⟨w.heap.size, 2, none⟩ = some (.slice B3 s.2.2.length b3) := by rw [hW1]; exact cell_here (cell_beside (by omega) (cell_beside (by omega) k2'))
  have hb01 := G0.out.trans ((hb1.mono (by omega)).trans bb1)
  have qb : W1.heap[w.heap.size + 1]? = W0.heap[w.heap.size + 1]? := (hfar _ (by omega)).trans (hb1.block _ (by omega))
  have y3' : W1.cell? ⟨w.heap.size + 1, 0, none⟩ = some (.slice X1 k4 d1) := (World.cell?_of_block (a := ⟨w.heap.size + 1, 0, none⟩) qb).trans y3
  have y4' : W1.cell? ⟨w.heap.size + 1, 1, none⟩ = some (.slice X2 k5 d2) := (World.cell?_of_block (a := ⟨w.heap.size + 1, 1, none⟩) qb).trans y4
  have f3' : W1.frozen? ⟨w.heap.size + 1, 0, none⟩ = false := (World.frozen?_of_block (a := ⟨w.heap.size + 1, 0, none⟩) qb).trans f3
  have f4' : W1.frozen? ⟨w.heap.size + 1, 1, none⟩ = false := (World.frozen?_of_block (a := ⟨w.heap.size + 1, 1, none⟩) qb).trans f4
  have q3 : w1.cell? ⟨w.heap.size + 1, 0, none⟩ = some (.slice X1 k4 d1) := cellK hb1 (by omega) y3
  have q4 : w1.cell? ⟨w.heap.size + 1, 1, none⟩ = some (.slice X2 k5 d2) := cellK hb1 (by omega) y4
  have HSV := hid (hsv.below bb1); have HW1 := hid hW1; have GW1 := hid hb01
  rw [hW1] at y3' y4'
  clear hsv hb1 bb1 hW1 hb01 qb hfar y0 y1 y2 y3 y4 f0 f1 f2 f3 f4
  go_wp2_with fail
  rw [← HW1.out]
  refine (HF.out _ GW1.out).mono ?_
  rintro e w2 ⟨F1, e1, F2, e2, rfl, hr, hf, hii, hb2⟩
  have z2 := hb2.size
  have k3' := cellK hb2 (by omega) ((congrArg (fun W => World.cell? W ⟨w.heap.size + 1, 0, none⟩) HW1.out).trans y3')
  have k4' := cellK hb2 (by omega) ((congrArg (fun W => World.cell? W ⟨w.heap.size + 1, 1, none⟩) HW1.out).trans y4')
  have n3 := frozenK hb2 (by omega) f3'
  have n4 := frozenK hb2 (by omega) f4'
  have m0' := cellK hb2 (by omega) m0
  have m1' := cellK hb2 (by omega) m1
  have m2' := cellK hb2 (by omega) m2
  obtain ⟨W2, hW2⟩ : ∃ W, W = (w2.setCell ⟨w.heap.size + 1, 0, none⟩ (.slice F1 q.1.length e1)).setCell ⟨w.heap.size + 1, 1, none⟩ (.slice F2 q.2.length e2) := ⟨_, rfl⟩
  have bb2 : Below w.heap.size w2 W2 := by rw [hW2]; exact Below.setCell (Below.setCell (Below.refl _ w2) (show w.heap.size ≤ w.heap.size + 1 by omega) _) (show w.heap.size ≤ w.heap.size + 1 by omega) _
  have zW2 : W2.heap.size = w2.heap.size := by rw [hW2]; simp [World.setCell]
  have htwo : Two w W2 s q (.slice B1 s.1.length b1) (.slice B2 s.2.1.length b2) (.slice B3 s.2.2.length b3) (.slice F1 q.1.length e1) (.slice F2 q.2.length e2) := by
    have hbw := GW1.out.trans ((hb2.mono (by omega)).trans bb2)
    refine ⟨by omega, hbw, ?_, ?_, ?_, ?_, ?_, (HSV.out.below ((hb2.mono (by omega)).trans bb2)).more hbw.size, few_v hr hf hii bb2 (fun g h1 h2 => by rw [hW2]; exact (Below.heap_setCell _ _ _ g (by simp; omega)).trans (Below.heap_setCell _ _ _ g (by simp; omega))) hbw.size⟩
    · rw [hW2]; exact cell_far (by omega) (cell_far (by omega) m0')
    · rw [hW2]; exact cell_far (by omega) (cell_far (by omega) m1')
    · rw [hW2]; exact cell_far (by omega) (cell_far (by omega) m2')
    · rw [hW2]; exact cell_beside (by omega) (cell_here k3')
    · rw [hW2]; exact cell_here (cell_beside (by omega) k4')
  have HW2 := hid hW2; have HT2 := hid htwo
  clear hr hf hii hb2 bb2 hW2 htwo y3' y4' f3' f4' m0 m1 m2 m0' m1' m2' k0 k1' k2' n0 n1 n2 q3 q4
  have HT3 := HT2
  obtain ⟨tl, -, s0, s1, s2, q0, q1, -, -⟩ := HT2.out
  have HP := hid (putQ_any (.slice none 0 0) _ [] q W2 (sl_nil8 _) (by simp) HT2.out.qv)
  have HMY := hid (fun W (hb : Below W2.heap.size W2 W) => mayQ_any _ _ s q W (HT2.out.sv.on hb) (HT2.out.qv.on hb) (by omega))
  unfold PutQP at HP
  rw [List.nil_append] at HP
  have hw2 := HW2.out
  have hz2 := HT2.out.b.size
  have s0i := s0; have s1i := s1; have s2i := s2; have q0i := q0; have q1i := q1
  rw [hw2] at s0i s1i s2i q0i q1i
  clear hw2
  go_wp2_with fail
  rw [← HW2.out]
  refine HP.out.mono ?_
  rintro e w3 hp3
  rcases hp3 with ⟨hpl, r, rfl, ho3, hb3⟩ | ⟨hpl, rfl, hb3⟩
  case inr =>
    have hmy : mayQ s q ≠ 0 := by
      unfold mayQ
      rw [hpl]
      split <;> simp
    have t1 : (mayQ s q != 0) = true := by simpa using hmy
    have HB3 := hid hb3
    obtain ⟨tl, -, s0, s1, s2, q0, q1, -, -⟩ := (HT2.out.on HB3.out)
    clear hb3 hpl hmy s0i s1i s2i q0i q1i
    generalize mayQ s q = my at *
    go_wp2_with fail
    refine (HMY.out _ HB3.out).mono ?_
    rintro e w5 ⟨rfl, hb5⟩
    have HB5 := hid (HB3.out.trans (hb5.mono HB3.out.size)); clear hb5
    go_wp2_with fail
    refine (lives_true _).mono ?_
    rintro e w6 ⟨rfl, hb6⟩
    have HB6 := hid (HB5.out.trans (hb6.mono HB5.out.size)); clear hb6
    go_wp2
    go_ret
    exact ⟨rfl, HT2.out.b.trans (HB6.out.mono HT2.out.b.size)⟩
  case inl =>
    have hrq := readQ_put q hpl []
    rw [List.append_nil] at hrq
    have hlq := putQ_len hpl
    have hok := readQ_ok (putQ q) 0 0 (by omega)
    rw [hrq] at hok
    have HOK := hid hok.1
    have HRQ := hid hrq
    have HB3 := hid hb3
    have S3 := hid ho3.sl
    obtain ⟨A3, c3, rfl⟩ := ho3.form
    obtain ⟨tl, -, s0, s1, s2, q0, q1, -, -⟩ := (HT2.out.on HB3.out)
    have he0 : rEnd (putQ q) (putQ q).length 0 = 0 := by unfold rEnd; simp
    have HE0 := hid he0
    clear hpl hb3 ho3 hrq hok he0 s0i s1i s2i q0i q1i
    generalize putQ q = T at *
    have HN := hid (new2_any _ T w3 S3.out (by omega))
    have z3 := HB3.out.size
    clear s0 s1 s2
    go_wp2_with fail
    refine HN.out.mono ?_
    rintro en w4 ⟨p, rfl, hr4, hp4, -, hb4⟩
    have z4 := hb4.size
    have B4 := hid (HB3.out.trans (hb4.mono z3))
    have hpl := hr4.lt
    have q0 := cellK hb4 (by omega) q0
    have q1 := cellK hb4 (by omega) q1
    have HD := hid (readQ_any p p T 0 0 w4 hr4 (HM.out.on (HT2.out.b.trans (B4.out.mono hz2))) (by omega) (by omega))
    clear hr4 hb4
    rw [HRQ.out] at HD
    unfold ReadQPost at HD
    simp only at HD
    go_wp2_with fail
    refine HD.out.mono ?_
    rintro en w5 ⟨gv, fv, rfl, hg5, hf5, hr5, hu5⟩
    obtain ⟨Ag, cg, rfl⟩ := own_formB hg5
    have hf5' := hf5
    obtain ⟨vs5, -, h5, -⟩ := hf5'
    obtain ⟨Af, cf, rfl⟩ := own_formB h5
    clear h5
    have hs5 := hu5.size
    obtain ⟨W5, hW5⟩ : ∃ W, W = w5.alloc (.cells #[.slice Ag q.1.length cg, .slice Af q.2.length cf] 32) := ⟨_, rfl⟩
    have b5 : Below w5.heap.size w5 W5 := by rw [hW5]; exact bl1 _ _
    have z5 : W5.heap.size = w5.heap.size + 1 := by rw [hW5]; simp
    have y0 : W5.cell? ⟨w5.heap.size, 0, none⟩ = some (.slice Ag q.1.length cg) := by rw [hW5]; simp [go_sem]
    have y1 : W5.cell? ⟨w5.heap.size, 1, none⟩ = some (.slice Af q.2.length cf) := by rw [hW5]; simp [go_sem]
    have q0 : W5.cell? ⟨w.heap.size + 1, 0, none⟩ = some (.slice F1 q.1.length e1) := cellK b5 (by omega) (hu5.cellAt (by omega) (by omega) q0)
    have q1 : W5.cell? ⟨w.heap.size + 1, 1, none⟩ = some (.slice F2 q.2.length e2) := cellK b5 (by omega) (hu5.cellAt (by omega) (by omega) q1)
    have HR5 := hid (hr5.below b5)
    have B5 := hid ((B4.out.trans (hu5.below (B := W2.heap.size) (by omega) (by omega))).trans (b5.mono (by omega)))
    have v1 : QueryV W5 W5.heap.size (.agg #[.slice Ag q.1.length cg, .slice Af q.2.length cf]) q :=
      queryV_of (own_keepT hg5 (KeepT.of_below b5)) (hf5.keepT (fun _ => KeepT.of_below b5)) HOK.out
    have HSM := hid (sameQ_any _ _ q q W5 v1 (HT2.out.qv.on B5.out))
    unfold SameQPost at HSM
    rw [decide_eq_true rfl] at HSM
    have i0 := y0; have i1 := y1; have i2 := q0; have i3 := q1
    rw [hW5] at i0 i1 i2 i3
    have HW5 := hid hW5
    clear hr5 hu5 hg5 hf5 v1 hW5 b5 y0 y1 q0 q1
    go_wp2_with fail
    rw [← HW5.out]
    refine HSM.out.mono ?_
    rintro en w6 ⟨rfl, hb6⟩
    have HR6 := hid (HR5.out.below hb6)
    have B6 := hid (B5.out.trans (hb6.mono B5.out.size))
    have E1 := hid (readEnd_any p p T T.length 0 w6 HR6.out)
    rw [HE0.out] at E1
    clear hb6 i0 i1 i2 i3
    go_wp2_with fail
    refine E1.out.mono ?_
    rintro en w7 ⟨rfl, hq7⟩
    have B7 := hid (B6.out.trans (hq7.below _))
    clear hq7
    go_wp2_with fail
    refine (lives_true _).mono ?_
    rintro e w8 ⟨rfl, hb8⟩
    have B8 := hid (B7.out.trans (hb8.mono B7.out.size)); clear hb8
    go_wp2
    go_ret
    exact ⟨rfl, HT2.out.b.trans (B8.out.mono HT2.out.b.size)⟩
end Go.Proofs.YtkdpclllenbgfaaDoor
