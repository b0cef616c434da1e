/- The walk of QueryMay. -/
import Derived.Test.YtafmdpnfigkbfabQry16
import Derived.Test.YtafmdpnfigkbfabRef8a
import Derived.Test.YtafmdpnfigkbfabRef12b
import Derived.Test.YtafmdpnfigkbfabRef12c
namespace Go.Proofs.Ytafmdpnfigkbfab
open Go.ChangeShapes Go.WideShapes Go.ChangeAt Go.RowKit
set_option linter.unusedVariables false
set_option linter.unusedSimpArgs false

theorem setMax_fits {l : List Int} {f : FilterX} (h1 : ∀ x ∈ l, InI64 x) (h2 : InI64 f.2.1) : ∀ x ∈ setMax l f, InI64 x := by
  intro x hx
  unfold setMax at hx
  obtain ⟨k, hk, rfl⟩ := List.mem_iff_getElem.1 hx
  rw [List.length_set] at hk
  rw [List.getElem_set]
  split
  · next e =>
    subst e
    rw [List.getD_eq_getElem?_getD, List.getElem?_eq_getElem hk]
    have := h1 _ (List.getElem_mem hk)
    simp only [Option.getD_some]
    rcases Int.le_total l[f.1.toNat] f.2.1 with h | h
    · rw [Int.max_eq_right h]; exact h2
    · rw [Int.max_eq_left h]; exact this
  · exact h1 _ (List.getElem_mem hk)
theorem need_fits {w : World} {B : Nat} {x : Value} {q : QueryX} (h : QueryV w B x q) : ∀ n ∈ needQ q, InI64 n := by
  obtain ⟨A1, c1, A2, c2, rfl, h1, h2⟩ := h
  have a : ∀ n ∈ q.1, InI64 n := fun n hn => by
    obtain ⟨k, hk, rfl⟩ := List.mem_iff_getElem.1 hn
    obtain ⟨_, _, _, _, _, h⟩ := ints_at' h1 hk
    exact h
  have b : ∀ f ∈ q.2, InI64 f.2.1 := fun f hf => by
    obtain ⟨k, hk, rfl⟩ := List.mem_iff_getElem.1 hf
    obtain ⟨_, _, _, _, _, _, _, _, _, _, h, _⟩ := filters_at h2 hk
    exact h
  unfold needQ
  generalize q.1 = l at *
  generalize q.2 = fs at *
  clear h1 h2
  induction fs generalizing l with
  | nil => exact a
  | cons f fs ih => exact ih _ (setMax_fits a (b f List.mem_cons_self)) (fun g hg => b g (List.mem_cons_of_mem _ hg))
set_option maxRecDepth 100000 in
set_option maxHeartbeats 3200000 in
theorem walk_QueryMay (w : World) (cs0 : Array Value) (x0 : SchemaX) (z0 : cs0.size = 3) (h0 : rdSchema w w.heap.size cs0.toList x0) (cs1 : Array Value) (x1 : QueryX) (z1 : cs1.size = 2) (h1 : rdQuery w w.heap.size cs1.toList x1) :
    Calls Try.prog 3 #[.agg cs0, .agg cs1] w (Gives (.bool true) w) := by
  have hs := schema_of_rd h0
  have hq := query_of_rd h1
  have hs0 := hs; have hq0 := hq
  obtain ⟨A1, c1, A2, c2, A3, c3, e, -, -, -⟩ := hs
  simp only [Value.agg.injEq] at e
  subst e
  obtain ⟨X1, d1, X2, d2, e, -, -⟩ := hq
  simp only [Value.agg.injEq] at e
  subst e
  have HSML := hid (fun W (hb : Below w.heap.size w W) => small_any _ x0 W w.heap.size hb.size (hs0.below hb))
  have HF := hid (fun W (hb : Below w.heap.size w W) => few_any _ x1 W w.heap.size hb.size (hq0.below hb))
  have hl6 := few_len x1
  have hsl := small_len x0
  clear h0 h1 hs0 hq0 z0 z1
  generalize x0.1.length = k1 at *
  generalize x0.2.1.length = k2 at *
  generalize x0.2.2.length = k3 at *
  generalize x1.1.length = k4 at *
  generalize x1.2.length = k5 at *
  generalize fewQ x1 = q at *
  generalize smallS x0 = s at *
  obtain ⟨hq1, hq2⟩ := hl6
  obtain ⟨W0, hW0⟩ : ∃ W, W = (w.alloc (.cells #[.slice A1 k1 c1, .slice A2 k2 c2, .slice A3 k3 c3] 26)).alloc (.cells #[.slice X1 k4 d1, .slice X2 k5 d2] 30) := ⟨_, rfl⟩
  have g0 : Below w.heap.size w W0 := by rw [hW0]; exact (bl1 w _).alloc (by simp) _
  have z0 : W0.heap.size = w.heap.size + 1 + 1 := by rw [hW0]; simp
  have y0 : W0.cell? ⟨w.heap.size, 0, none⟩ = some (.slice A1 k1 c1) := by rw [hW0]; simp [go_sem]
  have y1 : W0.cell? ⟨w.heap.size, 1, none⟩ = some (.slice A2 k2 c2) := by rw [hW0]; simp [go_sem]
  have y2 : W0.cell? ⟨w.heap.size, 2, none⟩ = some (.slice A3 k3 c3) := by rw [hW0]; simp [go_sem]
  have y3 : W0.cell? ⟨w.heap.size + 1, 0, none⟩ = some (.slice X1 k4 d1) := by rw [hW0]; simp [go_sem]
  have y4 : W0.cell? ⟨w.heap.size + 1, 1, none⟩ = some (.slice X2 k5 d2) := by rw [hW0]; simp [go_sem]
  have f0 : W0.frozen? ⟨w.heap.size, 0, none⟩ = false := by rw [hW0]; simp [go_sem]
  have f1 : W0.frozen? ⟨w.heap.size, 1, none⟩ = false := by rw [hW0]; simp [go_sem]
  have f2 : W0.frozen? ⟨w.heap.size, 2, none⟩ = false := by rw [hW0]; simp [go_sem]
  have f3 : W0.frozen? ⟨w.heap.size + 1, 0, none⟩ = false := by rw [hW0]; simp [go_sem]
  have f4 : W0.frozen? ⟨w.heap.size + 1, 1, none⟩ = false := by rw [hW0]; simp [go_sem]
  have HW0 := hid hW0; have G0 := hid g0
  clear hW0 g0
  go_enter Try.func3, Try.ntmps3
  go_wp2_with fail
  rw [← HW0.out]
  refine (HSML.out _ G0.out).mono ?_
  rintro e w1 ⟨B1, b1, B2, b2, B3, b3, rfl, hsv, hb1⟩
  have z1 := hb1.size
  have k0 := cellK hb1 (by omega) y0
  have k1' := cellK hb1 (by omega) y1
  have k2' := cellK hb1 (by omega) y2
  have n0 := frozenK hb1 (by omega) f0
  have n1 := frozenK hb1 (by omega) f1
  have n2 := frozenK hb1 (by omega) f2
  obtain ⟨W1, hW1⟩ : ∃ W, W = ((w1.setCell ⟨w.heap.size, 0, none⟩ (.slice B1 s.1.length b1)).setCell ⟨w.heap.size, 1, none⟩ (.slice B2 s.2.1.length b2)).setCell ⟨w.heap.size, 2, none⟩ (.slice B3 s.2.2.length b3) := ⟨_, rfl⟩
  have bb1 : Below w.heap.size w1 W1 := by rw [hW1]; exact Below.setCell (Below.setCell (Below.setCell (Below.refl _ w1) (show w.heap.size ≤ w.heap.size from Nat.le_refl _) _) (show w.heap.size ≤ w.heap.size from Nat.le_refl _) _) (show w.heap.size ≤ w.heap.size from Nat.le_refl _) _
  have zW1 : W1.heap.size = w1.heap.size := by rw [hW1]; simp [World.setCell]
  have hfar : ∀ g, g ≠ w.heap.size → W1.heap[g]? = w1.heap[g]? := fun g hg => by rw [hW1]; exact (Below.heap_setCell _ _ _ g (by simp; omega)).trans ((Below.heap_setCell _ _ _ g (by simp; omega)).trans (Below.heap_setCell _ _ _ g (by simp; omega)))
  have m0 : W1.cell? ⟨w.heap.size, 0, none⟩ = some (.slice B1 s.1.length b1) := by rw [hW1]; exact cell_beside (by omega) (cell_beside (by omega) (cell_here k0))
  have m1 : W1.cell? ⟨w.heap.size, 1, none⟩ = some (.slice B2 s.2.1.length b2) := by rw [hW1]; exact cell_beside (by omega) (cell_here (cell_beside (by omega) k1'))
  have m2 : W1.cell? ⟨w.heap.size, 2, none⟩ = some (.slice B3 s.2.2.length b3) := by rw [hW1]; exact cell_here (cell_beside (by omega) (cell_beside (by omega) k2'))
  have hb01 := G0.out.trans ((hb1.mono (by omega)).trans bb1)
  have qb : W1.heap[w.heap.size + 1]? = W0.heap[w.heap.size + 1]? := (hfar _ (by omega)).trans (hb1.block _ (by omega))
  have y3' : W1.cell? ⟨w.heap.size + 1, 0, none⟩ = some (.slice X1 k4 d1) := (World.cell?_of_block (a := ⟨w.heap.size + 1, 0, none⟩) qb).trans y3
  have y4' : W1.cell? ⟨w.heap.size + 1, 1, none⟩ = some (.slice X2 k5 d2) := (World.cell?_of_block (a := ⟨w.heap.size + 1, 1, none⟩) qb).trans y4
  have f3' : W1.frozen? ⟨w.heap.size + 1, 0, none⟩ = false := (World.frozen?_of_block (a := ⟨w.heap.size + 1, 0, none⟩) qb).trans f3
  have f4' : W1.frozen? ⟨w.heap.size + 1, 1, none⟩ = false := (World.frozen?_of_block (a := ⟨w.heap.size + 1, 1, none⟩) qb).trans f4
  have q3 : w1.cell? ⟨w.heap.size + 1, 0, none⟩ = some (.slice X1 k4 d1) := cellK hb1 (by omega) y3
  have q4 : w1.cell? ⟨w.heap.size + 1, 1, none⟩ = some (.slice X2 k5 d2) := cellK hb1 (by omega) y4
  have HSV := hid (hsv.below bb1); have HW1 := hid hW1; have GW1 := hid hb01
  rw [hW1] at y3' y4'
  clear hsv hb1 bb1 hW1 hb01 qb hfar y0 y1 y2 y3 y4 f0 f1 f2 f3 f4
  go_wp2_with fail
  rw [← HW1.out]
  refine (HF.out _ GW1.out).mono ?_
  rintro e w2 ⟨F1, e1, F2, e2, rfl, hr, hf, hii, hb2⟩
  have z2 := hb2.size
  have k3' := cellK hb2 (by omega) ((congrArg (fun W => World.cell? W ⟨w.heap.size + 1, 0, none⟩) HW1.out).trans y3')
  have k4' := cellK hb2 (by omega) ((congrArg (fun W => World.cell? W ⟨w.heap.size + 1, 1, none⟩) HW1.out).trans y4')
  have n3 := frozenK hb2 (by omega) f3'
  have n4 := frozenK hb2 (by omega) f4'
  have m0' := cellK hb2 (by omega) m0
  have m1' := cellK hb2 (by omega) m1
  have m2' := cellK hb2 (by omega) m2
  obtain ⟨W2, hW2⟩ : ∃ W, W = (w2.setCell ⟨w.heap.size + 1, 0, none⟩ (.slice F1 q.1.length e1)).setCell ⟨w.heap.size + 1, 1, none⟩ (.slice F2 q.2.length e2) := ⟨_, rfl⟩
  have bb2 : Below w.heap.size w2 W2 := by rw [hW2]; exact Below.setCell (Below.setCell (Below.refl _ w2) (show w.heap.size ≤ w.heap.size + 1 by omega) _) (show w.heap.size ≤ w.heap.size + 1 by omega) _
  have zW2 : W2.heap.size = w2.heap.size := by rw [hW2]; simp [World.setCell]
  have htwo : Two w W2 s q (.slice B1 s.1.length b1) (.slice B2 s.2.1.length b2) (.slice B3 s.2.2.length b3) (.slice F1 q.1.length e1) (.slice F2 q.2.length e2) := by
    have hbw := GW1.out.trans ((hb2.mono (by omega)).trans bb2)
    refine ⟨by omega, hbw, ?_, ?_, ?_, ?_, ?_, (HSV.out.below ((hb2.mono (by omega)).trans bb2)).more hbw.size, few_v hr hf hii bb2 (fun g h1 h2 => by rw [hW2]; exact (Below.heap_setCell _ _ _ g (by simp; omega)).trans (Below.heap_setCell _ _ _ g (by simp; omega))) hbw.size⟩
    · rw [hW2]; exact cell_far (by omega) (cell_far (by omega) m0')
    · rw [hW2]; exact cell_far (by omega) (cell_far (by omega) m1')
    · rw [hW2]; exact cell_far (by omega) (cell_far (by omega) m2')
    · rw [hW2]; exact cell_beside (by omega) (cell_here k3')
    · rw [hW2]; exact cell_here (cell_beside (by omega) k4')
  have HW2 := hid hW2; have HT2 := hid htwo
  clear hr hf hii hb2 bb2 hW2 htwo y3' y4' f3' f4' m0 m1 m2 m0' m1' m2' k0 k1' k2' n0 n1 n2 q3 q4
  have HT3 := HT2
  obtain ⟨tl, -, s0, s1, s2, q0, q1, -, -⟩ := HT2.out
  have HRM := hid (refMayQ_any _ _ s q W2 HT2.out.sv HT2.out.qv (by omega))
  have HND := hid (fun W (hb : Below W2.heap.size W2 W) => need_any _ _ s q W (HT2.out.sv.on hb) (HT2.out.qv.on hb) (by omega) (by omega))
  have HMY := hid (fun W (hb : Below W2.heap.size W2 W) => mayQ_any _ _ s q W (HT2.out.sv.on hb) (HT2.out.qv.on hb) (by omega))
  have HRN := hid (fun (h : mayQ s q = 0) W (hb : Below W2.heap.size W2 W) => refNeed_any _ q W (HT2.out.qv.on hb) (by omega) (fun f hf => (need_dim h f hf).1))
  have HNF := hid (need_fits HT2.out.qv)
  have hw2 := HW2.out
  have s0 := s0; have s1 := s1; have s2 := s2; have q0 := q0; have q1 := q1
  have s0i := s0; have s1i := s1; have s2i := s2; have q0i := q0; have q1i := q1
  rw [hw2] at s0i s1i s2i q0i q1i
  clear hw2
  generalize mayQ s q = res at *
  generalize needQ q = nd at *
  go_wp2_with fail
  rw [← HW2.out]
  refine HRM.out.mono ?_
  rintro e w3 ⟨rfl, hb3⟩
  have HB3 := hid hb3
  have s0 := cellK hb3 (by omega) s0
  have s1 := cellK hb3 (by omega) s1
  have s2 := cellK hb3 (by omega) s2
  have q0 := cellK hb3 (by omega) q0
  have q1 := cellK hb3 (by omega) q1
  clear hb3 k3' k4' n3 n4 s0i s1i s2i q0i q1i
  go_wp2_with fail
  refine (HND.out _ HB3.out).mono ?_
  rintro e w4 hp
  have hne : (res != res) = false := by simp
  rcases hp with ⟨hres, r, rfl, hown, hb4⟩ | ⟨hres, rfl, hb4⟩
  case inr =>
    have t1 : (res != 0) = true := by simpa using hres
    have HB4 := hid (HB3.out.trans (hb4.mono HB3.out.size))
    obtain ⟨tl, -, s0, s1, s2, q0, q1, -, -⟩ := (HT2.out.on HB4.out)
    clear hb4
    go_wp2_with fail
    refine (HMY.out _ HB4.out).mono ?_
    rintro e w5 ⟨rfl, hb5⟩
    have HB5 := hid (HB4.out.trans (hb5.mono HB4.out.size)); clear hb5
    go_wp2_with fail
    refine (lives_true _).mono ?_
    rintro e w6 ⟨rfl, hb6⟩
    have HB6 := hid (HB5.out.trans (hb6.mono HB5.out.size)); clear hb6
    go_wp2
    go_ret
    exact ⟨rfl, HT2.out.b.trans (HB6.out.mono HT2.out.b.size)⟩
  case inl =>
    subst hres
    have HB4 := hid (HB3.out.trans (hb4.mono HB3.out.size))
    obtain ⟨tl, -, s0, s1, s2, q0, q1, -, -⟩ := (HT2.out.on HB4.out)
    have HN4 := hid (rdInts_of_own rfl hown HNF.out)
    clear hb4 hown
    go_wp2_with fail
    refine (HMY.out _ HB4.out).mono ?_
    rintro e w5 ⟨rfl, hb5⟩
    have HN5 := hid (good_ints.on HN4.out hb5)
    have HB5 := hid (HB4.out.trans (hb5.mono HB4.out.size))
    have q0 := cellK hb5 (by omega) q0
    have q1 := cellK hb5 (by omega) q1
    clear hb5 s0 s1 s2
    go_wp2_with fail
    refine (HRN.out (by first | rfl | trivial) _ HB5.out).mono ?_
    rintro e w6 ⟨r2, rfl, hown, hb6⟩
    have HN6 := hid (good_ints.on HN5.out hb6)
    have HR6 := hid (rdInts_of_own rfl hown HNF.out)
    have HB6 := hid (HB5.out.trans (hb6.mono HB5.out.size)); clear hb6 hown q0 q1
    go_wp2_with fail
    refine (refSame8_any _ _ nd nd w6 HN6.out HR6.out).mono ?_
    rintro e w7 ⟨rfl, hq7⟩
    have hb7 := HB6.out.trans ((hq7.below _).mono HB6.out.size)
    have HB7 := hid hb7; clear hb7 hq7
    have t9 : decide (nd = nd) = true := by simp
    go_wp2_with fail
    refine (lives_true _).mono ?_
    rintro e w8 ⟨rfl, hb8⟩
    have HB8 := hid (HB7.out.trans (hb8.mono HB7.out.size)); clear hb8
    go_wp2
    go_ret
    exact ⟨by simp, HT2.out.b.trans (HB8.out.mono HT2.out.b.size)⟩
end Go.Proofs.Ytafmdpnfigkbfab
