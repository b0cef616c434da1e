/- 6 texts of this claim, in build order. -/
import Derived.Test.YtgoapnkdcfcjgaaGreatPofmbnjmp
import Derived.Test.YtgoapnkdcfcjgaaGreatPbiilfcpe
import Derived.Test.YtgoapnkdcfcjgaaGreatPnnhdajih
import Derived.Test.YtgoapnkdcfcjgaaGreatPlmbjmicf
namespace Go.Proofs.YtgoapnkdcfcjgaaGreat
open Go.ChangeShapes Go.WideShapes Go.ChangeAt Go.RowKit Go.Deep
set_option linter.unusedVariables false
set_option linter.unusedSimpArgs false
def NewNo (w : World) (e : Ending) (w' : World) : Prop := e = .returned (.tuple #[.pointer none, .int .i64 11]) ∧ Below w.heap.size w w'
set_option maxRecDepth 100000 in
theorem newL_no (v : Value) (s : SchemaX) (w : World) (hv : SchemaV w w.heap.size v s) (hl : s.1.length ≤ 1000) (hm : mayS s = false) : Calls Tryz.prog 24 #[v] w (NewNo w) := by
 have hv0 := hv
 obtain ⟨A1, c1, A2, c2, A3, c3, rfl, -, -, -⟩ := hv
 obtain ⟨W1, hW1⟩ : ∃ W, W = w.alloc (.cells #[.slice A1 s.1.length c1, .slice A2 s.2.1.length c2, .slice A3 s.2.2.length c3] 26) := ⟨_, rfl⟩
 have g1 : Below w.heap.size w W1 := by rw [hW1]; exact bl1 _ _
 have q0 : W1.cell? ⟨w.heap.size, 0, none⟩ = some (.slice A1 s.1.length c1) := by rw [hW1]; simp [go_sem]
 have q1 : W1.cell? ⟨w.heap.size, 1, none⟩ = some (.slice A2 s.2.1.length c2) := by rw [hW1]; simp [go_sem]
 have q2 : W1.cell? ⟨w.heap.size, 2, none⟩ = some (.slice A3 s.2.2.length c3) := by rw [hW1]; simp [go_sem]
 have hmay := schemaMay_any _ s W1 (hv0.on g1) hl
 rw [hm] at hmay
 have HMAY := hid hmay; have HW1 := hid hW1; have G1 := hid g1
 clear hW1 g1 hmay hv0
 go_enter Tryz.func24, Tryz.ntmps24
 go_upto_region 1 with (fail)
 rw [← HW1.out]
 go_wp2_with fail
 (with_reducible refine HMAY.out.mono ?_)
 rintro e w2 ⟨rfl, hb2⟩
 have B2 := hid (G1.out.trans (hb2.mono G1.out.size))
 clear hb2
 go_wp2
 go_ret2
 exact ⟨rfl, B2.out⟩
def BothP (s : SchemaX) (bs : List (List FactX)) (w : World) (e : Ending) (w' : World) : Prop :=
 (mayS s = false ∧ e = .returned (.tuple #[.pointer none, .pointer none]) ∧ Below w.heap.size w w') ∨
 (mayS s = true ∧ ∃ H1 p b, e = .returned (.tuple #[.pointer (some ⟨p, 0, none⟩), .pointer (some ⟨b, 0, none⟩)]) ∧ BothR s bs w.heap.size H1 p b (min bs.length 8) w w')
def BhRel (s : SchemaX) (bs : List (List FactX)) (H H1 p b : Nat) (W0 : World) (i : Value) (wr : World) : Prop :=
 ∃ k : Nat, k ≤ bs.length ∧ k ≤ 8 ∧ i = .int .i64 k ∧ BothR s bs H H1 p b k W0 wr
set_option maxRecDepth 100000 in
set_option maxHeartbeats 3200000 in
theorem both13_any (x xl : Value) (s : SchemaX) (bs : List (List FactX)) (w : World) (hv : SchemaV w w.heap.size x s) (hb : rdSlice 1 (rdSlice 2 rdFact) w w.heap.size [xl] bs) (hl : s.1.length ≤ 1000) :
  Calls Tryz.prog 13 #[x, xl] w (BothP s bs w) := by
 have hv0 := hv
 obtain ⟨A1, c1, A2, c2, A3, c3, rfl, -, -, -⟩ := hv
 obtain ⟨AB, cB, e, hcB, hmB⟩ := hb.open_
 simp only [List.cons.injEq, and_true] at e
 subst e
 obtain ⟨H, hH⟩ : ∃ H, H = w.heap.size := ⟨_, rfl⟩
 obtain ⟨W0, hW0⟩ : ∃ W, W = w.alloc (.cells #[.slice A1 s.1.length c1, .slice A2 s.2.1.length c2, .slice A3 s.2.2.length c3] 26) := ⟨_, rfl⟩
 have g0 : Below H w W0 := by rw [hW0, hH]; exact bl1 _ _
 have z0 : W0.heap.size = H + 1 := by rw [hW0, hH]; simp
 have y0 : W0.cell? ⟨H, 0, none⟩ = some (.slice A1 s.1.length c1) := by rw [hW0, hH]; simp [go_sem]
 have y1 : W0.cell? ⟨H, 1, none⟩ = some (.slice A2 s.2.1.length c2) := by rw [hW0, hH]; simp [go_sem]
 have y2 : W0.cell? ⟨H, 2, none⟩ = some (.slice A3 s.2.2.length c3) := by rw [hW0, hH]; simp [go_sem]
 rw [← hH] at hv0 hb
 have hvW : SchemaV W0 W0.heap.size _ s := (hv0.below g0).more (by omega)
 unfold BothP
 rw [← hH]
 have HV0 := hid hv0; have HBS := hid hb; have HW0 := hid hW0; have G0 := hid g0; have HH := hid hH
 clear hW0 g0 hv0 hb hH
 have hnew2 : ∀ W, Below H w W → H ≤ W.heap.size → Calls Tryz.prog 26 #[.agg #[.slice A1 s.1.length c1, .slice A2 s.2.1.length c2, .slice A3 s.2.2.length c3]] W (R11NP H s W) := fun W hW hz => r11New_any H _ s W (HV0.out.below hW) hz hl
 have HN2 := hid hnew2
 clear hnew2
 cases hm : mayS s
 case false =>
  have HN := hid (newL_no _ s W0 hvW hl hm)
  have HM := hid hm
  clear hm hvW
  go_enter Tryz.func13, Tryz.ntmps13
  go_upto_region 1 with (fail)
  rw [← HW0.out, ← HH.out]
  go_wp2_with fail
  (with_reducible refine HN.out.mono ?_)
  rintro e w1 ⟨rfl, hb1⟩
  have z1 := hb1.size
  have B1 := hid (G0.out.trans (hb1.mono (by omega)))
  have y0 := cellK hb1 (by omega) y0
  have y1 := cellK hb1 (by omega) y1
  have y2 := cellK hb1 (by omega) y2
  clear hb1
  go_wp2_with fail
  (with_reducible refine (HN2.out _ B1.out (by omega)).mono ?_)
  rintro e w2 hp
  rcases hp with ⟨-, rfl, hb2⟩ | ⟨h, -⟩
  ·have B2 := hid (B1.out.trans (hb2.mono (by omega)))
   clear hb2
   go_wp2
   go_ret2
   exact .inl ⟨by first | exact HM.out | trivial, rfl, B2.out⟩
  ·rw [HM.out] at h; cases h
 case true =>
  have HN := hid (newL_yes _ s W0 hvW hm)
  have HM := hid hm
  clear hm hvW
  go_enter Tryz.func13, Tryz.ntmps13
  go_upto_region 1 with (fail)
  rw [← HW0.out, ← HH.out]
  go_wp2_with fail
  (with_reducible refine HN.out.mono ?_)
  rintro e w1 ⟨p, Y, rfl, hlw, hyr, hb1⟩
  have z1 := hb1.size
  have B1 := hid (G0.out.trans (hb1.mono (by omega)))
  have y0 := cellK hb1 (by omega) y0
  have y1 := cellK hb1 (by omega) y1
  have y2 := cellK hb1 (by omega) y2
  have HLW := hid hlw; have HYR := hid hyr
  clear hb1 hlw hyr
  go_wp2_with fail
  (with_reducible refine (HN2.out _ B1.out (by omega)).mono ?_)
  rintro e w2 hp
  rcases hp with ⟨h, -⟩ | ⟨-, b, rp, rfl, hr, hb2⟩
  ·rw [HM.out] at h; cases h
  ·have hrel : BhRel s bs H W0.heap.size p b w (.int .i64 0) w2 := by
    refine ⟨0, by omega, by omega, rfl, Y, _, rp, HLW.out.chg (Chg.of_below (D := fun _ => False) hb2) (fun g hg => hg.elim), hr, fun g hg => ?_, B1.out.trans (hb2.mono (by omega))⟩
    have h1 := LatO_lt HLW.out hg
    refine ⟨?_, fun h => by omega⟩
    rcases hg with hg | hg | hg
    ·have := HYR.out g hg; omega
    ·have := (HLW.out.ds.lt g hg).1; omega
    ·have := (LatA_lt HLW.out hg).1; omega
   have HREL := hid hrel
   clear hrel hr hb2 y0 y1 y2
   go_wp2
   go_loopw [10] (fun i wr => BhRel s bs H W0.heap.size p b w i wr) (fun i _ => bs.length - (intOf i).toNat)
   case atStart => exact HREL.out
   case round =>
    obtain ⟨k, hk, hk8, rfl, Y, O, rp, hlw, hr, hd, hb⟩ := hrel
    have hsb := hb.size
    have hHr : H ≤ wr.heap.size := by have := HH.out; omega
    by_cases hlt : k < bs.length ∧ k < 8
    ·obtain ⟨hlt, hl8⟩ := hlt
     obtain ⟨bB, oB, rfl, hbB, es, hel, hcell, hrd⟩ := HBS.out.at_ hlt
     obtain ⟨AF, cF, e, hcF, hmF⟩ := hrd.open_
     subst e
     have HX := hid (show w.cell? ⟨bB, oB + k, none⟩ = some (.slice AF bs[k].length cF) by have := hcell 0 _ rfl; simpa using this)
     have x0 := cellK hb hbB HX.out
     have hfw := good_facts.stays hrd hb
     obtain ⟨a1, a2, a3⟩ := latK_ok HM.out bs k
     obtain ⟨k1, k2⟩ := refK_ok s bs k
     have HAA := hid (applyL_any W0.heap.size p Y (latK s bs k) (.slice AF bs[k].length cF) bs[k] (fun g => g < H) wr hlw a1 (fun v => by have := a3 v; omega) (FactsK.of_rd hfw (by omega)) (fun g hg => ⟨by omega, fun h => by have := (hd g h).1; omega⟩))
     have HSA := hid (fun w1 Y' hl hc ho => BothR.stepA (w1 := w1) (Y' := Y') HM.out hlt hr hlw hd hb (by omega) hl hc ho)
     have HRB := hid (fun w1 (hw1 : Below H w w1) (hr1 : R11W w1 H b O s (refK s bs k).1 (refK s bs k).2 rp) => r11Apply_any H b O s _ _ rp (.slice AF bs[k].length cF) bs[k] w1 hr1 k1 (by omega) hl (good_facts.stays hrd hw1) (by have := hw1.size; have := HH.out; omega))
     have hbl := (hr.ol b hr.ob).2
     clear hcell hrd hfw a1 a2 a3 k1 k2 hr hlw hd hb
     have hbB' := hbB
     go_wp2_with fail
     refine HAA.out.mono ?_
     rintro e w3 ⟨Y', rfl, hl3, hc3, ho3⟩
     obtain ⟨b1, b2, b3, b4, b5⟩ := HSA.out _ _ hl3 hc3 ho3
     have hx3 : w3.cell? ⟨bB, oB + k, none⟩ = some (.slice AF bs[k].length cF) := cellK b5 hbB HX.out
     clear hl3 hc3 ho3
     have HSB := hid (fun w2 O' rp' hr hc ho => BothR.stepB (w2 := w2) (O' := O') (rp' := rp') hlt b3 b1 b4 b5 (by have := b5.size; have := HH.out; omega) hr hc ho)
     have HRC := hid (HRB.out w3 b5 b3)
     clear b1 b2 b3 b4 b5 x0
     go_wp2_with fail
     refine HRC.out.mono ?_
     rintro e w4 ⟨O', rp', rfl, hr4, hc4, ho4⟩
     have HR4 := hid (HSB.out w4 O' rp' hr4 hc4 ho4)
     clear hr4 hc4 ho4
     go_wp2
     go_roundw
     case rel => exact ⟨k + 1, by omega, by omega, by go_num, HR4.out⟩
     case measure => simp [intOf]; omega
    ·have HEND := hid (show BothR s bs H W0.heap.size p b (min bs.length 8) w wr from (show k = min bs.length 8 by omega) ▸ ⟨Y, O, rp, hlw, hr, hd, hb⟩)
     clear hlw hr hd hb
     by_cases hlt2 : k < bs.length
     ·obtain rfl : k = 8 := by omega
      go_wp2
      go_ret2
      exact .inr ⟨by first | exact HM.out | trivial, _, _, _, rfl, HEND.out⟩
     ·obtain rfl : k = bs.length := by omega
      go_wp2
      go_ret2
      exact .inr ⟨by first | exact HM.out | trivial, _, _, _, rfl, HEND.out⟩
theorem lessC_iff (a b c d : Nat) : lessC a b c d = true ↔ a < c ∨ (a = c ∧ b < d) := by
 unfold lessC
 by_cases h : a ≠ c
 ·rw [if_pos h, decide_eq_true_eq]; omega
 ·rw [if_neg h, decide_eq_true_eq]; omega
theorem bestJ_least (n : Nat → Nat) (b : Nat) (t : List Nat) : ∀ v ∈ b :: t, ¬ (n v < n (bestJ n b t) ∨ (n v = n (bestJ n b t) ∧ v < bestJ n b t)) := by
 induction t generalizing b with
 | nil =>
   intro v hv
   obtain rfl : v = b := by simpa using hv
   show ¬ (n v < n v ∨ (n v = n v ∧ v < v))
   omega
 | cons u t ih =>
   have e : bestJ n b (u :: t) = bestJ n (if lessC (n u) u (n b) b = true then u else b) t := rfl
   rw [e]
   by_cases hl : lessC (n u) u (n b) b = true
   ·rw [if_pos hl]
    rw [lessC_iff] at hl
    intro v hv
    rcases List.mem_cons.1 hv with rfl | hv
    ·have := ih u u List.mem_cons_self; omega
    ·exact ih u v hv
   ·rw [if_neg hl]
    rw [lessC_iff] at hl
    intro v hv
    rcases List.mem_cons.1 hv with rfl | hv
    ·exact ih v v List.mem_cons_self
    ·rcases List.mem_cons.1 hv with rfl | hv
     ·have := ih b b List.mem_cons_self; omega
     ·exact ih b v (List.mem_cons_of_mem _ hv)
theorem take_mem_succ {L : List Nat} {k : Nat} (hk : k < L.length) (v : Nat) : v ∈ L.take (k + 1) ↔ v ∈ L.take k ∨ L[k] = v := by
 rw [List.take_succ_eq_append_getElem hk, List.mem_append, List.mem_singleton]
 exact ⟨fun h => h.elim .inl (fun h => .inr h.symm), fun h => h.elim .inl (fun h => .inr h.symm)⟩
def BsRel (L : List Nat) (best : Nat) (w3 w6 : World) (is i : Value) (wr : World) : Prop :=
 ∃ (k : Nat) (bb : Bool), k ≤ L.length ∧ is = .bool bb ∧ bb = decide (best ∈ L.take k) ∧ i = .int .i64 k ∧ Below w3.heap.size w3 wr ∧ Below w6.heap.size w6 wr
set_option maxRecDepth 100000 in
set_option maxHeartbeats 3200000 in
theorem walk_PlanBest (w : World) (cs0 : Array Value) (x0 : SchemaX) (z0 : cs0.size = 3) (h0 : rdSchema w w.heap.size cs0.toList x0) (xl : Value) (bs : List (List FactX)) (hbs : rdSlice 1 (rdSlice 2 rdFact) w w.heap.size [xl] bs) (cs1 : Array Value) (x1 : QueryX) (z1 : cs1.size = 2) (h1 : rdQuery w w.heap.size cs1.toList x1) :
  Calls Tryz.prog 5 #[.agg cs0, xl, .agg cs1] w (Gives (.bool true) w) := by
 have hs := schema_of_rd h0
 have hq := query_of_rd h1
 have hs0 := hs; have hq0 := hq
 obtain ⟨A1, c1, A2, c2, A3, c3, e, -, -, -⟩ := hs
 simp only [Value.agg.injEq] at e
 subst e
 obtain ⟨X1, d1, X2, d2, e, -, -⟩ := hq
 simp only [Value.agg.injEq] at e
 subst e
 have HSML := hid (fun W (hb : Below w.heap.size w W) => small_any _ x0 W w.heap.size hb.size (hs0.below hb))
 have HF := hid (fun W (hb : Below w.heap.size w W) => few13_any _ x1 W w.heap.size hb.size (hq0.below hb))
 obtain ⟨hq1, hq2⟩ := few13_len x1
 obtain ⟨hsl, hs9⟩ := small13_len x0
 clear h0 h1 hs0 hq0 z0 z1
 generalize x0.1.length = k1 at *
 generalize x0.2.1.length = k2 at *
 generalize x0.2.2.length = k3 at *
 generalize x1.1.length = k4 at *
 generalize x1.2.length = k5 at *
 generalize fewQ13 x1 = q at *
 generalize smallS x0 = s at *
 obtain ⟨W0, hW0⟩ : ∃ W, W = (w.alloc (.cells #[.slice A1 k1 c1, .slice A2 k2 c2, .slice A3 k3 c3] 26)).alloc (.cells #[.slice X1 k4 d1, .slice X2 k5 d2] 30) := ⟨_, rfl⟩
 have g0 : Below w.heap.size w W0 := by rw [hW0]; exact (bl1 w _).alloc (by simp) _
 have z0 : W0.heap.size = w.heap.size + 1 + 1 := by rw [hW0]; simp
 have y0 : W0.cell? ⟨w.heap.size, 0, none⟩ = some (.slice A1 k1 c1) := by rw [hW0]; simp [go_sem]
 have y1 : W0.cell? ⟨w.heap.size, 1, none⟩ = some (.slice A2 k2 c2) := by rw [hW0]; simp [go_sem]
 have y2 : W0.cell? ⟨w.heap.size, 2, none⟩ = some (.slice A3 k3 c3) := by rw [hW0]; simp [go_sem]
 have y3 : W0.cell? ⟨w.heap.size + 1, 0, none⟩ = some (.slice X1 k4 d1) := by rw [hW0]; simp [go_sem]
 have y4 : W0.cell? ⟨w.heap.size + 1, 1, none⟩ = some (.slice X2 k5 d2) := by rw [hW0]; simp [go_sem]
 have f0 : W0.frozen? ⟨w.heap.size, 0, none⟩ = false := by rw [hW0]; simp [go_sem]
 have f1 : W0.frozen? ⟨w.heap.size, 1, none⟩ = false := by rw [hW0]; simp [go_sem]
 have f2 : W0.frozen? ⟨w.heap.size, 2, none⟩ = false := by rw [hW0]; simp [go_sem]
 have f3 : W0.frozen? ⟨w.heap.size + 1, 0, none⟩ = false := by rw [hW0]; simp [go_sem]
 have f4 : W0.frozen? ⟨w.heap.size + 1, 1, none⟩ = false := by rw [hW0]; simp [go_sem]
 have HW0 := hid hW0; have G0 := hid g0
 clear hW0 g0
 go_enter Tryz.func5, Tryz.ntmps5
 go_wp2_with fail
 rw [← HW0.out]
 refine (HSML.out _ G0.out).mono ?_
 rintro e w1 ⟨B1, b1, B2, b2, B3, b3, rfl, hsv, hb1⟩
 have z1 := hb1.size
 have k0 := cellK hb1 (by omega) y0
 have k1' := cellK hb1 (by omega) y1
 have k2' := cellK hb1 (by omega) y2
 have n0 := frozenK hb1 (by omega) f0
 have n1 := frozenK hb1 (by omega) f1
 have n2 := frozenK hb1 (by omega) f2
 obtain ⟨W1, hW1⟩ : ∃ W, W = ((w1.setCell ⟨w.heap.size, 0, none⟩ (.slice B1 s.1.length b1)).setCell ⟨w.heap.size, 1, none⟩ (.slice B2 s.2.1.length b2)).setCell ⟨w.heap.size, 2, none⟩ (.slice B3 s.2.2.length b3) := ⟨_, rfl⟩
 have bb1 : Below w.heap.size w1 W1 := by rw [hW1]; exact Below.setCell (Below.setCell (Below.setCell (Below.refl _ w1) (show w.heap.size ≤ w.heap.size from Nat.le_refl _) _) (show w.heap.size ≤ w.heap.size from Nat.le_refl _) _) (show w.heap.size ≤ w.heap.size from Nat.le_refl _) _
 have zW1 : W1.heap.size = w1.heap.size := by rw [hW1]; simp [World.setCell]
 have hfar : ∀ g, g ≠ w.heap.size → W1.heap[g]? = w1.heap[g]? := fun g hg => by rw [hW1]; exact (Below.heap_setCell _ _ _ g (by simp; omega)).trans ((Below.heap_setCell _ _ _ g (by simp; omega)).trans (Below.heap_setCell _ _ _ g (by simp; omega)))
 have m0 : W1.cell? ⟨w.heap.size, 0, none⟩ = some (.slice B1 s.1.length b1) := by rw [hW1]; exact cell_beside (by omega) (cell_beside (by omega) (cell_here k0))
 have m1 : W1.cell? ⟨w.heap.size, 1, none⟩ = some (.slice B2 s.2.1.length b2) := by rw [hW1]; exact cell_beside (by omega) (cell_here (cell_beside (by omega) k1'))
 have m2 : W1.cell? ⟨w.heap.size, 2, none⟩ = some (.slice B3 s.2.2.length b3) := by rw [hW1]; exact cell_here (cell_beside (by omega) (cell_beside (by omega) k2'))
 have hb01 := G0.out.trans ((hb1.mono (by omega)).trans bb1)
 have qb : W1.heap[w.heap.size + 1]? = W0.heap[w.heap.size + 1]? := (hfar _ (by omega)).trans (hb1.block _ (by omega))
 have y3' : W1.cell? ⟨w.heap.size + 1, 0, none⟩ = some (.slice X1 k4 d1) := (World.cell?_of_block (a := ⟨w.heap.size + 1, 0, none⟩) qb).trans y3
 have y4' : W1.cell? ⟨w.heap.size + 1, 1, none⟩ = some (.slice X2 k5 d2) := (World.cell?_of_block (a := ⟨w.heap.size + 1, 1, none⟩) qb).trans y4
 have f3' : W1.frozen? ⟨w.heap.size + 1, 0, none⟩ = false := (World.frozen?_of_block (a := ⟨w.heap.size + 1, 0, none⟩) qb).trans f3
 have f4' : W1.frozen? ⟨w.heap.size + 1, 1, none⟩ = false := (World.frozen?_of_block (a := ⟨w.heap.size + 1, 1, none⟩) qb).trans f4
 have q3 : w1.cell? ⟨w.heap.size + 1, 0, none⟩ = some (.slice X1 k4 d1) := cellK hb1 (by omega) y3
 have q4 : w1.cell? ⟨w.heap.size + 1, 1, none⟩ = some (.slice X2 k5 d2) := cellK hb1 (by omega) y4
 have HSV := hid (hsv.below bb1); have HW1 := hid hW1; have GW1 := hid hb01
 rw [hW1] at y3' y4'
 clear hsv hb1 bb1 hW1 hb01 qb hfar y0 y1 y2 y3 y4 f0 f1 f2 f3 f4
 go_wp2_with fail
 rw [← HW1.out]
 refine (HF.out _ GW1.out).mono ?_
 rintro e w2 ⟨F1, e1, F2, e2, rfl, hqv, hb2⟩
 have z2 := hb2.size
 have k3' := cellK hb2 (by omega) ((congrArg (fun W => World.cell? W ⟨w.heap.size + 1, 0, none⟩) HW1.out).trans y3')
 have k4' := cellK hb2 (by omega) ((congrArg (fun W => World.cell? W ⟨w.heap.size + 1, 1, none⟩) HW1.out).trans y4')
 have n3 := frozenK hb2 (by omega) f3'
 have n4 := frozenK hb2 (by omega) f4'
 have m0' := cellK hb2 (by omega) m0
 have m1' := cellK hb2 (by omega) m1
 have m2' := cellK hb2 (by omega) m2
 obtain ⟨W2, hW2⟩ : ∃ W, W = (w2.setCell ⟨w.heap.size + 1, 0, none⟩ (.slice F1 q.1.length e1)).setCell ⟨w.heap.size + 1, 1, none⟩ (.slice F2 q.2.length e2) := ⟨_, rfl⟩
 have bb2 : Below w.heap.size w2 W2 := by rw [hW2]; exact Below.setCell (Below.setCell (Below.refl _ w2) (show w.heap.size ≤ w.heap.size + 1 by omega) _) (show w.heap.size ≤ w.heap.size + 1 by omega) _
 have zW2 : W2.heap.size = w2.heap.size := by rw [hW2]; simp [World.setCell]
 have htwo : Two w W2 s q (.slice B1 s.1.length b1) (.slice B2 s.2.1.length b2) (.slice B3 s.2.2.length b3) (.slice F1 q.1.length e1) (.slice F2 q.2.length e2) := by
  have hbw := GW1.out.trans ((hb2.mono (by omega)).trans bb2)
  refine ⟨by omega, hbw, ?_, ?_, ?_, ?_, ?_, (HSV.out.below ((hb2.mono (by omega)).trans bb2)).more hbw.size, (hqv.below bb2).more hbw.size⟩
  ·rw [hW2]; exact cell_far (by omega) (cell_far (by omega) m0')
  ·rw [hW2]; exact cell_far (by omega) (cell_far (by omega) m1')
  ·rw [hW2]; exact cell_far (by omega) (cell_far (by omega) m2')
  ·rw [hW2]; exact cell_beside (by omega) (cell_here k3')
  ·rw [hW2]; exact cell_here (cell_beside (by omega) k4')
 have HW2 := hid hW2; have HT2 := hid htwo
 clear hqv hb2 bb2 hW2 htwo y3' y4' f3' f4' m0 m1 m2 m0' m1' m2' k0 k1' k2' n0 n1 n2 q3 q4
 obtain ⟨tl, -, s0, s1, s2, q0, q1, -, -⟩ := HT2.out
 have hw2 := HW2.out
 have s0i := s0; have s1i := s1; have s2i := s2; have q0i := q0; have q1i := q1
 rw [hw2] at s0i s1i s2i q0i q1i
 clear hw2
 obtain ⟨AB, cB, e, -, -⟩ := hbs.open_
 simp only [List.cons.injEq, and_true] at e
 subst e
 have HBT := hid (both13_any _ (.slice AB bs.length cB) s bs W2 HT2.out.sv ((good_slice good_facts).more ((good_slice good_facts).stays hbs HT2.out.b) HT2.out.b.size) (by omega))
 have HCV := hid (fun W (hb : Below W2.heap.size W2 W) => covering_any _ _ s q W (HT2.out.sv.on hb) (HT2.out.qv.on hb) (by omega) (by omega))
 have HNF := hid (covX_in (s := s) (q := q) hs9)
 clear hbs
 go_wp2_with fail
 rw [← HW2.out]
 refine HBT.out.mono ?_
 rintro e w3 hp
 rcases hp with ⟨hm, rfl, hb3⟩ | ⟨hm, H1, p, b, rfl, Y, O, rp, hlw, -, hd, hb3⟩
 ·have HB3 := hid hb3
  clear hb3 k3' k4' n3 n4 s0i s1i s2i q0i q1i s0 s1 s2 q0 q1
  go_wp2_with fail
  refine (lives_true _).mono ?_
  rintro e w6 ⟨rfl, hb6⟩
  have HB6 := hid (HB3.out.trans (hb6.mono HB3.out.size)); clear hb6
  go_wp2
  go_ret
  exact ⟨by simp, HT2.out.b.trans (HB6.out.mono HT2.out.b.size)⟩
 ·obtain ⟨hok, hls, hlen⟩ := latK_ok hm bs (min bs.length 8)
  have hm8 : min bs.length 8 ≤ 8 := Nat.min_le_right _ _
  have hn : ∀ v, lenV (latK s bs (min bs.length 8)) v ≤ 64 := fun v => by have := hlen v; unfold lenV; omega
  clear hd hlen
  generalize latK s bs (min bs.length 8) = l at *
  have hvn : (viewsX s).length ≤ 10 := by unfold viewsX; rw [List.length_cons]; omega
  have hcl := hok.clen
  have hmay := hok.may
  rw [hls] at hcl
  have HCH := hid (chooseL_any H1 p Y l _ q w3 hlw hmay hok.clen (HT2.out.qv.on hb3) (by omega) (fun v => by have := hn v; omega))
  have HLN := hid (fun W (hb : Below w3.heap.size w3 W) (v : Nat) (hv : v < l.cs.length) => lenL_any H1 p Y l v W (hlw.chg (Chg.of_below (D := fun _ => False) hb) (fun g hg => hg.elim)) hv hok.clen (by omega))
  have hch : chooseJ l q = if mayQ s q = 0 then (((bestJ (lenV l) 0 (coverN (viewsX s) (needQ q) (viewsX s).length).tail : Nat) : Int), 0) else (0, mayQ s q) := by unfold chooseJ; rw [hls]
  have HB3 := hid hb3; have HN := hid hn; have HCL := hid hcl
  have s0 := cellK hb3 (by omega) s0
  have s1 := cellK hb3 (by omega) s1
  have s2 := cellK hb3 (by omega) s2
  have q0 := cellK hb3 (by omega) q0
  have q1 := cellK hb3 (by omega) q1
  clear hlw hok hn hb3 hcl k3' k4' n3 n4 s0i s1i s2i q0i q1i
  by_cases hz : mayQ s q = 0
  ·obtain ⟨tl', htl⟩ := cover_head hz
   rw [if_pos hz, htl, List.tail_cons] at hch
   have hcx : covX s q = ((0 :: tl').map (fun n : Nat => (n : Int)), 0) := by unfold covX; rw [if_pos hz, coverI_N, htl]
   have hmem := bestJ_mem (lenV l) 0 tl'
   have hleast := bestJ_least (lenV l) 0 tl'
   have hlt : ∀ v ∈ 0 :: tl', v < l.cs.length := fun v hv => by rw [HCL.out]; rw [← htl] at hv; exact coverN_lt hv
   have hll : (0 :: tl').length ≤ 10 := by
    rw [← htl]; unfold coverN
    refine Nat.le_trans (List.length_filter_le _ _) ?_
    rw [List.length_range]; exact hvn
   have HN0 := HN.out (bestJ (lenV l) 0 tl')
   have hbl := hlt _ hmem
   rw [hch] at HCH
   rw [hcx] at HCV HNF
   have HLT := hid hlt; have HLE := hid hleast; have HME := hid hmem
   have HLB := hid (fun W hb => HLN.out W hb _ hbl)
   unfold lenV at HN0
   clear hch hcx hlt hleast hmem htl
   generalize bestJ (lenV l) 0 tl' = best at *
   generalize hL : 0 :: tl' = L at *
   clear hL
   generalize hnb : (l.cs.getD best []).length = nb at *
   have HNB := hid hnb
   have hbest : (best : Int) ≤ 1000 := by have := HCL.out; omega
   clear hnb
   go_wp2_with fail
   refine HCH.out.mono ?_
   rintro e w4 ⟨rfl, hb4⟩
   have HB4 := hid hb4
   have s0 := cellK hb4 (by have := HB3.out.size; omega) s0
   have s1 := cellK hb4 (by have := HB3.out.size; omega) s1
   have s2 := cellK hb4 (by have := HB3.out.size; omega) s2
   have q0 := cellK hb4 (by have := HB3.out.size; omega) q0
   have q1 := cellK hb4 (by have := HB3.out.size; omega) q1
   clear hb4
   go_wp2_with fail
   refine (HCV.out _ (HB3.out.trans (HB4.out.mono HB3.out.size))).mono ?_
   rintro e w5 ⟨v, rfl, hov, hb5⟩
   simp only at hov
   obtain ⟨Av, cv, rfl⟩ := own_formB hov
   have hlm : (L.map (fun n : Nat => (n : Int))).length = L.length := List.length_map ..
   have HRV := hid (rdInts_of_own (by rfl) hov HNF.out)
   have hcvm : L.length ≤ cv ∧ cv ≤ 9223372036854775807 := by
    obtain ⟨A9, c9, e9, h1, h2, -⟩ := own_cells2 hov
    injection e9 with _ _ e9
    subst e9
    rw [hlm] at h1
    exact ⟨h1, h2⟩
   rw [hlm]
   have HB5 := hid (HB4.out.trans (hb5.mono HB4.out.size))
   clear hov hb5 s0 s1 s2 q0 q1
   go_wp2_with fail
   (with_reducible refine (HLB.out _ HB5.out).mono ?_)
   rintro e w6 ⟨rfl, hb6⟩
   have HB6 := hid (HB5.out.trans (hb6.mono HB5.out.size))
   have HRV6 := hid (good_ints.on HRV.out hb6)
   clear hb6
   go_wp2
   go_loopw [13, 16, 17, 18] (fun is i _ _ wr => BsRel L best w3 w6 is i wr) (fun _ i _ _ _ => L.length - (intOf i).toNat)
   case atStart => exact ⟨0, false, by omega, rfl, by simp, rfl, HB6.out, Below.refl _ _⟩
   case round =>
    obtain ⟨k, bb, hk, rfl, hbb, rfl, hbr, hb6r⟩ := hrel
    have HBR := hid hbr; have H6R := hid hb6r
    by_cases hlt : k < L.length
    ·have hmem := List.getElem_mem hlt
     have hle := HLE.out _ hmem
     have HLK := hid (fun W hb => HLN.out W hb _ (HLT.out _ hmem))
     have hts := take_mem_succ hlt best
     obtain ⟨g, off, rfl, hg, x0, -⟩ := ints_at (good_ints.on HRV6.out hb6r) (show k < (L.map (fun n : Nat => (n : Int))).length by rw [hlm]; exact hlt)
     rw [show (L.map (fun n : Nat => (n : Int))).getD k 0 = ((L[k] : Nat) : Int) by rw [List.getD_eq_getElem?_getD, List.getElem?_map, List.getElem?_eq_getElem hlt]; rfl] at x0
     have hlk := HLT.out _ hmem
     unfold lenV at hle
     rw [HNB.out] at hle
     generalize (l.cs.getD L[k] []).length = mk at *
     generalize L[k] = lk at *
     have hmle : ¬ ((mk : Int) < (nb : Int)) := by omega
     clear hmem hbr hb6r
     cases bb
     case true =>
          have HBB := hid (show true = decide (best ∈ L.take (k + 1)) from by have := of_decide_eq_true hbb.symm; exact (decide_eq_true (hts.2 (.inl this))).symm)
          clear hbb hts
          go_wp2_with fail
          (with_reducible refine (HLK.out _ HBR.out).mono ?_)
          rintro e w7 ⟨rfl, hb7⟩
          have HB7 := hid (HBR.out.trans (hb7.mono HBR.out.size)); have HB67 := hid (H6R.out.trans (hb7.mono H6R.out.size))
          have x0 := cellK hb7 (by omega) x0
          clear hb7
          by_cases hmn : (mk : Int) = (nb : Int)
          ·have t2 : ((mk : Int) == (nb : Int)) = true := by rw [hmn]; exact beq_self_eq_true _
           have t3 : ¬ ((lk : Int) < (best : Int)) := by omega
           go_wp2
           go_roundw
           case rel => exact ⟨k + 1, _, by omega, rfl, HBB.out, by go_num, HB7.out, HB67.out⟩
           case measure => simp [intOf]; omega
          ·have t2 : ((mk : Int) == (nb : Int)) = false := by rw [beq_eq_false_iff_ne]; exact hmn
           go_wp2
           go_roundw
           case rel => exact ⟨k + 1, _, by omega, rfl, HBB.out, by go_num, HB7.out, HB67.out⟩
           case measure => simp [intOf]; omega
     case false =>
          by_cases hx : lk = best
          ·have HBB := hid (show true = decide (best ∈ L.take (k + 1)) from (decide_eq_true (hts.2 (.inr hx))).symm)
           have t1 : ((lk : Int) == (best : Int)) = true := by rw [hx]; exact beq_self_eq_true _
           clear hbb hts hx
           go_wp2_with fail
           (with_reducible refine (HLK.out _ HBR.out).mono ?_)
           rintro e w7 ⟨rfl, hb7⟩
           have HB7 := hid (HBR.out.trans (hb7.mono HBR.out.size)); have HB67 := hid (H6R.out.trans (hb7.mono H6R.out.size))
           have x0 := cellK hb7 (by omega) x0
           clear hb7
           by_cases hmn : (mk : Int) = (nb : Int)
           ·have t2 : ((mk : Int) == (nb : Int)) = true := by rw [hmn]; exact beq_self_eq_true _
            have t3 : ¬ ((lk : Int) < (best : Int)) := by omega
            go_wp2
            go_roundw
            case rel => exact ⟨k + 1, _, by omega, rfl, HBB.out, by go_num, HB7.out, HB67.out⟩
            case measure => simp [intOf]; omega
           ·have t2 : ((mk : Int) == (nb : Int)) = false := by rw [beq_eq_false_iff_ne]; exact hmn
            go_wp2
            go_roundw
            case rel => exact ⟨k + 1, _, by omega, rfl, HBB.out, by go_num, HB7.out, HB67.out⟩
            case measure => simp [intOf]; omega
          ·have HBB := hid (show false = decide (best ∈ L.take (k + 1)) from (decide_eq_false (fun h => by
            rcases hts.1 h with h | h
            ·exact of_decide_eq_false hbb.symm h
            ·exact hx h)).symm)
           have t1 : ((lk : Int) == (best : Int)) = false := by rw [beq_eq_false_iff_ne]; omega
           clear hbb hts
           go_wp2_with fail
           (with_reducible refine (HLK.out _ HBR.out).mono ?_)
           rintro e w7 ⟨rfl, hb7⟩
           have HB7 := hid (HBR.out.trans (hb7.mono HBR.out.size)); have HB67 := hid (H6R.out.trans (hb7.mono H6R.out.size))
           have x0 := cellK hb7 (by omega) x0
           clear hb7
           by_cases hmn : (mk : Int) = (nb : Int)
           ·have t2 : ((mk : Int) == (nb : Int)) = true := by rw [hmn]; exact beq_self_eq_true _
            have t3 : ¬ ((lk : Int) < (best : Int)) := by omega
            go_wp2
            go_roundw
            case rel => exact ⟨k + 1, _, by omega, rfl, HBB.out, by go_num, HB7.out, HB67.out⟩
            case measure => simp [intOf]; omega
           ·have t2 : ((mk : Int) == (nb : Int)) = false := by rw [beq_eq_false_iff_ne]; exact hmn
            go_wp2
            go_roundw
            case rel => exact ⟨k + 1, _, by omega, rfl, HBB.out, by go_num, HB7.out, HB67.out⟩
            case measure => simp [intOf]; omega
    ·obtain rfl : k = L.length := by omega
     rw [List.take_length, decide_eq_true HME.out] at hbb
     subst hbb
     clear hbr hb6r
     go_wp2_with fail
     refine (lives_true _).mono ?_
     rintro e w8 ⟨rfl, hb8⟩
     have HB8 := hid (HB3.out.trans ((HBR.out.trans (hb8.mono HBR.out.size)).mono HB3.out.size)); clear hb8
     go_wp2
     go_ret
     exact ⟨by simp, HT2.out.b.trans (HB8.out.mono HT2.out.b.size)⟩
  ·rw [if_neg hz] at hch
   have hcx : covX s q = ([], mayQ s q) := by unfold covX; rw [if_neg hz]
   rw [hch] at HCH
   rw [hcx] at HCV
   generalize mayQ s q = mq at *
   have t0 : (mq != mq) = false := by simp
   have t1 : (mq != 0) = true := by rw [bne_iff_ne]; exact hz
   clear hch hcx hz
   go_wp2_with fail
   refine HCH.out.mono ?_
   rintro e w4 ⟨rfl, hb4⟩
   have HB4 := hid hb4
   have s0 := cellK hb4 (by have := HB3.out.size; omega) s0
   have s1 := cellK hb4 (by have := HB3.out.size; omega) s1
   have s2 := cellK hb4 (by have := HB3.out.size; omega) s2
   have q0 := cellK hb4 (by have := HB3.out.size; omega) q0
   have q1 := cellK hb4 (by have := HB3.out.size; omega) q1
   clear hb4
   go_wp2_with fail
   refine (HCV.out _ (HB3.out.trans (HB4.out.mono HB3.out.size))).mono ?_
   rintro e w5 ⟨v, rfl, hov, hb5⟩
   obtain ⟨Av, cv, rfl⟩ := own_formB (show w5.ownsRow _ _ 1 v 0 [] from hov)
   have HB5 := hid (HB4.out.trans (hb5.mono HB4.out.size))
   clear hov hb5 s0 s1 s2 q0 q1
   go_wp2_with fail
   refine (lives_true _).mono ?_
   rintro e w8 ⟨rfl, hb8⟩
   have HB8 := hid (HB3.out.trans ((HB5.out.trans (hb8.mono HB5.out.size)).mono HB3.out.size)); clear hb8
   go_wp2
   go_ret
   exact ⟨by simp, HT2.out.b.trans (HB8.out.mono HT2.out.b.size)⟩
theorem opens_rowsQ : Opens Tryz.prog 24 1 (rdSlice 1 rdInts) := opens_slice (e := 27) good_ints Tryz.underlying24 opens_intsQ (by kernel_rfl) (by omega)
theorem opens_dim : Opens Tryz.prog 54 2 rdDim := by
 refine opens_struct (k := 2) Tryz.underlying54 (by kernel_rfl) ?_
 exact opensF_cons (k2 := 1) (by rfl) (opens_str Tryz.underlying9 (by kernel_rfl)) (opensF_one (by rfl) opens_strsQ)
theorem opens_dims : Opens Tryz.prog 22 1 (rdSlice 2 rdDim) := opens_slice (e := 54) good_dim Tryz.underlying22 opens_dim (by kernel_rfl) (by omega)
theorem opens_schema : Opens Tryz.prog 26 3 rdSchema := by
 refine opens_struct (k := 3) Tryz.underlying26 (by kernel_rfl) ?_
 exact opensF_cons (k2 := 2) (by rfl) opens_dims (opensF_cons (k2 := 1) (by rfl) opens_strsQ (opensF_one (by rfl) opens_rowsQ))
theorem opens_filter : Opens Tryz.prog 83 3 rdFilter := by
 refine opens_struct (k := 3) Tryz.underlying83 (by kernel_rfl) ?_
 exact opensF_cons (k2 := 2) (by rfl) (opens_int Tryz.underlying3 (by kernel_rfl)) (opensF_cons (k2 := 1) (by rfl) (opens_int Tryz.underlying3 (by kernel_rfl)) (opensF_one (by rfl) opens_pathsQ))
theorem opens_filters : Opens Tryz.prog 28 1 (rdSlice 3 rdFilter) := opens_slice (e := 83) good_filter Tryz.underlying28 opens_filter (by kernel_rfl) (by omega)
theorem opens_query : Opens Tryz.prog 30 2 rdQuery := by
 refine opens_struct (k := 2) Tryz.underlying30 (by kernel_rfl) ?_
 exact opensF_cons (k2 := 1) (by rfl) opens_intsQ (opensF_one (by rfl) opens_filters)
theorem opens_factF : Opens Tryz.prog 60 2 rdFact := by
 refine opens_struct (k := 2) Tryz.underlying60 (by kernel_rfl) ?_
 exact opensF_cons (k2 := 1) (by rfl) opens_pathsQ (opensF_one (by rfl) opens_intsQ)
theorem opens_factsF : Opens Tryz.prog 61 1 (rdSlice 2 rdFact) := opens_slice (e := 60) good_fact Tryz.underlying61 opens_factF (by kernel_rfl) (by omega)
theorem opens_batches : Opens Tryz.prog 39 1 (rdSlice 1 (rdSlice 2 rdFact)) := opens_slice (e := 61) good_facts Tryz.underlying39 opens_factsF (by kernel_rfl) (by omega)
end Go.Proofs.YtgoapnkdcfcjgaaGreat
