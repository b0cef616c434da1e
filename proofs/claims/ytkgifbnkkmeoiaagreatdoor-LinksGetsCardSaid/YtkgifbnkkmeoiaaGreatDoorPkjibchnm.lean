/- 1 text of this claim, in build order. -/
import Derived.Test.YtkgifbnkkmeoiaaGreatDoorPabikafge
import Derived.Test.YtkgifbnkkmeoiaaGreatDoorPecbipgkf
/- The reference's frame: Get. -/
namespace Go.Proofs.YtkgifbnkkmeoiaaGreatDoor
open Go.ChangeShapes Go.WideShapes Go.ChangeAt Go.RowKit
set_option linter.unusedVariables false
set_option linter.unusedSimpArgs false

theorem wholeB_same (l : List UInt8) (N : Nat) (h : N + 9 ≤ l.length) : decide (l.take (N + 9) = l.take (N + 5) ++ le4 (crcSum (l.take (N + 5))).toNat) = wholeB (l.take (N + 9)) (N + 5) := by
  unfold wholeB
  have e : (l.take (N + 9)).take (N + 5) = l.take (N + 5) := by rw [List.take_take]; congr 1; omega
  rw [e]
  generalize le4 (crcSum (l.take (N + 5))).toNat = t
  rw [decide_eq_decide]
  have e2 : l.take (N + 9) = l.take (N + 5) ++ (l.take (N + 9)).drop (N + 5) := by
    conv => lhs; rw [← List.take_append_drop (N + 5) (l.take (N + 9)), e]
  constructor
  · intro h1
    rw [e2] at h1
    exact List.append_cancel_left h1
  · intro h1
    rw [e2, h1]
set_option maxRecDepth 100000 in
set_option maxHeartbeats 1600000 in
theorem refFrameG_any (v : Value) (l : List UInt8) (w : World) (hv : Sl w w.heap.size v (bvals l)) (hl : l.length ≤ 1000000) : Calls Tryz.prog 40 #[v] w (FGetP (frameG l) w) := by
  obtain ⟨ti0, hi, hz0, hz1', hz2⟩ := info_parts info_byte
  obtain ⟨A, c, e, hc1, hc2, hA⟩ := id hv
  rw [bvals_len] at e hc1 hA
  subst e
  unfold maxLen at hc2
  obtain ⟨W1, hW1⟩ : ∃ W1, W1 = w.alloc (.cells #[.int .i64 0, .slice none 0 0] 75) := ⟨_, rfl⟩
  have hb1 : Below w.heap.size w W1 := by rw [hW1]; exact bl1 _ _
  have hz1 : W1.heap.size = w.heap.size + 1 := by rw [hW1]; simp
  obtain ⟨q, hq⟩ : ∃ q, q = w.heap.size := ⟨_, rfl⟩
  have c0 : W1.cell? ⟨q, 0, none⟩ = some (.int .i64 0) := by rw [hW1, hq]; simp [go_sem]
  have c1 : W1.cell? ⟨q, 1, none⟩ = some (.slice none 0 0) := by rw [hW1, hq]; simp [go_sem]
  have f0 : W1.frozen? ⟨q, 0, none⟩ = false := by rw [hW1, hq]; simp [go_sem]
  have f1 : W1.frozen? ⟨q, 1, none⟩ = false := by rw [hW1, hq]; simp [go_sem]
  have HV := hid ((hv.below hb1).more hb1.size)
  have HW1 := hid hW1; have HB1 := hid hb1; have HQ := hid hq
  have hq1 : q < W1.heap.size := by omega
  by_cases h1 : l.length < 4
  · have hr : frameG l = ((0, []), 0, 3) := if_pos h1
    rw [hr]
    clear hr hW1 hb1 hz1 hq hv hA
    go_enter Tryz.func40, Tryz.ntmps40
    go_upto_region 1 with (fail)
    rw [← HW1.out, ← HQ.out]
    go_wp2
    have s0 : ((W1.setCell ⟨q, 0, none⟩ (.int .i64 0)).setCell ⟨q, 1, none⟩ (.slice none 0 0)).cell? ⟨q, 0, none⟩ = some (.int .i64 0) := cell_beside (by omega) (cell_here c0)
    have s1 : ((W1.setCell ⟨q, 0, none⟩ (.int .i64 0)).setCell ⟨q, 1, none⟩ (.slice none 0 0)).cell? ⟨q, 1, none⟩ = some (.slice none 0 0) := cell_here (cell_beside (by omega) c1)
    refine bodyPost_ret (v := .tuple #[.agg #[.int .i64 0, .slice none 0 0], .int .i64 0, .int .i64 3]) ?_ rfl ?_
    · simp [results, Tryz.results40, go_sem, s0, s1]
    · exact ⟨_, _, rfl, Own8.nil_ _ _, (HB1.out.setCell (by rw [HQ.out]; exact Nat.le_refl _) _).setCell (by rw [HQ.out]; exact Nat.le_refl _) _⟩
  · obtain ⟨b, off, rfl, hb, -⟩ := hA (by omega)
    obtain ⟨b', off', e', hb', x0⟩ := HV.out.byteAt (k := 0) (by omega)
    obtain ⟨rfl, rfl⟩ : b = b' ∧ off = off' := by injection e' with e'; injection e' with e1 e2 _; exact ⟨e1, e2⟩
    obtain ⟨b', off', e'', -, x1⟩ := HV.out.byteAt (k := 1) (by omega)
    obtain ⟨rfl, rfl⟩ : b = b' ∧ off = off' := by injection e'' with e''; injection e'' with e1 e2 _; exact ⟨e1, e2⟩
    obtain ⟨b', off', e'', -, x2⟩ := HV.out.byteAt (k := 2) (by omega)
    obtain ⟨rfl, rfl⟩ : b = b' ∧ off = off' := by injection e'' with e''; injection e'' with e1 e2 _; exact ⟨e1, e2⟩
    obtain ⟨b', off', e'', -, x3⟩ := HV.out.byteAt (k := 3) (by omega)
    obtain ⟨rfl, rfl⟩ : b = b' ∧ off = off' := by injection e'' with e''; injection e'' with e1 e2 _; exact ⟨e1, e2⟩
    clear e' e''
    have hn : nB l = (l.getD 0 0).toNat + 256 * (l.getD 1 0).toNat + 65536 * (l.getD 2 0).toNat + 16777216 * (l.getD 3 0).toNat := rfl
    obtain ⟨N, hN⟩ : ∃ N, N = nB l := ⟨_, rfl⟩
    rw [← hN] at hn
    have l0 := UInt8.toNat_lt (l.getD 0 0); have l1 := UInt8.toNat_lt (l.getD 1 0); have l2 := UInt8.toNat_lt (l.getD 2 0); have l3 := UInt8.toNat_lt (l.getD 3 0)
    obtain ⟨r, hr⟩ : ∃ r, r = frameG l := ⟨_, rfl⟩
    rw [← hr]
    have hways : (65536 < N ∧ r = ((0, []), 0, 2)) ∨ (¬ 65536 < N ∧ l.length < N + 9 ∧ r = ((0, []), 0, 3)) ∨ (¬ 65536 < N ∧ ¬ l.length < N + 9 ∧ wholeB (l.take (N + 9)) (N + 5) = false ∧ r = ((0, []), 0, 4)) ∨
        (¬ 65536 < N ∧ ¬ l.length < N + 9 ∧ wholeB (l.take (N + 9)) (N + 5) = true ∧ r = (((l.getD 4 0).toNat, (l.drop 5).take N), N + 9, 0)) := by
      rw [hr, hN]
      unfold frameG
      rw [if_neg h1]
      by_cases g1 : 65536 < nB l
      · exact .inl ⟨g1, if_pos g1⟩
      rw [if_neg g1]
      by_cases g2 : l.length < nB l + 9
      · exact .inr (.inl ⟨g1, g2, if_pos g2⟩)
      rw [if_neg g2]
      cases g3 : wholeB (l.take (nB l + 9)) (nB l + 5) with
      | false => exact .inr (.inr (.inl ⟨g1, g2, rfl, if_neg (by decide)⟩))
      | true => exact .inr (.inr (.inr ⟨g1, g2, rfl, if_pos rfl⟩))
    generalize (l.getD 0 0).toNat = y0 at *
    generalize (l.getD 1 0).toNat = y1 at *
    generalize (l.getD 2 0).toNat = y2 at *
    generalize (l.getD 3 0).toNat = y3 at *
    have HNN := hid hn
    rw [Nat.add_zero] at x0
    have i0 : (0 : Int) < (l.length : Int) := by omega
    have i1 : (1 : Int) < (l.length : Int) := by omega
    have i2 : (2 : Int) < (l.length : Int) := by omega
    have i3 : (3 : Int) < (l.length : Int) := by omega
    clear hr hN hn hW1 hb1 hz1 hq hv hA
    have o3 : (y0 : Int) + 256 * (y1 : Int) + 65536 * (y2 : Int) + 16777216 * (y3 : Int) = (N : Int) := by rw [HNN.out]; omega
    have hN4 : N < 4294967296 := by have := HNN.out; omega
    have HW5 := hid (fun W (hb : Below W1.heap.size W1 W) (hg : N + 9 ≤ l.length) => refWith_any (.slice (some ⟨b, off, none⟩) (N + 5) c) (l.take (N + 5)) W (((Sl.headB HV.out (m := N + 5) (by omega)).below hb).more hb.size) (by rw [List.length_take]; omega))
    have HS9 := hid (fun v W (hb : Below W1.heap.size W1 W) (hg : N + 9 ≤ l.length) (r : List UInt8) (hr : Sl W W.heap.size v (bvals r)) (hrl : r.length ≤ 1000000) => sameB_any (.slice (some ⟨b, off, none⟩) (N + 9) c) v (l.take (N + 9)) r W (by rw [List.length_take]; omega) (by omega) (((Sl.headB HV.out (m := N + 9) hg).below hb).more hb.size) hr)
    have hwl : (l.take (N + 5) ++ le4 (crcSum (l.take (N + 5))).toNat).length ≤ 1000000 → True := fun _ => trivial
    have HWS := hid (fun hg => wholeB_same l N hg)
    have HT5 := hid (show ∀ z, (l.take (N + 5) ++ le4 z).length ≤ N + 9 from fun z => by rw [List.length_append, List.length_take, show (le4 z).length = 4 from rfl]; omega)
    generalize hT : l.take (N + 5) ++ le4 (crcSum (l.take (N + 5))).toNat = T at *
    have HTL := hid (show T.length ≤ N + 9 by rw [← hT]; exact HT5.out _)
    clear hT hwl HT5
    rcases hways with ⟨g1, rfl⟩ | ⟨g1, g2, rfl⟩ | ⟨g1, g2, g3, rfl⟩ | ⟨g1, g2, g3, rfl⟩
    · go_enter Tryz.func40, Tryz.ntmps40
      go_upto_region 3 with (fail)
      rw [← HW1.out, ← HQ.out]
      go_quiet (fail)
      go_wp2
      have s0 : (((W1.drewN nq).setCell ⟨q, 0, none⟩ (.int .i64 0)).setCell ⟨q, 1, none⟩ (.slice none 0 0)).cell? ⟨q, 0, none⟩ = some (.int .i64 0) := cell_beside (by omega) (cell_here c0)
      have s1 : (((W1.drewN nq).setCell ⟨q, 0, none⟩ (.int .i64 0)).setCell ⟨q, 1, none⟩ (.slice none 0 0)).cell? ⟨q, 1, none⟩ = some (.slice none 0 0) := cell_here (cell_beside (by omega) c1)
      refine bodyPost_ret (v := .tuple #[.agg #[.int .i64 0, .slice none 0 0], .int .i64 0, .int .i64 2]) ?_ rfl ?_
      · simp [results, Tryz.results40, go_sem, s0, s1]
      · exact ⟨_, _, rfl, Own8.nil_ _ _, ((below_drewN HB1.out nq).setCell (by rw [HQ.out]; exact Nat.le_refl _) _).setCell (by rw [HQ.out]; exact Nat.le_refl _) _⟩
    · go_enter Tryz.func40, Tryz.ntmps40
      go_upto_region 3 with (fail)
      rw [← HW1.out, ← HQ.out]
      go_quiet (fail)
      go_wp2
      have s0 : (((W1.drewN nq).setCell ⟨q, 0, none⟩ (.int .i64 0)).setCell ⟨q, 1, none⟩ (.slice none 0 0)).cell? ⟨q, 0, none⟩ = some (.int .i64 0) := cell_beside (by omega) (cell_here c0)
      have s1 : (((W1.drewN nq).setCell ⟨q, 0, none⟩ (.int .i64 0)).setCell ⟨q, 1, none⟩ (.slice none 0 0)).cell? ⟨q, 1, none⟩ = some (.slice none 0 0) := cell_here (cell_beside (by omega) c1)
      refine bodyPost_ret (v := .tuple #[.agg #[.int .i64 0, .slice none 0 0], .int .i64 0, .int .i64 3]) ?_ rfl ?_
      · simp [results, Tryz.results40, go_sem, s0, s1]
      · exact ⟨_, _, rfl, Own8.nil_ _ _, ((below_drewN HB1.out nq).setCell (by rw [HQ.out]; exact Nat.le_refl _) _).setCell (by rw [HQ.out]; exact Nat.le_refl _) _⟩
    · have j1 : IntKind.i64.wrap ((N : Int) + 9) = (N : Int) + 9 := IntWalk.i64_in _ (by omega)
      have j2 : IntKind.i64.wrap ((N : Int) + 5) = (N : Int) + 5 := IntWalk.i64_in _ (by omega)
      have j3 : (N : Int) + 9 ≤ (c : Int) := by omega
      have j4 : (N : Int) + 5 ≤ (c : Int) := by omega
      have j5 : (0 : Int) ≤ (N : Int) + 9 := by omega
      have j6 : (0 : Int) ≤ (N : Int) + 5 := by omega
      have j7 : ((N : Int) + 5).toNat = N + 5 := by omega
      have j8 : ((N : Int) + 9).toNat = N + 9 := by omega
      have hws := HWS.out (by omega)
      rw [g3] at hws
      have HWS2 := hid hws
      clear hws
      go_enter Tryz.func40, Tryz.ntmps40
      go_upto_region 3 with (fail)
      rw [← HW1.out, ← HQ.out]
      go_quiet (fail)
      go_upto_region 8 with (fail)
      go_region_held3 (fun _ => True) (go_keep)
        (first
          | ((with_reducible refine HS2.out.mono ?_); rintro e w6 ⟨rfl, hq6⟩; have HB6 := hid (HB5.out.trans (hq6.below _)); clear hq6)
          | ((with_reducible refine (HW5.out (W1.drewN (nq + 1)) (below_drewN (Below.refl W1.heap.size W1) (nq + 1)) (by omega)).mono ?_); rintro e w5 ⟨v5, rfl, ho5, hb5⟩; have HB5 := hid ((below_drewN (Below.refl W1.heap.size W1) (nq + 1)).trans hb5); have HS2 := hid (HS9.out v5 w5 HB5.out (by omega) T ho5.sl (by have := HTL.out; omega)); clear ho5 hb5))
      all_goals
        rw [HWS2.out]
        have hb6 := HB6.out
        have c0 := cellK hb6 hq1 c0; have c1 := cellK hb6 hq1 c1; have f0 := frozenK hb6 hq1 f0; have f1 := frozenK hb6 hq1 f1
        have HB6' := hid (HB1.out.trans (hb6.mono HB1.out.size))
        clear hb6
        go_wp2
        have s0 : ((w6.setCell ⟨q, 0, none⟩ (.int .i64 0)).setCell ⟨q, 1, none⟩ (.slice none 0 0)).cell? ⟨q, 0, none⟩ = some (.int .i64 0) := cell_beside (by omega) (cell_here c0)
        have s1 : ((w6.setCell ⟨q, 0, none⟩ (.int .i64 0)).setCell ⟨q, 1, none⟩ (.slice none 0 0)).cell? ⟨q, 1, none⟩ = some (.slice none 0 0) := cell_here (cell_beside (by omega) c1)
        refine bodyPost_ret (v := .tuple #[.agg #[.int .i64 0, .slice none 0 0], .int .i64 0, .int .i64 4]) ?_ rfl ?_
        · simp [results, Tryz.results40, go_sem, s0, s1]
        · exact ⟨_, _, rfl, Own8.nil_ _ _, ((HB6'.out).setCell (by rw [HQ.out]; exact Nat.le_refl _) _).setCell (by rw [HQ.out]; exact Nat.le_refl _) _⟩
    · obtain ⟨b', off', e'', -, x4⟩ := HV.out.byteAt (k := 4) (by omega)
      obtain ⟨rfl, rfl⟩ : b = b' ∧ off = off' := by injection e'' with e''; injection e'' with e1 e2 _; exact ⟨e1, e2⟩
      clear e''
      have hbd : ((l.drop 5).take N).length = N := by rw [List.length_take, List.length_drop]; omega
      have HBD := hid hbd
      have HSB := hid (show Sl W1 W1.heap.size (.slice (some ⟨b, off + 5, none⟩) N (c - 5)) (bvals ((l.drop 5).take N)) by
        have h := HV.out.mid (a := 5) (m := N) (by omega)
        rw [if_neg (by omega)] at h
        have ea : (⟨b, off, none⟩ : Addr).add 5 = ⟨b, off + 5, none⟩ := by unfold Addr.add; split <;> simp_all
        rw [Option.map_some, ea, show ((bvals l).drop 5).take N = bvals ((l.drop 5).take N) by simp [bvals, List.map_take, List.map_drop]] at h
        exact h)
      generalize (l.drop 5).take N = body at *
      have HY4 := hid (UInt8.toNat_lt (l.getD 4 0))
      generalize (l.getD 4 0).toNat = y4 at *
      have i4 : (4 : Int) < (l.length : Int) := by omega
      have j9 : (5 : Int) ≤ (N : Int) + 5 := by omega
      have k1 : ¬ c = 5 := by omega
      have k3 : IntKind.i64.wrap (y4 : Int) = (y4 : Int) := IntWalk.i64_in _ (by have := HY4.out; omega)
      clear hbd
      have j1 : IntKind.i64.wrap ((N : Int) + 9) = (N : Int) + 9 := IntWalk.i64_in _ (by omega)
      have j2 : IntKind.i64.wrap ((N : Int) + 5) = (N : Int) + 5 := IntWalk.i64_in _ (by omega)
      have j3 : (N : Int) + 9 ≤ (c : Int) := by omega
      have j4 : (N : Int) + 5 ≤ (c : Int) := by omega
      have j5 : (0 : Int) ≤ (N : Int) + 9 := by omega
      have j6 : (0 : Int) ≤ (N : Int) + 5 := by omega
      have j7 : ((N : Int) + 5).toNat = N + 5 := by omega
      have j8 : ((N : Int) + 9).toNat = N + 9 := by omega
      have hws := HWS.out (by omega)
      rw [g3] at hws
      have HWS2 := hid hws
      clear hws
      go_enter Tryz.func40, Tryz.ntmps40
      go_upto_region 3 with (fail)
      rw [← HW1.out, ← HQ.out]
      go_quiet (fail)
      go_upto_region 8 with (fail)
      go_region_held3 (fun _ => True) (go_keep)
        (first
          | ((with_reducible refine HS2.out.mono ?_); rintro e w6 ⟨rfl, hq6⟩; have HB6 := hid (HB5.out.trans (hq6.below _)); clear hq6)
          | ((with_reducible refine (HW5.out (W1.drewN (nq + 1)) (below_drewN (Below.refl W1.heap.size W1) (nq + 1)) (by omega)).mono ?_); rintro e w5 ⟨v5, rfl, ho5, hb5⟩; have HB5 := hid ((below_drewN (Below.refl W1.heap.size W1) (nq + 1)).trans hb5); have HS2 := hid (HS9.out v5 w5 HB5.out (by omega) T ho5.sl (by have := HTL.out; omega)); clear ho5 hb5))
      all_goals
        rw [HWS2.out]
        have hb6 := HB6.out
        have c0 := cellK hb6 hq1 c0; have c1 := cellK hb6 hq1 c1; have f0 := frozenK hb6 hq1 f0; have f1 := frozenK hb6 hq1 f1
        have HB6' := hid (HB1.out.trans (hb6.mono HB1.out.size))
        have hbq : b < W1.heap.size := hb'
        have x4 := cellK hb6 hbq x4
        have HSB6 := hid ((HSB.out.below hb6).more hb6.size)
        have hz6 := hb6.size
        clear hb6
        go_wp2_with (at_builtin; refine stop_here ?_)
        refine go_on ?_
        refine app_own (.tmp 56) (.tmp 60) 23 23 rfl rfl w6.heap.size 5 ti0 (.int .u8 0) 1 1 Tryz.underlying23 hi hz0 hz1' hz2 rfl (by omega) _ 0 [] rfl (World.ownsRow_nil _ _ _ _) (.slice (some ⟨b, off + 5, none⟩) N (c - 5)) N (bvals body) rfl (by have := src_sl _ Tryz.underlying23 HSB6.out (bvals_one body); rwa [bvals_len, HBD.out] at this) (by unfold maxLen; omega) (by omega) (by omega) ?_
        intro v8 w8 ho8 hg8 hb8
        rw [Nat.zero_add, List.nil_append] at ho8
        have h8 : Own8 w8 w6.heap.size v8 body := by unfold Own8; rw [HBD.out]; exact ho8
        obtain ⟨Ao, co, rfl⟩ := h8.form
        have hq6 := Nat.lt_of_lt_of_le hq1 hz6
        have hb66 := Nat.lt_of_lt_of_le hbq hz6
        have c0 := cellK hb8 hq6 c0; have c1 := cellK hb8 hq6 c1; have f0 := frozenK hb8 hq6 f0; have f1 := frozenK hb8 hq6 f1; have x4 := cellK hb8 hb66 x4
        have H8 := hid h8; have HB8 := hid hb8
        clear ho8 hg8 hb8 h8
        go_wp2
        have s0 : ((w8.setCell ⟨q, 0, none⟩ (.int .i64 y4)).setCell ⟨q, 1, none⟩ (.slice Ao body.length co)).cell? ⟨q, 0, none⟩ = some (.int .i64 y4) := cell_beside (by omega) (cell_here c0)
        have s1 : ((w8.setCell ⟨q, 0, none⟩ (.int .i64 y4)).setCell ⟨q, 1, none⟩ (.slice Ao body.length co)).cell? ⟨q, 1, none⟩ = some (.slice Ao body.length co) := cell_here (cell_beside (by omega) c1)
        have hqq := HQ.out
        have z1 := HB1.out.size
        have hk : ∀ (W : World) i u, Own8 W w6.heap.size (.slice Ao body.length co) body → Own8 (W.setCell ⟨q, i, none⟩ u) w6.heap.size (.slice Ao body.length co) body := fun W i u h => own_kept h (fun g hg => Below.heap_setCell W ⟨q, i, none⟩ u g (by have := own_lt h g hg; show g ≠ q; omega))
        have h6 := HB6'.out.trans (HB8.out.mono (by omega))
        refine bodyPost_ret (v := .tuple #[.agg #[.int .i64 y4, .slice Ao body.length co], .int .i64 ((N : Int) + 9), .int .i64 0]) ?_ rfl ?_
        · simp [results, Tryz.results40, go_sem, s0, s1]
        · exact ⟨Ao, co, rfl, Own8.less (hk _ _ _ (hk _ _ _ H8.out)) (by omega), (h6.setCell (show w.heap.size ≤ q by omega) _).setCell (show w.heap.size ≤ q by omega) _⟩
end Go.Proofs.YtkgifbnkkmeoiaaGreatDoor
