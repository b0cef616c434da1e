/- 2 texts of this claim, in build order. -/
import Derived.Test.YtkgifbnkkmeoiaaGreatDoorPogmeecij
import Derived.Deep.RegionHeld3
import Derived.Test.YtkgifbnkkmeoiaaGreatDoorPpkjbpbjh
import Derived.Test.YtkgifbnkkmeoiaaGreatDoorPajbicmld
import Derived.Deep.RegionLaw
/- The program's crc.Whole. -/
namespace Go.Proofs.YtkgifbnkkmeoiaaGreatDoor
open Go.ChangeShapes Go.WideShapes Go.ChangeAt Go.RowKit
set_option linter.unusedVariables false
set_option linter.unusedSimpArgs false

def wholeB (l : List UInt8) (k : Nat) : Bool := decide (l.drop k = le4 (crcSum (l.take k)).toNat)
theorem Sl.headB {w : World} {B n c : Nat} {A : Option Addr} {l : List UInt8} (h : Sl w B (.slice A n c) (bvals l)) {m : Nat} (hm : m ≤ n) : Sl w B (.slice A m c) (bvals (l.take m)) := by
  have := Sl.head m h hm
  rwa [show (bvals l).take m = bvals (l.take m) by simp [bvals, List.map_take]] at this
theorem Sl.dropB {w : World} {B n c b off k : Nat} {l : List UInt8} (h : Sl w B (.slice (some ⟨b, off, none⟩) n c) (bvals l)) (hk : k ≤ n) (hc : k < c) : Sl w B (.slice (some ⟨b, off + k, none⟩) (n - k) (c - k)) (bvals (l.drop k)) := by
  have := h.mid (a := k) (m := n - k) (by omega)
  rw [if_neg (by omega)] at this
  have e : ((bvals l).drop k).take (n - k) = bvals (l.drop k) := by
    obtain ⟨A, c', e, -⟩ := h
    injection e with _ e2 _
    rw [bvals_len] at e2
    rw [List.take_of_length_le (by rw [List.length_drop, bvals_len]; omega)]
    simp [bvals, List.map_drop]
  rw [e] at this
  have ea : (⟨b, off, none⟩ : Addr).add k = ⟨b, off + k, none⟩ := by unfold Addr.add; split <;> simp_all
  rw [Option.map_some, ea] at this
  exact this
set_option maxRecDepth 100000 in
set_option maxHeartbeats 800000 in
theorem whole_any (v : Value) (l : List UInt8) (k : Nat) (w : World) (hv : Sl w w.heap.size v (bvals l)) (hk : l.length = k + 4) (hl : l.length ≤ 1000000) : Calls Tryz.prog 54 #[v] w (Gives (.bool (wholeB l k)) w) := by
  obtain ⟨A, c, e, hc1, hc2, hA⟩ := id hv
  rw [bvals_len] at e hc1 hA
  obtain ⟨b, off, rfl, -, -⟩ := hA (by omega)
  rw [hk] at e hc1
  subst e
  unfold maxLen at hc2
  have h1 := Sl.headB hv (m := k) (by omega)
  have h2 := Sl.dropB hv (k := k) (by omega) (by omega)
  rw [show k + 4 - k = 4 by omega] at h2
  have hkl : k ≤ 1000000 := by omega
  have hcb := crcSum_bounds (l.take k)
  have HSUM := hid (fun W (hq : Qu w W) => sum_any (.slice (some ⟨b, off, none⟩) k c) (l.take k) W ((h1.qu' hq).more (by rw [hq.size]; exact Nat.le_refl _)) (by rw [List.length_take]; omega))
  obtain ⟨q, hq⟩ : ∃ q : Nat, crcSum (l.take k) = (q : Int) := ⟨(crcSum (l.take k)).toNat, by omega⟩
  have HB := hid (show wholeB l k = decide (l.drop k = le4 q) by unfold wholeB; rw [hq, Int.toNat_natCast])
  rw [hq] at HSUM hcb
  have HBY := hid (fun W => bytes_any q (by omega) W)
  have H2 := hid h2
  have hd : (l.drop k).length = 4 := by rw [List.length_drop]; omega
  have HD := hid hd
  generalize wholeB l k = r at *
  generalize l.drop k = t at *
  have g1 : decide ((0 : Int) ≤ (k : Int)) = true := decide_eq_true (by omega)
  have f1 : (k : Int) ≤ (k : Int) + 4 := by omega
  have f2 : ¬ c = k := by omega
  have f3 : k ≤ c := by omega
  have f4 : k ≤ k + 4 := by omega
  have HSUM := hid (HSUM.out w.drew ⟨1, rfl⟩)
  clear hv h1 h2 hq hd hA hk hl
  go_enter Tryz.func54, Tryz.ntmps54
  go_upto_region 2 with (fail)
  go_region_held3 (fun _ => True) (go_keep)
    (first
      | ((with_reducible refine HEQ.out.mono ?_); rintro e w7 ⟨rfl, hq7⟩; have HB7 := hid (HB6.out.trans (hq7.below _)); clear hq7)
      | ((with_reducible refine (HBY.out _).mono ?_); rintro e w6 ⟨v6, rfl, ho6, hb6⟩; have HB6 := hid ((Below.refl w.heap.size w).drew.trans hb6); have HEQ := hid (equalB_any (.slice (some ⟨b, off + k, none⟩) 4 (c - k)) v6 t (le4 q) w6 ((H2.out.below HB6.out).more HB6.out.size) ho6.sl (by have := HD.out; omega) (by rw [show (le4 q).length = 4 from rfl]; omega)); clear ho6 hb6)
      | ((with_reducible refine HSUM.out.mono ?_); rintro e w5 ⟨rfl, rfl⟩))
  all_goals
    go_wp2
    go_ret
    exact ⟨by rw [HB.out]; rfl, HB7.out⟩
end Go.Proofs.YtkgifbnkkmeoiaaGreatDoor
/- The program's frame.Get. -/
namespace Go.Proofs.YtkgifbnkkmeoiaaGreatDoor
open Go.ChangeShapes Go.WideShapes Go.ChangeAt Go.RowKit
set_option linter.unusedVariables false
set_option linter.unusedSimpArgs false

theorem bits_or_i64_nat (a b : Nat) (ha : a < 4611686018427387904) (hb : b < 4611686018427387904) : Go.bits .or .i64 (a : Int) (b : Int) = ((a ||| b : Nat) : Int) := by
  have hx : a ||| b < 2 ^ 62 := Nat.or_lt_two_pow (by omega) (by omega)
  have h1 : (BitVec.ofInt 64 (a : Int)).toNat = a := by
    rw [BitVec.ofInt_natCast, BitVec.toNat_ofNat]; exact Nat.mod_eq_of_lt (by omega)
  have h2 : (BitVec.ofInt 64 (b : Int)).toNat = b := by
    rw [BitVec.ofInt_natCast, BitVec.toNat_ofNat]; exact Nat.mod_eq_of_lt (by omega)
  show IntKind.i64.wrap ((BitVec.ofInt 64 (a : Int) ||| BitVec.ofInt 64 (b : Int)).toNat : Int) = _
  rw [BitVec.toNat_or, h1, h2, IntKind.wrap_i64]
  omega
theorem or_hi (a h k : Nat) (ha : a < 2 ^ k) (h1 : a < 4611686018427387904) (h2 : h * 2 ^ k < 4611686018427387904) : Go.bits .or .i64 (a : Int) ((h : Int) * ((2 ^ k : Nat) : Int)) = ((a + h * 2 ^ k : Nat) : Int) := by
  rw [show (h : Int) * ((2 ^ k : Nat) : Int) = ((h * 2 ^ k : Nat) : Int) by simp, bits_or_i64_nat _ _ h1 h2]
  have := Nat.two_pow_add_eq_or_of_lt ha h
  rw [Nat.or_comm, Nat.mul_comm h, ← this, Nat.add_comm]
def nB (l : List UInt8) : Nat := (l.getD 0 0).toNat + 256 * (l.getD 1 0).toNat + 65536 * (l.getD 2 0).toNat + 16777216 * (l.getD 3 0).toNat
/-- The frame with which bytes begin: its kind and body, how many bytes it has, the error. -/
def frameG (l : List UInt8) : (Nat × List UInt8) × Nat × Int :=
  if l.length < 4 then ((0, []), 0, 3) else if 65536 < nB l then ((0, []), 0, 2) else if l.length < nB l + 9 then ((0, []), 0, 3) else
  if wholeB (l.take (nB l + 9)) (nB l + 5) = true then (((l.getD 4 0).toNat, (l.drop 5).take (nB l)), nB l + 9, 0) else ((0, []), 0, 4)
def FGetP (r : (Nat × List UInt8) × Nat × Int) (w : World) (e : Ending) (w' : World) : Prop :=
  ∃ A c, e = .returned (.tuple #[.agg #[.int .i64 r.1.1, .slice A r.1.2.length c], .int .i64 r.2.1, .int .i64 r.2.2]) ∧ Own8 w' w.heap.size (.slice A r.1.2.length c) r.1.2 ∧ Below w.heap.size w w'
set_option maxRecDepth 100000 in
set_option maxHeartbeats 1600000 in
theorem frameG_any (v : Value) (l : List UInt8) (w : World) (hv : Sl w w.heap.size v (bvals l)) (hl : l.length ≤ 1000000) : Calls Tryz.prog 26 #[v] w (FGetP (frameG l) w) := by
  obtain ⟨A, c, e, hc1, hc2, hA⟩ := id hv
  rw [bvals_len] at e hc1 hA
  subst e
  unfold maxLen at hc2
  obtain ⟨W1, hW1⟩ : ∃ W1, W1 = w.alloc (.cells #[.int .i64 0, .slice none 0 0] 54) := ⟨_, rfl⟩
  have hb1 : Below w.heap.size w W1 := by rw [hW1]; exact bl1 _ _
  have hz1 : W1.heap.size = w.heap.size + 1 := by rw [hW1]; simp
  obtain ⟨q, hq⟩ : ∃ q, q = w.heap.size := ⟨_, rfl⟩
  have c0 : W1.cell? ⟨q, 0, none⟩ = some (.int .i64 0) := by rw [hW1, hq]; simp [go_sem]
  have c1 : W1.cell? ⟨q, 1, none⟩ = some (.slice none 0 0) := by rw [hW1, hq]; simp [go_sem]
  have f0 : W1.frozen? ⟨q, 0, none⟩ = false := by rw [hW1, hq]; simp [go_sem]
  have f1 : W1.frozen? ⟨q, 1, none⟩ = false := by rw [hW1, hq]; simp [go_sem]
  have HV := hid ((hv.below hb1).more hb1.size)
  have HW1 := hid hW1; have HB1 := hid hb1; have HQ := hid hq
  have hq1 : q < W1.heap.size := by omega
  by_cases h1 : l.length < 4
  · have hr : frameG l = ((0, []), 0, 3) := if_pos h1
    rw [hr]
    clear hr hW1 hb1 hz1 hq hv hA
    go_enter Tryz.func26, Tryz.ntmps26
    go_upto_region 1 with (fail)
    rw [← HW1.out, ← HQ.out]
    go_wp2
    have s0 : ((W1.setCell ⟨q, 0, none⟩ (.int .i64 0)).setCell ⟨q, 1, none⟩ (.slice none 0 0)).cell? ⟨q, 0, none⟩ = some (.int .i64 0) := cell_beside (by omega) (cell_here c0)
    have s1 : ((W1.setCell ⟨q, 0, none⟩ (.int .i64 0)).setCell ⟨q, 1, none⟩ (.slice none 0 0)).cell? ⟨q, 1, none⟩ = some (.slice none 0 0) := cell_here (cell_beside (by omega) c1)
    refine bodyPost_ret (v := .tuple #[.agg #[.int .i64 0, .slice none 0 0], .int .i64 0, .int .i64 3]) ?_ rfl ?_
    · simp [results, Tryz.results26, go_sem, s0, s1]
    · exact ⟨_, _, rfl, Own8.nil_ _ _, (HB1.out.setCell (by rw [HQ.out]; exact Nat.le_refl _) _).setCell (by rw [HQ.out]; exact Nat.le_refl _) _⟩
  · obtain ⟨b, off, rfl, hb, -⟩ := hA (by omega)
    obtain ⟨b', off', e', hb', x0⟩ := HV.out.byteAt (k := 0) (by omega)
    obtain ⟨rfl, rfl⟩ : b = b' ∧ off = off' := by injection e' with e'; injection e' with e1 e2 _; exact ⟨e1, e2⟩
    obtain ⟨b', off', e'', -, x1⟩ := HV.out.byteAt (k := 1) (by omega)
    obtain ⟨rfl, rfl⟩ : b = b' ∧ off = off' := by injection e'' with e''; injection e'' with e1 e2 _; exact ⟨e1, e2⟩
    obtain ⟨b', off', e'', -, x2⟩ := HV.out.byteAt (k := 2) (by omega)
    obtain ⟨rfl, rfl⟩ : b = b' ∧ off = off' := by injection e'' with e''; injection e'' with e1 e2 _; exact ⟨e1, e2⟩
    obtain ⟨b', off', e'', -, x3⟩ := HV.out.byteAt (k := 3) (by omega)
    obtain ⟨rfl, rfl⟩ : b = b' ∧ off = off' := by injection e'' with e''; injection e'' with e1 e2 _; exact ⟨e1, e2⟩
    clear e' e''
    have hn : nB l = (l.getD 0 0).toNat + 256 * (l.getD 1 0).toNat + 65536 * (l.getD 2 0).toNat + 16777216 * (l.getD 3 0).toNat := rfl
    obtain ⟨N, hN⟩ : ∃ N, N = nB l := ⟨_, rfl⟩
    rw [← hN] at hn
    have l0 := UInt8.toNat_lt (l.getD 0 0); have l1 := UInt8.toNat_lt (l.getD 1 0); have l2 := UInt8.toNat_lt (l.getD 2 0); have l3 := UInt8.toNat_lt (l.getD 3 0)
    obtain ⟨r, hr⟩ : ∃ r, r = frameG l := ⟨_, rfl⟩
    rw [← hr]
    have hways : (65536 < N ∧ r = ((0, []), 0, 2)) ∨ (¬ 65536 < N ∧ l.length < N + 9 ∧ r = ((0, []), 0, 3)) ∨ (¬ 65536 < N ∧ ¬ l.length < N + 9 ∧ wholeB (l.take (N + 9)) (N + 5) = false ∧ r = ((0, []), 0, 4)) ∨
        (¬ 65536 < N ∧ ¬ l.length < N + 9 ∧ wholeB (l.take (N + 9)) (N + 5) = true ∧ r = (((l.getD 4 0).toNat, (l.drop 5).take N), N + 9, 0)) := by
      rw [hr, hN]
      unfold frameG
      rw [if_neg h1]
      by_cases g1 : 65536 < nB l
      · exact .inl ⟨g1, if_pos g1⟩
      rw [if_neg g1]
      by_cases g2 : l.length < nB l + 9
      · exact .inr (.inl ⟨g1, g2, if_pos g2⟩)
      rw [if_neg g2]
      cases g3 : wholeB (l.take (nB l + 9)) (nB l + 5) with
      | false => exact .inr (.inr (.inl ⟨g1, g2, rfl, if_neg (by decide)⟩))
      | true => exact .inr (.inr (.inr ⟨g1, g2, rfl, if_pos rfl⟩))
    generalize (l.getD 0 0).toNat = y0 at *
    generalize (l.getD 1 0).toNat = y1 at *
    generalize (l.getD 2 0).toNat = y2 at *
    generalize (l.getD 3 0).toNat = y3 at *
    have HNN := hid hn
    rw [Nat.add_zero] at x0
    have i0 : (0 : Int) < (l.length : Int) := by omega
    have i1 : (1 : Int) < (l.length : Int) := by omega
    have i2 : (2 : Int) < (l.length : Int) := by omega
    have i3 : (3 : Int) < (l.length : Int) := by omega
    clear hr hN hn hW1 hb1 hz1 hq hv hA
    obtain ⟨M1, hM1⟩ : ∃ M1, M1 = y0 + y1 * 256 := ⟨_, rfl⟩
    obtain ⟨M2, hM2⟩ : ∃ M2, M2 = M1 + y2 * 65536 := ⟨_, rfl⟩
    have o1 : Go.bits .or .i64 (y0 : Int) ((y1 : Int) * 256) = (M1 : Int) := by rw [hM1]; exact or_hi y0 y1 8 (by omega) (by omega) (by omega)
    have o2 : Go.bits .or .i64 (M1 : Int) ((y2 : Int) * 65536) = (M2 : Int) := by rw [hM2]; exact or_hi M1 y2 16 (by omega) (by omega) (by omega)
    have o3 : Go.bits .or .i64 (M2 : Int) ((y3 : Int) * 16777216) = (N : Int) := by rw [HNN.out]; have := or_hi M2 y3 24 (by omega) (by omega) (by omega); rw [show y0 + 256 * y1 + 65536 * y2 + 16777216 * y3 = M2 + y3 * 2 ^ 24 by omega]; exact this
    have hN4 : N < 4294967296 := by have := HNN.out; omega
    clear hM1 hM2
    have HWH := hid (fun W (hq : Qu W1 W) (hg : N + 9 ≤ l.length) => whole_any (.slice (some ⟨b, off, none⟩) (N + 9) c) (l.take (N + 9)) (N + 5) W (((Sl.headB HV.out (m := N + 9) hg).qu' hq).more (by rw [hq.size]; exact Nat.le_refl _)) (by rw [List.length_take]; omega) (by rw [List.length_take]; omega))
    have HCL := hid (fun W (hb : Below W1.heap.size W1 W) (hg : N + 9 ≤ l.length) => clone_any (.slice (some ⟨b, off + 5, none⟩) N (c - 5)) ((l.drop 5).take N) W (by
      have h := HV.out.mid (a := 5) (m := N) (by omega)
      rw [if_neg (by omega)] at h
      have ea : (⟨b, off, none⟩ : Addr).add 5 = ⟨b, off + 5, none⟩ := by unfold Addr.add; split <;> simp_all
      rw [Option.map_some, ea, show ((bvals l).drop 5).take N = bvals ((l.drop 5).take N) by simp [bvals, List.map_take, List.map_drop]] at h
      exact (h.below hb).more hb.size) (by rw [List.length_take]; omega))
    rcases hways with ⟨g1, rfl⟩ | ⟨g1, g2, rfl⟩ | ⟨g1, g2, g3, rfl⟩ | ⟨g1, g2, g3, rfl⟩
    · go_enter Tryz.func26, Tryz.ntmps26
      go_upto_region 3 with (fail)
      rw [← HW1.out, ← HQ.out]
      go_quiet (fail)
      go_wp2
      have s0 : (((W1.drewN nq).setCell ⟨q, 0, none⟩ (.int .i64 0)).setCell ⟨q, 1, none⟩ (.slice none 0 0)).cell? ⟨q, 0, none⟩ = some (.int .i64 0) := cell_beside (by omega) (cell_here c0)
      have s1 : (((W1.drewN nq).setCell ⟨q, 0, none⟩ (.int .i64 0)).setCell ⟨q, 1, none⟩ (.slice none 0 0)).cell? ⟨q, 1, none⟩ = some (.slice none 0 0) := cell_here (cell_beside (by omega) c1)
      refine bodyPost_ret (v := .tuple #[.agg #[.int .i64 0, .slice none 0 0], .int .i64 0, .int .i64 2]) ?_ rfl ?_
      · simp [results, Tryz.results26, go_sem, s0, s1]
      · exact ⟨_, _, rfl, Own8.nil_ _ _, ((below_drewN HB1.out nq).setCell (by rw [HQ.out]; exact Nat.le_refl _) _).setCell (by rw [HQ.out]; exact Nat.le_refl _) _⟩
    · go_enter Tryz.func26, Tryz.ntmps26
      go_upto_region 3 with (fail)
      rw [← HW1.out, ← HQ.out]
      go_quiet (fail)
      go_wp2
      have s0 : (((W1.drewN nq).setCell ⟨q, 0, none⟩ (.int .i64 0)).setCell ⟨q, 1, none⟩ (.slice none 0 0)).cell? ⟨q, 0, none⟩ = some (.int .i64 0) := cell_beside (by omega) (cell_here c0)
      have s1 : (((W1.drewN nq).setCell ⟨q, 0, none⟩ (.int .i64 0)).setCell ⟨q, 1, none⟩ (.slice none 0 0)).cell? ⟨q, 1, none⟩ = some (.slice none 0 0) := cell_here (cell_beside (by omega) c1)
      refine bodyPost_ret (v := .tuple #[.agg #[.int .i64 0, .slice none 0 0], .int .i64 0, .int .i64 3]) ?_ rfl ?_
      · simp [results, Tryz.results26, go_sem, s0, s1]
      · exact ⟨_, _, rfl, Own8.nil_ _ _, ((below_drewN HB1.out nq).setCell (by rw [HQ.out]; exact Nat.le_refl _) _).setCell (by rw [HQ.out]; exact Nat.le_refl _) _⟩
    · go_enter Tryz.func26, Tryz.ntmps26
      go_upto_region 3 with (fail)
      rw [← HW1.out, ← HQ.out]
      go_quiet (fail)
      go_wp2_with fail
      refine (HWH.out _ ⟨nq, rfl⟩ (by omega)).mono ?_
      rw [g3]
      rintro e w5 ⟨rfl, hb5⟩
      have hb5 := (below_drewN (Below.refl W1.heap.size W1) nq).trans hb5
      have c0 := cellK hb5 hq1 c0; have c1 := cellK hb5 hq1 c1; have f0 := frozenK hb5 hq1 f0; have f1 := frozenK hb5 hq1 f1
      have HB5 := hid (HB1.out.trans (hb5.mono HB1.out.size))
      clear hb5
      go_wp2
      have s0 : ((w5.setCell ⟨q, 0, none⟩ (.int .i64 0)).setCell ⟨q, 1, none⟩ (.slice none 0 0)).cell? ⟨q, 0, none⟩ = some (.int .i64 0) := cell_beside (by omega) (cell_here c0)
      have s1 : ((w5.setCell ⟨q, 0, none⟩ (.int .i64 0)).setCell ⟨q, 1, none⟩ (.slice none 0 0)).cell? ⟨q, 1, none⟩ = some (.slice none 0 0) := cell_here (cell_beside (by omega) c1)
      refine bodyPost_ret (v := .tuple #[.agg #[.int .i64 0, .slice none 0 0], .int .i64 0, .int .i64 4]) ?_ rfl ?_
      · simp [results, Tryz.results26, go_sem, s0, s1]
      · exact ⟨_, _, rfl, Own8.nil_ _ _, (HB5.out.setCell (by rw [HQ.out]; exact Nat.le_refl _) _).setCell (by rw [HQ.out]; exact Nat.le_refl _) _⟩
    · obtain ⟨b', off', e'', -, x4⟩ := HV.out.byteAt (k := 4) (by omega)
      obtain ⟨rfl, rfl⟩ : b = b' ∧ off = off' := by injection e'' with e''; injection e'' with e1 e2 _; exact ⟨e1, e2⟩
      clear e''
      have hbd : ((l.drop 5).take N).length = N := by rw [List.length_take, List.length_drop]; omega
      have HBD := hid hbd
      generalize (l.drop 5).take N = body at *
      have HY4 := hid (UInt8.toNat_lt (l.getD 4 0))
      generalize (l.getD 4 0).toNat = y4 at *
      have i4 : (4 : Int) < (l.length : Int) := by omega
      clear hbd
      go_enter Tryz.func26, Tryz.ntmps26
      go_upto_region 3 with (fail)
      rw [← HW1.out, ← HQ.out]
      go_quiet (fail)
      go_wp2_with fail
      refine (HWH.out _ ⟨nq, rfl⟩ (by omega)).mono ?_
      rw [g3]
      rintro e w5 ⟨rfl, hb5⟩
      have hb5 := (below_drewN (Below.refl W1.heap.size W1) nq).trans hb5
      have hbq : b < W1.heap.size := hb'
      have x4 := cellK hb5 hbq x4
      have c0 := cellK hb5 hq1 c0; have c1 := cellK hb5 hq1 c1; have f0 := frozenK hb5 hq1 f0; have f1 := frozenK hb5 hq1 f1
      have HB5 := hid hb5
      have hq5 := Nat.lt_of_lt_of_le hq1 hb5.size
      have hb55 := Nat.lt_of_lt_of_le hbq hb5.size
      clear hb5
      go_upto_region 11 with (fail)
      have k1 : b ≠ q := by have := HQ.out; omega
      have k2 : q ≠ b := by have := HQ.out; omega
      have k3 : IntKind.i64.wrap (y4 : Int) = (y4 : Int) := IntWalk.i64_in _ (by have := HY4.out; omega)
      have j1 : (5 : Int) ≤ (N : Int) + 5 := by omega
      have j2 : (N : Int) + 5 ≤ (c : Int) := by omega
      have j3 : ¬ c = 5 := by omega
      have j5 : IntKind.i64.wrap ((N : Int) + 9 - 4) = (N : Int) + 5 := by rw [IntWalk.i64_in _ (by omega)]; omega
      have j6 : IntKind.i64.wrap ((N : Int) + 5) = (N : Int) + 5 := IntWalk.i64_in _ (by omega)
      have j7 : (N : Int) + 9 - 4 = (N : Int) + 5 := by omega
      have j8 : ((N : Int) + 5).toNat = N + 5 := by omega
      have j4 : N + 5 ≤ c := by omega
      go_region_held3 (fun w' => w'.cell? ⟨b, off + 4, none⟩ = some (.int .u8 (y4 : Int))) (go_keep)
        (((with_reducible refine (HCL.out _ (HB5.out.trans ((Below.refl w5.heap.size w5).drew.mono HB5.out.size)) (by omega)).mono ?_); rintro e w6 ⟨v6, rfl, ho6, hb6⟩; obtain ⟨Ao, co, rfl⟩ := Own8.form (show Own8 w6 _ v6 body from ho6); have hd6 := (Below.refl w5.heap.size w5).drew.trans hb6; have x4 := cellK hd6 hb55 x4; have c0 := cellK hd6 hq5 c0; have c1 := cellK hd6 hq5 c1; have f0 := frozenK hd6 hq5 f0; have f1 := frozenK hd6 hq5 f1; have HO6 := hid ho6; have HB6 := hid hd6; clear ho6 hb6 hd6))
      have s0 : ((w6.setCell ⟨q, 0, none⟩ (.int .i64 y4)).setCell ⟨q, 1, none⟩ (.slice Ao body.length co)).cell? ⟨q, 0, none⟩ = some (.int .i64 y4) := cell_beside (by omega) (cell_here c0)
      have s1 : ((w6.setCell ⟨q, 0, none⟩ (.int .i64 y4)).setCell ⟨q, 1, none⟩ (.slice Ao body.length co)).cell? ⟨q, 1, none⟩ = some (.slice Ao body.length co) := cell_here (cell_beside (by omega) c1)
      have z1 := HB1.out.size
      have z5 := HB5.out.size
      have hqq := HQ.out
      have hbf : Below w.heap.size w ((w6.setCell ⟨q, 0, none⟩ (.int .i64 y4)).setCell ⟨q, 1, none⟩ (.slice Ao body.length co)) := by
        have h6 := HB1.out.trans ((HB5.out.trans (HB6.out.mono z5)).mono z1)
        exact (h6.setCell (show w.heap.size ≤ q by omega) _).setCell (show w.heap.size ≤ q by omega) _
      have hof : Own8 ((w6.setCell ⟨q, 0, none⟩ (.int .i64 y4)).setCell ⟨q, 1, none⟩ (.slice Ao body.length co)) w.heap.size (.slice Ao body.length co) body := by
        have h0 : Own8 w6 w5.heap.size (.slice Ao body.length co) body := HO6.out
        have hk : ∀ (W : World) i u, Own8 W w5.heap.size (.slice Ao body.length co) body → Own8 (W.setCell ⟨q, i, none⟩ u) w5.heap.size (.slice Ao body.length co) body := fun W i u h => own_kept h (fun g hg => Below.heap_setCell W ⟨q, i, none⟩ u g (by have := own_lt h g hg; show g ≠ q; omega))
        exact Own8.less (hk _ _ _ (hk _ _ _ h0)) (by omega)
      have HBF := hid hbf; have HOF := hid hof
      clear hbf hof
      go_wp2
      refine bodyPost_ret (v := .tuple #[.agg #[.int .i64 y4, .slice Ao body.length co], .int .i64 ((N : Int) + 9), .int .i64 0]) ?_ rfl ?_
      · simp [results, Tryz.results26, go_sem, s0, s1]
      · exact ⟨Ao, co, rfl, HOF.out, HBF.out⟩
end Go.Proofs.YtkgifbnkkmeoiaaGreatDoor
