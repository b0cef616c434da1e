/- 2 texts of this claim, in build order. -/
import Derived.Test.YtkgifbnkkmeoiaaGreatDoorPnbddnjge
import Derived.Test.YtkgifbnkkmeoiaaGreatDoorPmedmiign
import Derived.Test.YtkgifbnkkmeoiaaGreatDoorPodkhkmbg
import Derived.Test.YtkgifbnkkmeoiaaGreatDoorPfimkpfpn
import Derived.Deep.RegionLaw
/- batch.Read's one: a fact is read. -/
namespace Go.Proofs.YtkgifbnkkmeoiaaGreatDoor
open Go.ChangeShapes Go.WideShapes Go.ChangeAt Go.RowKit
set_option linter.unusedVariables false
set_option linter.unusedSimpArgs false

def OnePost (r : FactX × Nat × Int) (B p : Nat) (l : List UInt8) (w : World) (e : Ending) (w' : World) : Prop :=
  ∃ pv vv, e = .returned (.agg #[pv, vv]) ∧ RowL w' w.heap.size pv r.1.1 ∧ w'.ownsRow w.heap.size 3 1 vv r.1.2.length (ivals r.1.2) ∧ RW w' B p l r.2.1 r.2.2 ∧ Upd p w w'
/-- The paths' loop. -/
def OpRel (l : List UInt8) (B p b : Nat) (w : World) (n : Nat) (T : List (List ByteArray) × Nat × Int) (i : Value) (wq : World) : Prop :=
  ∃ (j : Nat) (acc : List (List ByteArray)) (pv : Value) (a : Nat) (e : Int), j ≤ n ∧ i = .int .i64 j ∧ j = acc.length ∧ FBox w wq p w.heap.size (.slice none 0 0) (.slice none 0 0) ∧ FBox w wq p (w.heap.size + 1) pv (.slice none 0 0) ∧
    RowT wq (w.heap.size + 1 + 1) pv acc ∧ RW wq B p l a e ∧ T = (acc ++ (pathsR l (n - j) a e).1, (pathsR l (n - j) a e).2) ∧ wq.cell? ⟨b, 0, none⟩ = some (.pointer (some ⟨p, 0, none⟩))
/-- The values' loop. -/
def OvRel (l : List UInt8) (B p b : Nat) (w : World) (n : Nat) (ps : List (List ByteArray)) (pv : Value) (T : List Int × Nat × Int) (i : Value) (wq : World) : Prop :=
  ∃ (j : Nat) (acc : List Int) (vv : Value) (a : Nat) (e : Int), j ≤ n ∧ i = .int .i64 j ∧ j = acc.length ∧ FBox w wq p w.heap.size (.slice none 0 0) (.slice none 0 0) ∧ FBox w wq p (w.heap.size + 1) pv vv ∧
    RowT wq (w.heap.size + 1 + 1) pv ps ∧ wq.ownsRow (w.heap.size + 1 + 1) 3 1 vv acc.length (ivals acc) ∧ RW wq B p l a e ∧ T = (acc ++ (valsR l (n - j) a e).1, (valsR l (n - j) a e).2) ∧ wq.cell? ⟨b, 0, none⟩ = some (.pointer (some ⟨p, 0, none⟩))
theorem op_step {l : List UInt8} {n j a : Nat} {e : Int} {acc : List (List ByteArray)} {T : List (List ByteArray) × Nat × Int} (hj : j < n) (h : T = (acc ++ (pathsR l (n - j) a e).1, (pathsR l (n - j) a e).2)) :
    T = ((acc ++ [(pathS l a e).1]) ++ (pathsR l (n - (j + 1)) (pathS l a e).2.1 (pathS l a e).2.2).1, (pathsR l (n - (j + 1)) (pathS l a e).2.1 (pathS l a e).2.2).2) := by
  obtain ⟨k, hk⟩ : ∃ k, n - j = k + 1 := ⟨n - j - 1, by omega⟩
  rw [h, hk, show n - (j + 1) = k by omega]
  show (acc ++ ((pathS l a e).1 :: _), _) = _
  rw [List.append_assoc]; rfl
theorem ov_step {l : List UInt8} {n j a : Nat} {e : Int} {acc : List Int} {T : List Int × Nat × Int} (hj : j < n) (h : T = (acc ++ (valsR l (n - j) a e).1, (valsR l (n - j) a e).2)) :
    T = ((acc ++ [(rInt l a e (-2305843009213693952) 2305843009213693952).1]) ++ (valsR l (n - (j + 1)) (rInt l a e (-2305843009213693952) 2305843009213693952).2.1 (rInt l a e (-2305843009213693952) 2305843009213693952).2.2).1,
      (valsR l (n - (j + 1)) (rInt l a e (-2305843009213693952) 2305843009213693952).2.1 (rInt l a e (-2305843009213693952) 2305843009213693952).2.2).2) := by
  obtain ⟨k, hk⟩ : ∃ k, n - j = k + 1 := ⟨n - j - 1, by omega⟩
  rw [h, hk, show n - (j + 1) = k by omega]
  show (acc ++ (_ :: _), _) = _
  rw [List.append_assoc]; rfl
set_option maxRecDepth 100000 in
set_option maxHeartbeats 3200000 in
theorem one_any (B p b : Nat) (l : List UInt8) (a : Nat) (e : Int) (w : World) (h : RW w B p l a e) (hbx : w.cell? ⟨b, 0, none⟩ = some (.pointer (some ⟨p, 0, none⟩))) (hbp : b ≠ p) (hm : MaxL w) (hpm : p ≠ 0) (hll : l.length ≤ 1000000) :
    Calls Tryz.prog 87 #[.pointer (some ⟨b, 0, none⟩)] w (OnePost (factR l a e) B p l w) := by
  obtain ⟨i0, hi, hz0, hz1, hz2⟩ := info_parts info_strsQ
  obtain ⟨i1, hi', hz0', hz1', hz2'⟩ := info_parts info_int
  have hp := h.lt
  have hbl := World.block_lt_of_cell? w _ hbx
  obtain ⟨n, a1, e1, hr1, hn3, -, -⟩ := rInt_in l a e 3 h.2.1
  have hfr : factR l a e = ((let ps := pathsR l n a1 e1; let m := rInt l ps.2.1 ps.2.2 0 2; let vs := valsR l m.1.toNat m.2.1 m.2.2; ((ps.1, vs.1), vs.2)) : FactX × Nat × Int) := by
    unfold factR
    rw [show ((3 : Int)) = ((3 : Nat) : Int) from rfl, hr1]; simp
  obtain ⟨W0, hW0⟩ : ∃ W, W = (w.alloc (.cells #[.slice none 0 0, .slice none 0 0] 127)).alloc (.cells #[.slice none 0 0, .slice none 0 0] 127) := ⟨_, rfl⟩
  have g0 : Below w.heap.size w W0 := by rw [hW0]; exact (bl1 w _).alloc (by simp) _
  have z0 : W0.heap.size = w.heap.size + 1 + 1 := by rw [hW0]; simp
  have f0 : FBox w W0 p w.heap.size (.slice none 0 0) (.slice none 0 0) := by
    refine ⟨by omega, Nat.le_refl _, Upd.of_below g0, ?_, ?_, ?_, ?_⟩ <;> (rw [hW0]; simp [go_sem])
  have f1 : FBox w W0 p (w.heap.size + 1) (.slice none 0 0) (.slice none 0 0) := by
    refine ⟨by omega, by omega, Upd.of_below g0, ?_, ?_, ?_, ?_⟩ <;> (rw [hW0]; simp [go_sem])
  have hrw0 : RW W0 B p l a e := h.keep (g0.mono (by omega))
  have hb0 := cellK g0 hbl hbx
  have HI := hid (readInt_any B p l a e 0 3 W0 hrw0)
  rw [show ((3 : Int)) = ((3 : Nat) : Int) from rfl, hr1] at HI
  have HW0 := hid hW0; have F0 := hid f0; have F1 := hid f1; have HFR := hid hfr; have HM := hid hm
  obtain ⟨T, hT⟩ : ∃ T, T = pathsR l n a1 e1 := ⟨_, rfl⟩
  have HT := hid hT
  rw [hW0] at hb0
  clear hW0 f0 f1 hfr hm hr1 h hrw0 g0 hT
  go_enter Tryz.func87, Tryz.ntmps87
  go_wp2_with fail
  rw [← HW0.out]
  refine HI.out.mono ?_
  rintro en w1 ⟨rfl, hrw1, hu1⟩
  have F01 := hid (F0.out.move hp hu1); have F11 := hid (F1.out.move hp hu1); have RW1 := hid hrw1
  have hb1 : w1.cell? ⟨b, 0, none⟩ = some (.pointer (some ⟨p, 0, none⟩)) := hu1.cellAt (by omega) hbp (by rw [HW0.out]; exact hb0)
  clear hu1 hrw1 hb0
  go_wp2
  go_loopw [7] (fun i wq => OpRel l B p b w n T i wq) (fun i _ => n - (intOf i).toNat)
  case atStart => exact ⟨0, [], _, a1, e1, by omega, rfl, rfl, F01.out, F11.out, RowT.nil_ _ _, RW1.out, by rw [HT.out]; simp, hb1⟩
  case round =>
    clear hb1 F01 F11 RW1 F0 F1
    obtain ⟨j, acc, pv, a2, e2, hj, rfl, hjl, hf0, hf1, hrp, hrw, hTT, hbw⟩ := hrel
    have F0 := hid hf0; have F1 := hid hf1; have HRP := hid hrp; have HRW := hid hrw; have HTT := hid hTT; have HJL := hid hjl
    have hlt0 := hf1.lt
    have hul := hrw.2.1
    clear hf0 hf1 hrp hrw hTT hjl
    by_cases hlt : j < n
    · obtain ⟨t1, a3, e3, ht, ha3, ha3', -, htl⟩ := rText_says l a2 e2 38 hul
      have HTX := hid (readText_any B p l a2 e2 38 wr HRW.out)
      rw [ht] at HTX
      have hps : pathS l a2 e2 = ((pathR ⟨t1.toArray⟩).1, a3, if (pathR ⟨t1.toArray⟩).2 = 0 then e3 else bad e3) := by unfold pathS; rw [ht]
      have hmw := HM.out.upd F1.out.upd hpm
      have HPA := hid (fun W hW => path_any ⟨t1.toArray⟩ W (by show t1.toArray.size < _; rw [List.size_toArray]; omega) hW)
      obtain ⟨⟨q, qe⟩, hqr⟩ : ∃ r, r = pathR ⟨t1.toArray⟩ := ⟨_, rfl⟩
      rw [← hqr] at hps
      simp only [← hqr] at HPA
      simp only at hps
      unfold PathPost at HPA
      simp only at HPA
      have HMW := hid hmw
      have HST := hid (op_step hlt HTT.out)
      clear hqr ht hmw htl
      go_wp2_with fail
      refine HTX.out.mono ?_
      rintro en w2 ⟨rfl, hrw2, hu2⟩
      have F02 := hid (F0.out.move hp hu2); have F12 := hid (F1.out.move hp hu2); have RW2 := hid hrw2
      have RP2 := hid (HRP.out.keepT (fun _ => KeepT.of_upd hu2 (by omega)))
      have hb2 : w2.cell? ⟨b, 0, none⟩ = some (.pointer (some ⟨p, 0, none⟩)) := hu2.cellAt (by omega) hbp hbw
      have HM2 := hid (HMW.out.upd hu2 hpm)
      have zz2 := hu2.size
      clear hu2 hrw2 hbw
      go_wp2_with fail
      refine (HPA.out _ HM2.out).mono ?_
      rintro en w3 ⟨x, rfl, ho3, hb3⟩
      obtain ⟨Ax, cx, rfl⟩ := own_formB ho3
      have F03 := hid (F02.out.move hp (Upd.of_below hb3)); have F13 := hid (F12.out.move hp (Upd.of_below hb3)); have RW3 := hid (RW2.out.keep (hb3.mono (by omega)))
      have RP3 := hid (RP2.out.keepT (fun _ => KeepT.of_below hb3)); have O3 := hid (own_lessQ ho3 (show w.heap.size + 1 + 1 ≤ w2.heap.size by omega))
      have hb3' := cellK hb3 (by omega) hb2
      have zz3 := hb3.size
      clear hb3 ho3 hb2
      by_cases hqe : qe = 0
      case' pos =>
        have t2 : (qe != 0) = false := by simp [hqe]
        rw [if_pos hqe] at hps
        obtain ⟨e4, rfl⟩ : ∃ e4 : Int, e4 = e3 := ⟨_, rfl⟩
        obtain ⟨w4, rfl⟩ : ∃ w4 : World, w4 = w3 := ⟨_, rfl⟩
        have HPS := hid hps; have F04 := F03; have F14 := F13; have RW4 := RW3; have RP4 := RP3; have O4 := O3
        have hb4 := hb3'
        have zz4 := Nat.le_refl w4.heap.size
        clear hqe hps F03 F13 RW3 RP3 O3 hb3'
      case' neg =>
        have t2 : (qe != 0) = true := by simpa using hqe
        rw [if_neg hqe] at hps
        have HBD := hid (readBad_any B p l a3 e3 w3 RW3.out)
        have HPS := hid hps
        clear hqe hps
        go_wp2_with fail
        refine HBD.out.mono ?_
        rintro en w4 ⟨rfl, hrw4, hu4⟩
        obtain ⟨e4, he4⟩ : ∃ e4, e4 = (if e3 = 0 then (2 : Int) else e3) := ⟨_, rfl⟩
        rw [show bad e3 = e4 from he4.symm] at HPS
        rw [← he4] at hrw4
        have F04 := hid (F03.out.move hp hu4); have F14 := hid (F13.out.move hp hu4); have RW4 := hid hrw4
        have RP4 := hid (RP3.out.keepT (fun _ => KeepT.of_upd hu4 (by omega))); have O4 := hid (own_keepT O3.out (KeepT.of_upd hu4 (by omega)))
        have hb4 : w4.cell? ⟨b, 0, none⟩ = some (.pointer (some ⟨p, 0, none⟩)) := hu4.cellAt (by omega) hbp hb3'
        have zz4 := hu4.size
        clear hu4 hrw4 F03 F13 RW3 RP3 O3 hb3' he4
      all_goals
        rw [HPS.out] at HST
        simp only at HST
        obtain ⟨vs, hv1, hv2, hv3⟩ := RP4.out
        rw [← HJL.out] at hv2
        obtain ⟨Ap, cp, rfl⟩ := own_formB hv2
        have V1 := hid hv1; have V3 := hid hv3
        have k0 := F14.out.c0; have k1 := F14.out.z0
        clear hv3
        go_wp2_with (at_builtin; refine stop_here ?_)
        refine go_on ?_
        refine app_own_at (.tmp 20) (.tmp 22) 125 125 rfl rfl (w.heap.size + 1 + 1) 129 i0 (.slice none 0 0) 1 24 Tryz.underlying125 hi hz0 hz1 hz2 rfl (by decide) _ j vs rfl (hv2.alloc _) (.slice (some ⟨w4.heap.size, 0, none⟩) 1 1) 1 [_] rfl (Src.ofSlice _ Tryz.underlying125 _ 1 1 _ rfl (cell_one_at' _ _ _ rfl) (by simp; exact own_one _ O4.out)) (by simp only [maxLen]; omega) (by omega) (by rw [World.size_alloc]; omega) ?_
        intro v' w5 ho' hg' hb5 hat'
        obtain ⟨A', c', rfl⟩ := own_formB ho'
        have hrow' := RowT.app_n HJL.out V1.out (hv2.alloc _) (fun i hi => (V3.out i hi).alloc _) (O4.out.alloc _) ho' hg'
        have b45 : Below (w.heap.size + 1 + 1) w4 w5 := ((Below.refl _ w4).alloc (by omega) _).trans hb5
        have F15 := hid (F14.out.over hp b45); have F05 := hid (F04.out.over hp (b45.mono (by omega)))
        have m0 := F15.out.c0; have m1 := F15.out.z0
        have hnx : OpRel l B p b w n T (.int .i64 ((j : Int) + 1)) (w5.setCell ⟨w.heap.size + 1, 0, none⟩ (.slice A' (j + 1) c')) :=
          ⟨j + 1, _, _, a3, e4, by omega, by go_num, by rw [List.length_append, ← HJL.out]; rfl, F05.out.far hp (by omega) _, F15.out.set0 _, hrow'.keepT (fun _ => keepT_set (by omega)), (RW4.out.keep (b45.mono (by omega))).set (by omega) _, HST.out, cell_far (by omega) (cellK b45 (by omega) hb4)⟩
        have HNX := hid hnx
        clear ho' hg' hb5 hat' hrow' b45 hnx hv2 hb4 k0 k1
        go_wp2
        go_roundw
        case rel => exact HNX.out
        case measure => simp [intOf]; omega
    · obtain rfl : j = n := by omega
      have hTe : T = (acc, a2, e2) := by rw [HTT.out, Nat.sub_self]; simp [pathsR]
      obtain ⟨m, a3, e3, hr2, hm2, -, -⟩ := rInt_in l a2 e2 2 hul
      have HI2 := hid (readInt_any B p l a2 e2 0 2 wr HRW.out)
      rw [show ((2 : Int)) = ((2 : Nat) : Int) from rfl, hr2] at HI2
      obtain ⟨T2, hT2⟩ : ∃ T2, T2 = valsR l m a3 e3 := ⟨_, rfl⟩
      have hfr : factR l a e = ((acc, T2.1), T2.2) := by
        rw [HFR.out, ← HT.out, hTe]
        simp only
        rw [show ((2 : Int)) = ((2 : Nat) : Int) from rfl, hr2]
        simp only [Int.toNat_natCast]
        rw [← hT2]
      have HF2 := hid hfr; have HT2 := hid hT2
      obtain ⟨vs0, -, hv2, -⟩ := HRP.out
      obtain ⟨Ap, cp, rfl⟩ := own_formB hv2
      clear hTe hr2 hfr hT2 hv2 HFR HT HTT HJL hlt hj
      go_wp2_with fail
      refine HI2.out.mono ?_
      rintro en w2 ⟨rfl, hrw2, hu2⟩
      have F02 := hid (F0.out.move hp hu2); have F12 := hid (F1.out.move hp hu2); have RW2 := hid hrw2
      have RP2 := hid (HRP.out.keepT (fun _ => KeepT.of_upd hu2 (by omega)))
      have hb2 : w2.cell? ⟨b, 0, none⟩ = some (.pointer (some ⟨p, 0, none⟩)) := hu2.cellAt (by omega) hbp hbw
      clear hu2 hrw2 hbw F0 F1 HRP HRW
      obtain ⟨pl, hpl⟩ : ∃ pl, pl = acc.length := ⟨_, rfl⟩
      rw [← hpl] at F12 RP2
      clear hpl
      go_wp2
      go_loopw [28] (fun i wq => OvRel l B p b w m acc (.slice Ap pl cp) T2 i wq) (fun i _ => m - (intOf i).toNat)
      case atStart => exact ⟨0, [], _, a3, e3, by omega, rfl, rfl, F02.out, F12.out, RP2.out, World.ownsRow_nil _ _ _ _, RW2.out, by rw [HT2.out]; simp, hb2⟩
      case round =>
        clear hb2 F02 F12 RW2 RP2
        obtain ⟨k, ac2, vv, a4, e4, hk, rfl, hkl, hf0, hf1, hrp, hown, hrw, hTT, hbw⟩ := hrel
        have F0 := hid hf0; have F1 := hid hf1; have HRP := hid hrp; have HRW := hid hrw; have HTT := hid hTT; have HKL := hid hkl; have HOW := hid hown
        have hlt1 := hf1.lt
        have hul2 := hrw.2.1
        have c0 := hf1.c1; have y0 := hf1.z1
        have hown' := hown
        rw [← hkl] at hown'
        obtain ⟨Av, cv, rfl⟩ := own_formB hown'
        clear hf0 hf1 hrp hrw hTT hkl hown
        by_cases hlt : k < m
        · have HCI := hid (fun W (hW : Qu wr W) => readInt_any B p l a4 e4 (-2305843009213693952) 2305843009213693952 W (HRW.out.qu hW))
          have HST := hid (ov_step hlt HTT.out)
          generalize rInt l a4 e4 (-2305843009213693952) 2305843009213693952 = r at *
          obtain ⟨z, a5, e5⟩ := r
          unfold RIntPost at HCI
          simp only at HCI HST
          go_wp2
          go_region_law (first
            | (refine step_append_lies _ (by rfl) (.tmp 31) (.tmp 34) 43 (by rfl) (w.heap.size + 1 + 1) 3 i1 (.int .i64 0) 1 8 Tryz.underlying43 hi' hz0' hz1' hz2' rfl (by omega) _ k (ivals ac2) (by rfl) (O5.out.alloc _) ⟨w5.heap.size, 0, none⟩ 1 1 _ (by rfl) rfl (cell_one_at' _ _ _ rfl) (by simp; rfl) (by omega) (by unfold maxLen; omega) (by omega) (by simp; omega) (w5.heap.size + 1) (by simp) ?_; intro g cap w6 ho6 hg6 hat6 hlt6; have b6 : Below (w.heap.size + 1 + 1) (w5.alloc (.cells #[.int .i64 z] 3)) w6 := (Below.refl _ _).grown hg6 (by simp; omega) (fun j hj => (O5.out.lt j hj).1); have m3 := cellK b6 (show w.heap.size + 1 < w.heap.size + 1 + 1 by omega) (cell_alloc (o := .cells #[.int .i64 z] 3) (by omega) m0); have m5 := frozenK b6 (show w.heap.size + 1 < w.heap.size + 1 + 1 by omega) (frozen_alloc (o := .cells #[.int .i64 z] 3) (by omega) m2))
            | (go_simp; go_at_call 28; refine (HCI.out _ ⟨1, rfl⟩).mono ?_; rintro en w5 ⟨rfl, hrw5, hu5⟩; have U5 := hid (show Upd p wr w5 from (Upd.of_below (Below.refl wr.heap.size wr).drew).trans hu5); have F05 := hid (F0.out.move hp U5.out); have F15 := hid (F1.out.move hp U5.out); have RW5 := hid hrw5; have O5 := hid (own_keepT hown' (KeepT.of_upd U5.out (by omega))); have m0 := F15.out.c1; have m2 := F15.out.z1; have z5 := U5.out.size; have n5 := Nat.lt_of_lt_of_le hlt1 z5; have m4 := cell_alloc (o := .cells #[.int .i64 z] 3) n5 m0; clear hu5 hrw5))
          all_goals
            have b56 : Below (w.heap.size + 1 + 1) w5 w6 := ((Below.refl _ w5).alloc (by omega) _).trans b6
            have ho7 : w6.ownsRow (w.heap.size + 1 + 1) 3 1 (.slice (some ⟨g, 0, none⟩) (k + 1) cap) (ac2 ++ [z]).length (ivals (ac2 ++ [z])) := by
              rw [ivals_snoc, List.length_append, ← HKL.out]; exact ho6
            have RP5 := hid (HRP.out.keepT (fun _ => KeepT.of_upd U5.out (by omega)))
            have hb5 : w5.cell? ⟨b, 0, none⟩ = some (.pointer (some ⟨p, 0, none⟩)) := U5.out.cellAt (by omega) hbp hbw
            have hrp6 : RowT w6 (w.heap.size + 1 + 1) (.slice Ap pl cp) acc := by
              obtain ⟨vs, e1, e2, e3⟩ := RP5.out
              have kt : ∀ e, e ≠ 3 → KeepT e (w.heap.size + 1 + 1) w5 w6 := fun e he => (KeepT.of_below (bl1 w5 _)).trans (KeepT.of_grown hg6 (O5.out.alloc _) he)
              exact ⟨vs, e1, own_keepT e2 (kt _ (by decide)), fun i hi => own_keepT (e3 i hi) (kt _ (by decide))⟩
            have hnx : OvRel l B p b w m acc (.slice Ap pl cp) T2 (.int .i64 ((k : Int) + 1)) (w6.setCell ⟨w.heap.size + 1, 1, none⟩ (.slice (some ⟨g, 0, none⟩) (k + 1) cap)) :=
              ⟨k + 1, _, _, a5, e5, by omega, by go_num, by rw [List.length_append, ← HKL.out]; rfl, (F05.out.over hp (b56.mono (by omega))).far hp (by omega) _, (F15.out.over hp b56).set1 _, hrp6.keepT (fun _ => keepT_set (by omega)), own_keepT ho7 (keepT_set (by omega)), (RW5.out.keep (b56.mono (by omega))).set (by omega) _, HST.out, cell_far (by omega) (cellK b56 (by omega) hb5)⟩
            have HNX := hid hnx
            clear ho6 hg6 hat6 hlt6 b6 b56 ho7 hrp6 hnx hb5 m0 m2 m3 m4 m5 c0 y0 hbw hown'
            go_wp2
            go_roundw
            case rel => exact HNX.out
            case measure => simp [intOf]; omega
        · obtain rfl : k = m := by omega
          have hTe : T2 = (ac2, a4, e4) := by rw [HTT.out, Nat.sub_self]; simp [valsR]
          have hfr : factR l a e = ((acc, ac2), a4, e4) := by rw [HF2.out, hTe]
          have HFR := hid hfr
          have q0 := F0.out.c0; have q1 := F0.out.z0; have q2 := F0.out.c1; have q3 := F0.out.z1
          have r0 := F1.out.c0
          have n0 := F0.out.lt
          clear hTe hfr HTT HF2
          go_wp2
          have s0 : ((wr.setCell ⟨w.heap.size, 0, none⟩ (.slice Ap pl cp)).setCell ⟨w.heap.size, 1, none⟩ (.slice Av k cv)).cell? ⟨w.heap.size, 0, none⟩ = some (.slice Ap pl cp) := cell_beside (by omega) (cell_here q0)
          have s1 : ((wr.setCell ⟨w.heap.size, 0, none⟩ (.slice Ap pl cp)).setCell ⟨w.heap.size, 1, none⟩ (.slice Av k cv)).cell? ⟨w.heap.size, 1, none⟩ = some (.slice Av k cv) := cell_here (cell_beside (by omega) q2)
          have FZ := (F0.out.set0 (.slice Ap pl cp)).set1 (.slice Av k cv)
          have RZ := (HRW.out.set (N := w.heap.size) (i := 0) (by omega) (.slice Ap pl cp)).set (N := w.heap.size) (i := 1) (by omega) (.slice Av k cv)
          have PZ := (HRP.out.keepT (fun _ => keepT_set (b := w.heap.size) (k := 0) (v := .slice Ap pl cp) (by omega))).keepT (fun _ => keepT_set (b := w.heap.size) (k := 1) (v := .slice Av k cv) (by omega))
          have VZ := own_keepT (own_keepT HOW.out (keepT_set (b := w.heap.size) (k := 0) (v := .slice Ap pl cp) (by omega))) (keepT_set (b := w.heap.size) (k := 1) (v := .slice Av k cv) (by omega))
          refine bodyPost_ret (v := .agg #[.slice Ap pl cp, .slice Av k cv]) ?_ rfl ?_
          · simp [results, Tryz.results87, go_sem, s0, s1]
          · rw [HFR.out]
            refine ⟨_, _, rfl, (PZ.less (by omega)).toL, own_lessQ VZ (by omega), RZ, FZ.upd⟩
end Go.Proofs.YtkgifbnkkmeoiaaGreatDoor
/- A fact is appended to facts of one's own (counted apart). -/
namespace Go.Proofs.YtkgifbnkkmeoiaaGreatDoor
open Go.ChangeShapes Go.WideShapes Go.ChangeAt Go.RowKit
set_option linter.unusedVariables false
set_option linter.unusedSimpArgs false

theorem CRow.app_n {wa w4 : World} {base n : Nat} {out v' pv vv : Value} {M : List FactX} {f : FactX} {vs : List (Value × Value)} (hn : n = M.length) (h1 : vs.length = M.length) (h2 : wa.ownsRow base 127 2 out n (fvs vs))
    (h3 : ∀ j (h : j < M.length), RowL wa base (vs[j]'(by omega)).1 M[j].1 ∧ wa.ownsRow base 3 1 (vs[j]'(by omega)).2 M[j].2.length (ivals M[j].2))
    (hm : RowL wa base pv f.1) (hi : wa.ownsRow base 3 1 vv f.2.length (ivals f.2))
    (ho : w4.ownsRow base 127 2 v' (n + 1) (fvs vs ++ fv2 (pv, vv))) (hg : wa.grownBy w4 out.ownBlock) : CRow w4 base v' (M ++ [f]) := by
  subst hn
  exact CRow.app h1 h2 h3 hm hi ho hg
end Go.Proofs.YtkgifbnkkmeoiaaGreatDoor
