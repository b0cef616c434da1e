/- 1 text of this claim, in build order. -/
import Derived.Test.YtkgifbnkkmeoiaaGreatDoorPmdpcplpg
import Derived.Test.YtkgifbnkkmeoiaaGreatDoorPkmhifhkj
/- The reference's Read of facts (layer 9). -/
namespace Go.Proofs.YtkgifbnkkmeoiaaGreatDoor
open Go.ChangeShapes Go.WideShapes Go.ChangeAt Go.RowKit
set_option linter.unusedVariables false
set_option linter.unusedSimpArgs false

/-- The paths' loop. -/
def RpRel (l : List UInt8) (B p : Nat) (w : World) (n : Nat) (T : List (List ByteArray) × Nat × Int) (i : Value) (wq : World) : Prop :=
  ∃ (j : Nat) (acc : List (List ByteArray)) (pv : Value) (a : Nat) (e : Int), j ≤ n ∧ i = .int .i64 j ∧ j = acc.length ∧ FBox w wq p w.heap.size pv (.slice none 0 0) ∧
    RowT wq (w.heap.size + 1) pv acc ∧ RW wq B p l a e ∧ T = (acc ++ (pathsR l (n - j) a e).1, (pathsR l (n - j) a e).2)
/-- The values' loop. -/
def RvRelR (l : List UInt8) (B p : Nat) (w : World) (n : Nat) (ps : List (List ByteArray)) (pv : Value) (T : List Int × Nat × Int) (i : Value) (wq : World) : Prop :=
  ∃ (j : Nat) (acc : List Int) (vv : Value) (a : Nat) (e : Int), j ≤ n ∧ i = .int .i64 j ∧ j = acc.length ∧ FBox w wq p w.heap.size pv vv ∧
    RowT wq (w.heap.size + 1) pv ps ∧ wq.ownsRow (w.heap.size + 1) 3 1 vv acc.length (ivals acc) ∧ RW wq B p l a e ∧ T = (acc ++ (valsR l (n - j) a e).1, (valsR l (n - j) a e).2)
def RfRel (l : List UInt8) (B p : Nat) (w : World) (n : Nat) (T : List FactX × Nat × Int) (out i : Value) (wq : World) : Prop :=
  ∃ (j : Nat) (acc : List FactX) (a : Nat) (e : Int), j ≤ n ∧ i = .int .i64 j ∧ j = acc.length ∧ CRow wq w.heap.size out acc ∧ RW wq B p l a e ∧ T = (acc ++ (factsR l (n - j) a e).1, (factsR l (n - j) a e).2) ∧ Upd p w wq
set_option maxRecDepth 100000 in
set_option maxHeartbeats 6400000 in
theorem refReadBt_any (B p : Nat) (l : List UInt8) (a : Nat) (e : Int) (w : World) (h : RW w B p l a e) (hll : l.length ≤ 1000000) :
    Calls Tryz.prog 81 #[.pointer (some ⟨p, 0, none⟩)] w (ReadBPost (readB l a e) B p l w) := by
  obtain ⟨i0, hi, hz0, hz1, hz2⟩ := info_parts info_strsQ
  obtain ⟨i1, hi', hz0', hz1', hz2'⟩ := info_parts info_int
  obtain ⟨i2, hi2, hx0, hx1, hx2⟩ := info_parts info_fact
  have hp := h.lt
  obtain ⟨n, a1, e1, hr1, hn8, -, -⟩ := rInt_in l a e 8 h.2.1
  obtain ⟨T, hT⟩ : ∃ T, T = factsR l n a1 e1 := ⟨_, rfl⟩
  have hrb : readB l a e = (if T.2.2 = 0 then T.1 else [], T.2) := by
    unfold readB
    rw [show ((8 : Int)) = ((8 : Nat) : Int) from rfl, hr1]
    simp only [Int.toNat_natCast]
    rw [hT]
  have HI := hid (refReadInt_any B p l a e 0 8 w h)
  rw [show ((8 : Int)) = ((8 : Nat) : Int) from rfl, hr1] at HI
  have HRB := hid hrb; have HT := hid hT
  clear hrb hr1 h hT
  go_enter Tryz.func81, Tryz.ntmps81
  go_wp2_with fail
  refine HI.out.mono ?_
  rintro en w1 ⟨rfl, hrw1, hu1⟩
  have RW1 := hid hrw1; have U1 := hid hu1
  clear hu1 hrw1
  go_wp2
  go_loopw [3, 5] (fun out i wq => RfRel l B p w n T out i wq) (fun _ i _ => n - (intOf i).toNat)
  case atStart => exact ⟨0, [], a1, e1, by omega, rfl, rfl, CRow.nil_ _ _, RW1.out, by rw [HT.out]; simp, U1.out⟩
  case round =>
    clear RW1 U1
    obtain ⟨j0, acc0, a2, e2, hj0, rfl, hjl0, hrow0, hrw0, hTT0, hu0⟩ := hrel
    have HRW0 := hid hrw0; have HTT0 := hid hTT0; have HJL0 := hid hjl0; have HRC0 := hid hrow0; have HU0 := hid hu0
    have zs0 := hu0.size
    obtain ⟨vs0, hv10, hv20, hv30⟩ := hrow0
    rw [← hjl0] at hv20
    obtain ⟨Ao, co, rfl⟩ := own_formB hv20
    have hul0 := hrw0.2.1
    clear hrw0 hTT0 hjl0 hu0 hv10 hv20 hv30
    by_cases hlt0 : j0 < n
    · have HST0 := hid (rd_step hlt0 HTT0.out)
      have hpo : p < wr.heap.size := by omega
      obtain ⟨wo, rfl⟩ : ∃ wo : World, wo = wr := ⟨_, rfl⟩
      obtain ⟨n1, a1, e1, hr1, hn3, -, -⟩ := rInt_in l a2 e2 3 hul0
      have hfr : factR l a2 e2 = ((let ps := pathsR l n1 a1 e1; let m := rInt l ps.2.1 ps.2.2 0 2; let vs := valsR l m.1.toNat m.2.1 m.2.2; ((ps.1, vs.1), vs.2)) : FactX × Nat × Int) := by
        unfold factR
        rw [show ((3 : Int)) = ((3 : Nat) : Int) from rfl, hr1]; simp
      obtain ⟨W0, hW0⟩ : ∃ W, W = wo.alloc (.cells #[.slice none 0 0, .slice none 0 0] 127) := ⟨_, rfl⟩
      have g0 : Below wo.heap.size wo W0 := by rw [hW0]; exact bl1 _ _
      have z0 : W0.heap.size = wo.heap.size + 1 := by rw [hW0]; simp
      have f1 : FBox wo W0 p wo.heap.size (.slice none 0 0) (.slice none 0 0) := by
        refine ⟨by omega, by omega, Upd.of_below g0, ?_, ?_, ?_, ?_⟩ <;> (rw [hW0]; simp [go_sem])
      have hrwW : RW W0 B p l a2 e2 := HRW0.out.keep (g0.mono (by omega))
      have HI3 := hid (refReadInt_any B p l a2 e2 0 3 W0 hrwW)
      rw [show ((3 : Int)) = ((3 : Nat) : Int) from rfl, hr1] at HI3
      have HW0 := hid hW0; have F1 := hid f1; have HFR := hid hfr
      obtain ⟨T1, hT1⟩ : ∃ T1, T1 = pathsR l n1 a1 e1 := ⟨_, rfl⟩
      have HT1 := hid hT1
      clear hW0 f1 hfr hr1 hrwW g0 hT1
      go_wp2_with fail
      rw [← HW0.out]
      refine HI3.out.mono ?_
      rintro en w1 ⟨rfl, hrw1, hu1⟩
      have F11 := hid (F1.out.move hpo hu1); have RW1 := hid hrw1
      clear hu1 hrw1
      go_wp2
      go_loopw [8] (fun i wq => RpRel l B p wo n1 T1 i wq) (fun i _ => n1 - (intOf i).toNat)
      case atStart => exact ⟨0, [], _, a1, e1, by omega, rfl, rfl, F11.out, RowT.nil_ _ _, RW1.out, by rw [HT1.out]; simp⟩
      case round =>
        clear F11 RW1 F1
        obtain ⟨j, acc, pv, a2', e2', hj, rfl, hjl, hf1, hrp, hrw, hTT⟩ := hrel
        have F1 := hid hf1; have HRP := hid hrp; have HRW := hid hrw; have HTT := hid hTT; have HJL := hid hjl
        have hltn := hf1.lt
        have hul := hrw.2.1
        clear hf1 hrp hrw hTT hjl
        by_cases hlt : j < n1
        · obtain ⟨t1, a3, e3, ht, ha3, ha3', -, htl⟩ := rText_says l a2' e2' 38 hul
          have HTX := hid (refReadText_any B p l a2' e2' 38 wr HRW.out)
          rw [ht] at HTX
          have hps : pathS l a2' e2' = ((pathR ⟨t1.toArray⟩).1, a3, if (pathR ⟨t1.toArray⟩).2 = 0 then e3 else bad e3) := by unfold pathS; rw [ht]
          have htl38 := rText_len l a2' e2' 38
          rw [show ((38 : Nat) : Int) = 38 from rfl, ht] at htl38
          have HPA := hid (fun W => refPath_any ⟨t1.toArray⟩ W (by show t1.toArray.size ≤ _; rw [List.size_toArray]; simp only at htl38; omega))
          obtain ⟨⟨q, qe⟩, hqr⟩ : ∃ r, r = pathR ⟨t1.toArray⟩ := ⟨_, rfl⟩
          rw [← hqr] at hps
          simp only [← hqr] at HPA
          simp only at hps
          unfold PathPost at HPA
          simp only at HPA
          have HST := hid (op_step hlt HTT.out)
          clear hqr ht htl htl38
          go_wp2_with fail
          refine HTX.out.mono ?_
          rintro en w2 ⟨rfl, hrw2, hu2⟩
          have F12 := hid (F1.out.move hpo hu2); have RW2 := hid hrw2
          have RP2 := hid (HRP.out.keepT (fun _ => KeepT.of_upd hu2 (by omega)))
          have zz2 := hu2.size
          clear hu2 hrw2
          go_wp2_with fail
          refine (HPA.out _).mono ?_
          rintro en w3 ⟨x, rfl, ho3, hb3⟩
          obtain ⟨Ax, cx, rfl⟩ := own_formB ho3
          have F13 := hid (F12.out.move hpo (Upd.of_below hb3)); have RW3 := hid (RW2.out.keep (hb3.mono (by omega)))
          have RP3 := hid (RP2.out.keepT (fun _ => KeepT.of_below hb3)); have O3 := hid (own_lessQ ho3 (show wo.heap.size + 1 ≤ w2.heap.size by omega))
          have zz3 := hb3.size
          clear hb3 ho3
          by_cases hqe : qe = 0
          case' pos =>
            have t2 : (qe != 0) = false := by simp [hqe]
            rw [if_pos hqe] at hps
            obtain ⟨e4, rfl⟩ : ∃ e4 : Int, e4 = e3 := ⟨_, rfl⟩
            obtain ⟨w4, rfl⟩ : ∃ w4 : World, w4 = w3 := ⟨_, rfl⟩
            have HPS := hid hps; have F14 := F13; have RW4 := RW3; have RP4 := RP3; have O4 := O3
            have zz4 := Nat.le_refl w4.heap.size
            clear hqe hps F13 RW3 RP3 O3
          case' neg =>
            have t2 : (qe != 0) = true := by simpa using hqe
            rw [if_neg hqe] at hps
            have HBD := hid (refReadBad_any B p l a3 e3 w3 RW3.out)
            have HPS := hid hps
            clear hqe hps
            go_wp2_with fail
            refine HBD.out.mono ?_
            rintro en w4 ⟨rfl, hrw4, hu4⟩
            obtain ⟨e4, he4⟩ : ∃ e4, e4 = (if e3 = 0 then (2 : Int) else e3) := ⟨_, rfl⟩
            rw [show bad e3 = e4 from he4.symm] at HPS
            rw [← he4] at hrw4
            have F14 := hid (F13.out.move hpo hu4); have RW4 := hid hrw4
            have RP4 := hid (RP3.out.keepT (fun _ => KeepT.of_upd hu4 (by omega))); have O4 := hid (own_keepT O3.out (KeepT.of_upd hu4 (by omega)))
            have zz4 := hu4.size
            clear hu4 hrw4 F13 RW3 RP3 O3 he4
          all_goals
            rw [HPS.out] at HST
            simp only at HST
            obtain ⟨vs, hv1, hv2, hv3⟩ := RP4.out
            rw [← HJL.out] at hv2
            obtain ⟨Ap, cp, rfl⟩ := own_formB hv2
            have V1 := hid hv1; have V3 := hid hv3
            have k0 := F14.out.c0; have k1 := F14.out.z0
            clear hv3
            go_wp2_with (at_builtin; refine stop_here ?_)
            refine go_on ?_
            refine app_own_at (.tmp 40) (.tmp 42) 125 125 rfl rfl (wo.heap.size + 1) 129 i0 (.slice none 0 0) 1 24 Tryz.underlying125 hi hz0 hz1 hz2 rfl (by decide) _ j vs rfl (hv2.alloc _) (.slice (some ⟨w4.heap.size, 0, none⟩) 1 1) 1 [_] rfl (Src.ofSlice _ Tryz.underlying125 _ 1 1 _ rfl (cell_one_at' _ _ _ rfl) (by simp; exact own_one _ O4.out)) (by simp only [maxLen]; omega) (by omega) (by rw [World.size_alloc]; omega) ?_
            intro v' w5 ho' hg' hb5 hat'
            obtain ⟨A', c', rfl⟩ := own_formB ho'
            have hrow' := RowT.app_n HJL.out V1.out (hv2.alloc _) (fun i hi => (V3.out i hi).alloc _) (O4.out.alloc _) ho' hg'
            have b45 : Below (wo.heap.size + 1) w4 w5 := ((Below.refl _ w4).alloc (by omega) _).trans hb5
            have F15 := hid (F14.out.over hpo b45)
            have m0 := F15.out.c0; have m1 := F15.out.z0
            have hnx : RpRel l B p wo n1 T1 (.int .i64 ((j : Int) + 1)) (w5.setCell ⟨wo.heap.size, 0, none⟩ (.slice A' (j + 1) c')) :=
              ⟨j + 1, _, _, a3, e4, by omega, by go_num, by rw [List.length_append, ← HJL.out]; rfl, F15.out.set0 _, hrow'.keepT (fun _ => keepT_set (by omega)), (RW4.out.keep (b45.mono (by omega))).set (by omega) _, HST.out⟩
            have HNX := hid hnx
            clear ho' hg' hb5 hat' hrow' b45 hnx hv2 k0 k1
            go_wp2
            go_roundw
            case rel => exact HNX.out
            case measure => simp [intOf]; omega
        · obtain rfl : j = n1 := by omega
          have hTe : T1 = (acc, a2', e2') := by rw [HTT.out, Nat.sub_self]; simp [pathsR]
          obtain ⟨m, a3, e3, hr2, hm2, -, -⟩ := rInt_in l a2' e2' 2 hul
          have HI2 := hid (refReadInt_any B p l a2' e2' 0 2 wr HRW.out)
          rw [show ((2 : Int)) = ((2 : Nat) : Int) from rfl, hr2] at HI2
          obtain ⟨T2, hT2⟩ : ∃ T2, T2 = valsR l m a3 e3 := ⟨_, rfl⟩
          have hfr : factR l a2 e2 = ((acc, T2.1), T2.2) := by
            rw [HFR.out, ← HT1.out, hTe]
            simp only
            rw [show ((2 : Int)) = ((2 : Nat) : Int) from rfl, hr2]
            simp only [Int.toNat_natCast]
            rw [← hT2]
          have HF2 := hid hfr; have HT2 := hid hT2
          obtain ⟨vsp, -, hv2, -⟩ := HRP.out
          obtain ⟨Ap, cp, rfl⟩ := own_formB hv2
          clear hTe hr2 hfr hT2 hv2 HFR HT1 HTT HJL hlt hj
          go_wp2_with fail
          refine HI2.out.mono ?_
          rintro en w2 ⟨rfl, hrw2, hu2⟩
          have F12 := hid (F1.out.move hpo hu2); have RW2 := hid hrw2
          have RP2 := hid (HRP.out.keepT (fun _ => KeepT.of_upd hu2 (by omega)))
          clear hu2 hrw2 F1 HRP HRW
          obtain ⟨pl, hpl⟩ : ∃ pl, pl = acc.length := ⟨_, rfl⟩
          have HPL := hid hpl
          rw [← hpl] at F12 RP2
          clear hpl
          go_wp2
          go_loopw [13] (fun i wq => RvRelR l B p wo m acc (.slice Ap pl cp) T2 i wq) (fun i _ => m - (intOf i).toNat)
          case atStart => exact ⟨0, [], _, a3, e3, by omega, rfl, rfl, F12.out, RP2.out, World.ownsRow_nil _ _ _ _, RW2.out, by rw [HT2.out]; simp⟩
          case round =>
            clear F12 RW2 RP2
            obtain ⟨k, ac2, vv, a4, e4, hk, rfl, hkl, hf1, hrp, hown, hrw, hTT⟩ := hrel
            have F1 := hid hf1; have HRP := hid hrp; have HRW := hid hrw; have HTT := hid hTT; have HKL := hid hkl; have HOW := hid hown
            have hlt1 := hf1.lt
            have hul2 := hrw.2.1
            have c0 := hf1.c1; have y0 := hf1.z1
            have hown' := hown
            rw [← hkl] at hown'
            obtain ⟨Av, cv, rfl⟩ := own_formB hown'
            clear hf1 hrp hrw hTT hkl hown
            by_cases hlt : k < m
            · have HCI := hid (fun W (hW : Qu wr W) => refReadInt_any B p l a4 e4 (-2305843009213693952) 2305843009213693952 W (HRW.out.qu hW))
              have HST := hid (ov_step hlt HTT.out)
              generalize rInt l a4 e4 (-2305843009213693952) 2305843009213693952 = r at *
              obtain ⟨z, a5, e5⟩ := r
              unfold RIntPost at HCI
              simp only at HCI HST
              go_wp2
              go_region_law (first
                | (refine step_append_lies _ (by rfl) (.tmp 53) (.tmp 56) 43 (by rfl) (wo.heap.size + 1) 3 i1 (.int .i64 0) 1 8 Tryz.underlying43 hi' hz0' hz1' hz2' rfl (by omega) _ k (ivals ac2) (by rfl) (O5.out.alloc _) ⟨w5.heap.size, 0, none⟩ 1 1 _ (by rfl) rfl (cell_one_at' _ _ _ rfl) (by simp; rfl) (by omega) (by unfold maxLen; omega) (by omega) (by simp; omega) (w5.heap.size + 1) (by simp) ?_; intro g cap w6 ho6 hg6 hat6 hlt6; have b6 : Below (wo.heap.size + 1) (w5.alloc (.cells #[.int .i64 z] 3)) w6 := (Below.refl _ _).grown hg6 (by simp; omega) (fun j hj => (O5.out.lt j hj).1); have m3 := cellK b6 (show wo.heap.size < wo.heap.size + 1 by omega) (cell_alloc (o := .cells #[.int .i64 z] 3) (by omega) m0); have m5 := frozenK b6 (show wo.heap.size < wo.heap.size + 1 by omega) (frozen_alloc (o := .cells #[.int .i64 z] 3) (by omega) m2))
                | (go_simp; go_at_call 41; refine (HCI.out _ ⟨1, rfl⟩).mono ?_; rintro en w5 ⟨rfl, hrw5, hu5⟩; have U5 := hid (show Upd p wr w5 from (Upd.of_below (Below.refl wr.heap.size wr).drew).trans hu5); have F15 := hid (F1.out.move hpo U5.out); have RW5 := hid hrw5; have O5 := hid (own_keepT hown' (KeepT.of_upd U5.out (by omega))); have m0 := F15.out.c1; have m2 := F15.out.z1; have z5 := U5.out.size; have n5 := Nat.lt_of_lt_of_le hlt1 z5; have m4 := cell_alloc (o := .cells #[.int .i64 z] 3) n5 m0; clear hu5 hrw5))
              all_goals
                have b56 : Below (wo.heap.size + 1) w5 w6 := ((Below.refl _ w5).alloc (by omega) _).trans b6
                have ho7 : w6.ownsRow (wo.heap.size + 1) 3 1 (.slice (some ⟨g, 0, none⟩) (k + 1) cap) (ac2 ++ [z]).length (ivals (ac2 ++ [z])) := by
                  rw [ivals_snoc, List.length_append, ← HKL.out]; exact ho6
                have RP5 := hid (HRP.out.keepT (fun _ => KeepT.of_upd U5.out (by omega)))
                have hrp6 : RowT w6 (wo.heap.size + 1) (.slice Ap pl cp) acc := by
                  obtain ⟨vs, e1, e2, e3⟩ := RP5.out
                  have kt : ∀ e, e ≠ 3 → KeepT e (wo.heap.size + 1) w5 w6 := fun e he => (KeepT.of_below (bl1 w5 _)).trans (KeepT.of_grown hg6 (O5.out.alloc _) he)
                  exact ⟨vs, e1, own_keepT e2 (kt _ (by decide)), fun i hi => own_keepT (e3 i hi) (kt _ (by decide))⟩
                have hnx : RvRelR l B p wo m acc (.slice Ap pl cp) T2 (.int .i64 ((k : Int) + 1)) (w6.setCell ⟨wo.heap.size, 1, none⟩ (.slice (some ⟨g, 0, none⟩) (k + 1) cap)) :=
                  ⟨k + 1, _, _, a5, e5, by omega, by go_num, by rw [List.length_append, ← HKL.out]; rfl, (F15.out.over hpo b56).set1 _, hrp6.keepT (fun _ => keepT_set (by omega)), own_keepT ho7 (keepT_set (by omega)), (RW5.out.keep (b56.mono (by omega))).set (by omega) _, HST.out⟩
                have HNX := hid hnx
                clear ho6 hg6 hat6 hlt6 b6 b56 ho7 hrp6 hnx m0 m2 m3 m4 m5 c0 y0 hown'
                go_wp2
                go_roundw
                case rel => exact HNX.out
                case measure => simp [intOf]; omega
            · obtain rfl : k = m := by omega
              have hTe : T2 = (ac2, a4, e4) := by rw [HTT.out, Nat.sub_self]; simp [valsR]
              have hfr : factR l a2 e2 = ((acc, ac2), a4, e4) := by rw [HF2.out, hTe]
              have HST1 := HST0
              rw [hfr] at HST1
              simp only at HST1
              have r0 := F1.out.c0
              have n0 := F1.out.lt
              obtain ⟨Wa, hWa⟩ : ∃ W, W = wr.alloc (.cells #[.slice Ap pl cp, .slice Av k cv] 127) := ⟨_, rfl⟩
              have ba : Below wr.heap.size wr Wa := by rw [hWa]; exact bl1 _ _
              have za : Wa.heap.size = wr.heap.size + 1 := by rw [hWa]; simp
              have uo := F1.out.upd
              have RC2 := hid (HRC0.out.keepT (fun _ => KeepT.of_upd uo (by omega)))
              obtain ⟨mvs, hm1, hm2, hm3⟩ := RC2.out.on ba
              have hm2' := hm2
              rw [← HJL0.out] at hm2'
              have hpva := ((HRP.out.keepT (fun _ => KeepT.of_below ba)).less (show w.heap.size ≤ wo.heap.size + 1 by omega)).toL
              have hvva := own_lessQ (own_stays HOW.out ba) (show w.heap.size ≤ wo.heap.size + 1 by omega)
              have HSRC := hid (show Src Tryz.prog 2 45 (.slice (some ⟨wr.heap.size, 0, none⟩) 1 1) 1 (fv2 (.slice Ap pl cp, .slice Av k cv)) Wa from by
                rw [hWa]
                exact Src.ofSlice _ Tryz.underlying45 _ 1 1 _ rfl (cell2_new _ _ _ _ rfl) (by simp [fv2]; exact ⟨rfl, rfl⟩))
              have HWA := hid hWa; have HM3 := hid hm3; have HPA := hid hpva; have HVA := hid hvva; have BA := hid ba; have UO := hid uo
              clear hWa ba hm2 hm3 hpva hvva hTe hfr HTT HF2 uo y0 hown'
              go_wp2_with (at_builtin; refine stop_here ?_)
              refine go_on ?_
              rw [← HWA.out]
              refine app_own_at (.tmp 59) (.tmp 61) 45 45 rfl rfl w.heap.size 127 i2 (.agg #[.slice none 0 0, .slice none 0 0]) 2 48 Tryz.underlying45 hi2 hx0 hx1 hx2 rfl (by decide) _ j0 (fvs mvs) rfl hm2' (.slice (some ⟨wr.heap.size, 0, none⟩) 1 1) 1 _ rfl HSRC.out (by simp only [maxLen]; omega) (by omega) (by omega) ?_
              intro v' w7 ho' hg' hb7 hat'
              have hrow' := CRow.app_n (f := (acc, ac2)) HJL0.out hm1 hm2' HM3.out HPA.out (by simp only; exact HVA.out) ho' hg'
              have b27 : Below w.heap.size wr w7 := (BA.out.mono (by omega)).trans hb7
              have HNX := hid (show RfRel l B p w n T v' (.int .i64 ((j0 : Int) + 1)) w7 from
                ⟨j0 + 1, _, a4, e4, by omega, by go_num, by rw [List.length_append, ← HJL0.out]; rfl, hrow', HRW.out.keep (b27.mono (by omega)), HST1.out, (HU0.out.trans UO.out).over b27 (Nat.le_refl _)⟩)
              clear ho' hg' hb7 hat' hrow' hm2' b27
              go_wp2
              go_roundw
              case rel => exact HNX.out
              case measure => simp [intOf]; omega
    · obtain rfl : j0 = n := by omega
      have hTe : T = (acc0, a2, e2) := by rw [HTT0.out, Nat.sub_self]; simp [factsR]
      have HRB2 := hid (show readB l a e = (if e2 = 0 then acc0 else [], a2, e2) by rw [HRB.out, hTe])
      have RC2 := HRC0
      obtain ⟨-, -, -, -, s, k0, k1, k2, -⟩ := HRW0.out
      clear hTe
      by_cases he : e2 = 0
      · have HR3 := hid (show readB l a e = (acc0, a2, e2) by rw [HRB2.out, if_pos he])
        have t1 : (e2 != 0) = false := by simp [he]
        clear he
        go_wp2
        go_ret
        rw [HR3.out]
        exact ⟨_, rfl, RC2.out, HRW0.out, HU0.out⟩
      · have HR3 := hid (show readB l a e = ([], a2, e2) by rw [HRB2.out, if_neg he])
        have t1 : (e2 != 0) = true := by simpa using he
        clear he
        go_wp2
        go_ret
        rw [HR3.out]
        exact ⟨_, rfl, CRow.nil_ _ _, HRW0.out, HU0.out⟩
end Go.Proofs.YtkgifbnkkmeoiaaGreatDoor
