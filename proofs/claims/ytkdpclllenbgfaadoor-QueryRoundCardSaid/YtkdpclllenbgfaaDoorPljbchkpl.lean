/- 1 text of this claim, in build order. -/
import Derived.Test.YtkdpclllenbgfaaDoorPggpigmko
import Derived.Test.YtkdpclllenbgfaaDoorPfnfenppo
/- The reference's Read of a query (layer 12). -/
namespace Go.Proofs.YtkdpclllenbgfaaDoor
open Go.ChangeShapes Go.WideShapes Go.ChangeAt Go.RowKit
set_option linter.unusedVariables false
set_option linter.unusedSimpArgs false

set_option maxRecDepth 100000 in
set_option maxHeartbeats 6400000 in
theorem refReadQ_any (B p : Nat) (l : List UInt8) (a : Nat) (e : Int) (w : World) (h : RW w B p l a e) (hll : l.length ≤ 1000000) :
    Calls Tryd.prog 7 #[.pointer (some ⟨p, 0, none⟩)] w (ReadQPost (readQ l a e) B p l w) := by
  obtain ⟨i0, hi, hz0, hz1, hz2⟩ := info_parts info_strsQ
  obtain ⟨i1, hi', hz0', hz1', hz2'⟩ := info_parts info_int
  obtain ⟨i2, hi2, hx0, hx1, hx2⟩ := info_parts info_filter
  have hp := h.lt
  obtain ⟨n, a1, e1, hr1, hn3, -, -⟩ := rInt_in l a e 3 h.2.1
  have hfr : readQ l a e = ((let g := levsR l n a1 e1; let m := rInt l g.2.1 g.2.2 0 3; let fs := filtersR l m.1.toNat m.2.1 m.2.2; (if fs.2.2 = 0 then (g.1, fs.1) else ([], []), fs.2)) : QueryX × Nat × Int) := by
    unfold readQ
    rw [show ((3 : Int)) = ((3 : Nat) : Int) from rfl, hr1]; simp
  obtain ⟨W0, hW0⟩ : ∃ W, W = (w.alloc (.cells #[.slice none 0 0, .slice none 0 0] 32)).alloc (.cells #[.slice none 0 0, .slice none 0 0] 32) := ⟨_, rfl⟩
  have g0 : Below w.heap.size w W0 := by rw [hW0]; exact (bl1 w _).alloc (by simp) _
  have z0 : W0.heap.size = w.heap.size + 1 + 1 := by rw [hW0]; simp
  have f0 : FBox w W0 p w.heap.size (.slice none 0 0) (.slice none 0 0) := by
    refine ⟨by omega, Nat.le_refl _, Upd.of_below g0, ?_, ?_, ?_, ?_⟩ <;> (rw [hW0]; simp [go_sem])
  have f1 : FBox w W0 p (w.heap.size + 1) (.slice none 0 0) (.slice none 0 0) := by
    refine ⟨by omega, by omega, Upd.of_below g0, ?_, ?_, ?_, ?_⟩ <;> (rw [hW0]; simp [go_sem])
  have hrw0 : RW W0 B p l a e := h.keep (g0.mono (by omega))
  have HI := hid (refReadInt_any B p l a e 0 3 W0 hrw0)
  rw [show ((3 : Int)) = ((3 : Nat) : Int) from rfl, hr1] at HI
  have HW0 := hid hW0; have F0 := hid f0; have F1 := hid f1; have HFR := hid hfr
  obtain ⟨T, hT⟩ : ∃ T, T = levsR l n a1 e1 := ⟨_, rfl⟩
  have HT := hid hT
  clear hW0 f0 f1 hfr hr1 h hrw0 g0 hT
  go_enter Tryd.func7, Tryd.ntmps7
  go_wp2_with fail
  rw [← HW0.out]
  refine HI.out.mono ?_
  rintro en w1 ⟨rfl, hrw1, hu1⟩
  have F01 := hid (F0.out.move hp hu1); have F11 := hid (F1.out.move hp hu1); have RW1 := hid hrw1
  clear hu1 hrw1
  go_wp2
  go_loopw [5] (fun i wq => RdGRel l B p w.heap.size (w.heap.size + 1) w n T i wq) (fun i _ => n - (intOf i).toNat)
  case atStart => exact ⟨0, [], _, a1, e1, by omega, rfl, rfl, F01.out, F11.out, World.ownsRow_nil _ _ _ _, RW1.out, by rw [HT.out]; simp⟩
  case round =>
    clear F01 F11 RW1 F0 F1
    obtain ⟨k, ac2, vv, a4, e4, hk, rfl, hkl, hf0, hf1, hown, hrw, hTT⟩ := hrel
    have F0 := hid hf0; have F1 := hid hf1; have HRW := hid hrw; have HTT := hid hTT; have HKL := hid hkl; have HOW := hid hown
    have hlt1 := hf1.lt
    have hul2 := hrw.2.1
    have c0 := hf1.c0; have y0 := hf1.z0
    have hown' := hown
    rw [← hkl] at hown'
    obtain ⟨Av, cv, rfl⟩ := own_formB hown'
    clear hf0 hf1 hrw hTT hkl hown
    by_cases hlt : k < n
    · have HCI := hid (fun W (hW : Qu wr W) => refReadInt_any B p l a4 e4 0 3 W (HRW.out.qu hW))
      have HST := hid (lv_step hlt HTT.out)
      generalize rInt l a4 e4 0 3 = r at *
      obtain ⟨z, a5, e5⟩ := r
      unfold RIntPost at HCI
      simp only at HCI HST
      go_wp2
      go_region_law (first
        | (refine step_append_lies _ (by rfl) (.tmp 21) (.tmp 24) 29 (by rfl) (w.heap.size + 1 + 1) 3 i1 (.int .i64 0) 1 8 Tryd.underlying29 hi' hz0' hz1' hz2' rfl (by omega) _ k (ivals ac2) (by rfl) (O5.out.alloc _) ⟨w5.heap.size, 0, none⟩ 1 1 _ (by rfl) rfl (cell_one_at' _ _ _ rfl) (by simp; rfl) (by omega) (by unfold maxLen; omega) (by omega) (by simp; omega) (w5.heap.size + 1) (by simp) ?_; intro g cap w6 ho6 hg6 hat6 hlt6; have b6 : Below (w.heap.size + 1 + 1) (w5.alloc (.cells #[.int .i64 z] 3)) w6 := (Below.refl _ _).grown hg6 (by simp; omega) (fun j hj => (O5.out.lt j hj).1); have m3 := cellK b6 (show w.heap.size + 1 < w.heap.size + 1 + 1 by omega) (cell_alloc (o := .cells #[.int .i64 z] 3) (by omega) m0); have m5 := frozenK b6 (show w.heap.size + 1 < w.heap.size + 1 + 1 by omega) (frozen_alloc (o := .cells #[.int .i64 z] 3) (by omega) m2))
        | (go_simp; go_at_call 23; refine (HCI.out _ ⟨1, rfl⟩).mono ?_; rintro en w5 ⟨rfl, hrw5, hu5⟩; have U5 := hid (show Upd p wr w5 from (Upd.of_below (Below.refl wr.heap.size wr).drew).trans hu5); have F05 := hid (F0.out.move hp U5.out); have F15 := hid (F1.out.move hp U5.out); have RW5 := hid hrw5; have O5 := hid (own_keepT hown' (KeepT.of_upd U5.out (by omega))); have m0 := F15.out.c0; have m2 := F15.out.z0; have z5 := U5.out.size; have n5 := Nat.lt_of_lt_of_le hlt1 z5; have m4 := cell_alloc (o := .cells #[.int .i64 z] 3) n5 m0; clear hu5 hrw5))
      all_goals
        have b56 : Below (w.heap.size + 1 + 1) w5 w6 := ((Below.refl _ w5).alloc (by omega) _).trans b6
        have ho7 : w6.ownsRow (w.heap.size + 1 + 1) 3 1 (.slice (some ⟨g, 0, none⟩) (k + 1) cap) (ac2 ++ [z]).length (ivals (ac2 ++ [z])) := by
          rw [ivals_snoc, List.length_append, ← HKL.out]; exact ho6
        have hnx : RdGRel l B p w.heap.size (w.heap.size + 1) w n T (.int .i64 ((k : Int) + 1)) (w6.setCell ⟨w.heap.size + 1, 0, none⟩ (.slice (some ⟨g, 0, none⟩) (k + 1) cap)) :=
          ⟨k + 1, _, _, a5, e5, by omega, by go_num, by rw [List.length_append, ← HKL.out]; rfl, (F05.out.over hp (b56.mono (by omega))).far hp (by omega) _, (F15.out.over hp b56).set0 _, own_keepT ho7 (keepT_set (by omega)), (RW5.out.keep (b56.mono (by omega))).set (by omega) _, HST.out⟩
        have HNX := hid hnx
        clear ho6 hg6 hat6 hlt6 b6 b56 ho7 hnx m0 m2 m3 m4 m5 c0 y0 hown'
        go_wp2
        go_roundw
        case rel => exact HNX.out
        case measure => simp [intOf]; omega
    · obtain rfl : k = n := by omega
      have hTe : T = (ac2, a4, e4) := by rw [HTT.out, Nat.sub_self]; simp [levsR]
      obtain ⟨m, a3, e3, hr2, hm2, -, -⟩ := rInt_in l a4 e4 3 hul2
      have HI2 := hid (refReadInt_any B p l a4 e4 0 3 wr HRW.out)
      rw [show ((3 : Int)) = ((3 : Nat) : Int) from rfl, hr2] at HI2
      obtain ⟨T2, hT2⟩ : ∃ T2, T2 = filtersR l m a3 e3 := ⟨_, rfl⟩
      have hfr : readQ l a e = (if T2.2.2 = 0 then (ac2, T2.1) else ([], []), T2.2) := by
        rw [HFR.out, ← HT.out, hTe]
        simp only
        rw [show ((3 : Int)) = ((3 : Nat) : Int) from rfl, hr2]
        simp only [Int.toNat_natCast]
        rw [← hT2]
      have HF2 := hid hfr; have HT2 := hid hT2
      clear hTe hr2 hfr hT2 HFR HT HTT hlt hk hown' c0 y0
      go_wp2_with fail
      refine HI2.out.mono ?_
      rintro en w2 ⟨rfl, hrw2, hu2⟩
      have F02 := hid (F0.out.move hp hu2); have F12 := hid (F1.out.move hp hu2); have RW2 := hid hrw2
      have O2 := hid (own_keepT HOW.out (KeepT.of_upd hu2 (by omega)))
      clear hu2 hrw2 F0 F1 HOW HRW
      obtain ⟨G, hG⟩ : ∃ G, G = ac2 := ⟨_, rfl⟩
      rw [← hG] at O2 HF2 HKL
      clear hG ac2
      obtain ⟨gn, hgn⟩ : ∃ gn : Nat, gn = k := ⟨_, rfl⟩
      rw [← hgn] at F12 O2
      clear hgn
      go_wp2
      go_loopw [6] (fun i wq => RdFRel l B p w.heap.size (w.heap.size + 1) w m G (.slice Av gn cv) T2 i wq) (fun i _ => m - (intOf i).toNat)
      case atStart => exact ⟨0, [], _, a3, e3, by omega, rfl, rfl, F02.out, F12.out, O2.out, FRowT.nil_ _ _, RW2.out, by rw [HT2.out]; simp⟩
      case round =>
        clear F02 F12 RW2 O2
        obtain ⟨j0, acc0, fv0, a2, e2, hj0, rfl, hjl0, hf0, hf1, hown, hrow0, hrw0, hTT0⟩ := hrel
        have F0 := hid hf0; have F1 := hid hf1; have HRW0 := hid hrw0; have HTT0 := hid hTT0; have HJL0 := hid hjl0; have HOW := hid hown; have HRC0 := hid hrow0
        have hlt0 := hf1.lt
        have hul0 := hrw0.2.1
        have hq1 := hf1.c1; have hq2 := hf1.z1
        obtain ⟨vs0, hv10, hv20, hv30⟩ := hrow0
        rw [← hjl0] at hv20
        obtain ⟨Ao, co, rfl⟩ := own_formB hv20
        clear hf0 hf1 hrw0 hTT0 hjl0 hown hv10 hv20 hv30
        by_cases hltm : j0 < m
        · have HST0 := hid (fl_step hltm HTT0.out)
          obtain ⟨d, a3, e3, hd, hd2, -, ha3⟩ := rInt_in l a2 e2 2 hul0
          obtain ⟨lv, a4, e4, hv, hv3, -, ha4⟩ := rInt_in l a3 e3 3 ha3
          obtain ⟨mm, a5, e5, hmm, hmm6, -, ha5⟩ := rInt_in l a4 e4 6 ha4
          have hfl : filterR l a2 e2 = (((d : Int), (lv : Int), (pathsR l mm a5 e5).1), (pathsR l mm a5 e5).2) := by
            unfold filterR
            rw [show ((2 : Int)) = ((2 : Nat) : Int) from rfl, hd]
            simp only
            rw [show ((3 : Int)) = ((3 : Nat) : Int) from rfl, hv]
            simp only
            rw [show ((6 : Int)) = ((6 : Nat) : Int) from rfl, hmm]
            simp only [Int.toNat_natCast]
          have HFL := hid hfl
          have HV3 := hid hv; have HMM := hid hmm
          have hz4 : p < wr.heap.size := HRW0.out.lt
          obtain ⟨W5, hW5⟩ : ∃ W, W = wr.alloc (.cells #[.int .i64 0, .int .i64 0, .slice none 0 0] 57) := ⟨_, rfl⟩
          have g5 : Below wr.heap.size wr W5 := by rw [hW5]; exact bl1 _ _
          have z5 : W5.heap.size = wr.heap.size + 1 := by rw [hW5]; simp
          have hbx : BoxN wr W5 p wr.heap.size [.int .i64 0, .int .i64 0, .slice none 0 0] := by
            refine ⟨by omega, Nat.le_refl _, Upd.of_below g5, fun i v hv => ?_⟩
            have hi := (List.getElem?_eq_some_iff.1 hv).1
            simp only [List.length_cons, List.length_nil] at hi
            rw [hW5]
            rcases i with _ | _ | _ | i
            · simp at hv; subst hv; simp [go_sem]
            · simp at hv; subst hv; simp [go_sem]
            · simp at hv; subst hv; simp [go_sem]
            · omega
          have HD := hid (refReadInt_any B p l a2 e2 0 2 W5 (HRW0.out.keep (g5.mono (by omega))))
          rw [show ((2 : Int)) = ((2 : Nat) : Int) from rfl, hd] at HD
          have HBX := hid hbx; have HW5 := hid hW5
          clear hd hv hmm hfl hW5 hbx g5
          go_wp2_with fail
          rw [← HW5.out]
          refine HD.out.mono ?_
          rintro en w3 ⟨rfl, hrw3, hu3⟩
          have B3 := hid (HBX.out.move hz4 hu3); have RW3 := hid hrw3
          have c0 := (B3.out.c 0 _ rfl).1; have y0 := (B3.out.c 0 _ rfl).2
          have n3 := B3.out.lt
          have HV := hid (refReadInt_any B p l a3 e3 0 3 (w3.setCell ⟨wr.heap.size, 0, none⟩ (.int .i64 d)) (hrw3.set (by omega) _))
          rw [show ((3 : Int)) = ((3 : Nat) : Int) from rfl, HV3.out] at HV
          clear hu3 hrw3
          go_wp2_with fail
          refine HV.out.mono ?_
          rintro en w4 ⟨rfl, hrw4, hu4⟩
          have B4 := hid ((B3.out.set 0 (by simp) (.int .i64 d)).move hz4 hu4)
          have c1 := (B4.out.c 1 _ rfl).1; have y1 := (B4.out.c 1 _ rfl).2
          have n4 := B4.out.lt
          have HM3 := hid (refReadInt_any B p l a4 e4 0 6 (w4.setCell ⟨wr.heap.size, 1, none⟩ (.int .i64 lv)) (hrw4.set (by omega) _))
          rw [show ((6 : Int)) = ((6 : Nat) : Int) from rfl, HMM.out] at HM3
          clear hrw4 hu4 c0 y0
          go_wp2_with fail
          refine HM3.out.mono ?_
          rintro en w6 ⟨rfl, hrw6, hu6⟩
          have BX6 := hid ((B4.out.set 1 (by simp) (.int .i64 lv)).move hz4 hu6); have RW6 := hid hrw6
          clear hu6 hrw6 HM3 c1 y1 B3 B4 RW3
          obtain ⟨T3, hT3⟩ : ∃ T3, T3 = pathsR l mm a5 e5 := ⟨_, rfl⟩
          have HT3 := hid hT3
          have HFL2 := hid (show filterR l a2 e2 = (((d : Int), (lv : Int), T3.1), T3.2) by rw [hT3]; exact HFL.out)
          clear hT3 HFL HD HV HV3 HMM
          obtain ⟨wo, rfl⟩ : ∃ wo : World, wo = wr := ⟨_, rfl⟩
          go_wp2
          go_loopw [9] (fun i wq => RdMRel l B p wo.heap.size wo mm d lv T3 i wq) (fun i _ => mm - (intOf i).toNat)
          case atStart => exact ⟨0, [], _, a5, e5, by omega, rfl, rfl, BX6.out, RowT.nil_ _ _, RW6.out, by rw [HT3.out]; simp⟩
          case round =>
            clear BX6 RW6 HBX HW5
            obtain ⟨j, acc, pv, a6, e6, hj, rfl, hjl, hf1, hrp, hrw, hTT⟩ := hrel
            have FB := hid hf1; have HRP := hid hrp; have HRW := hid hrw; have HTT := hid hTT; have HJL := hid hjl
            have hltn := hf1.lt
            have hul := hrw.2.1
            clear hf1 hrp hrw hTT hjl
            by_cases hlt : j < mm
            · obtain ⟨t1, a7, e7, ht, ha7, ha7', -, htl⟩ := rText_says l a6 e6 38 hul
              have HTX := hid (refReadText_any B p l a6 e6 38 wr HRW.out)
              rw [ht] at HTX
              have hps : pathS l a6 e6 = ((pathR ⟨t1.toArray⟩).1, a7, if (pathR ⟨t1.toArray⟩).2 = 0 then e7 else bad e7) := by unfold pathS; rw [ht]
              have htl38 := rText_len l a6 e6 38
              rw [show ((38 : Nat) : Int) = 38 from rfl, ht] at htl38
              have HPA := hid (fun W => refPath_any ⟨t1.toArray⟩ W (by show t1.toArray.size ≤ _; rw [List.size_toArray]; simp only at htl38; omega))
              obtain ⟨⟨q, qe⟩, hqr⟩ : ∃ r, r = pathR ⟨t1.toArray⟩ := ⟨_, rfl⟩
              rw [← hqr] at hps
              simp only [← hqr] at HPA
              simp only at hps
              unfold PathPost at HPA
              simp only at HPA
              have HST := hid (op_step hlt HTT.out)
              clear hqr ht htl htl38
              go_wp2_with fail
              refine HTX.out.mono ?_
              rintro en w7 ⟨rfl, hrw7, hu7⟩
              have FB7 := hid (FB.out.move hz4 hu7); have RW7 := hid hrw7
              have RP7 := hid (HRP.out.keepT (fun _ => KeepT.of_upd hu7 (by omega)))
              have zz7 := hu7.size
              clear hu7 hrw7
              go_wp2_with fail
              refine (HPA.out _).mono ?_
              rintro en w8 ⟨x, rfl, ho8, hb8⟩
              obtain ⟨Ax, cx, rfl⟩ := own_formB ho8
              have FB8 := hid (FB7.out.move hz4 (Upd.of_below hb8)); have RW8 := hid (RW7.out.keep (hb8.mono (by omega)))
              have RP8 := hid (RP7.out.keepT (fun _ => KeepT.of_below hb8)); have O8 := hid (own_lessQ ho8 (show wo.heap.size + 1 ≤ w7.heap.size by omega))
              have zz8 := hb8.size
              clear hb8 ho8
              by_cases hqe : qe = 0
              case' pos =>
                have t2 : (qe != 0) = false := by simp [hqe]
                rw [if_pos hqe] at hps
                obtain ⟨e9, rfl⟩ : ∃ e9 : Int, e9 = e7 := ⟨_, rfl⟩
                obtain ⟨w9, rfl⟩ : ∃ w9 : World, w9 = w8 := ⟨_, rfl⟩
                have HPS := hid hps; have FB9 := FB8; have RW9 := RW8; have RP9 := RP8; have O9 := O8
                have zz9 := Nat.le_refl w9.heap.size
                clear hqe hps FB8 RW8 RP8 O8
              case' neg =>
                have t2 : (qe != 0) = true := by simpa using hqe
                rw [if_neg hqe] at hps
                have HBD := hid (refReadBad_any B p l a7 e7 w8 RW8.out)
                have HPS := hid hps
                clear hqe hps
                go_wp2_with fail
                refine HBD.out.mono ?_
                rintro en w9 ⟨rfl, hrw9, hu9⟩
                obtain ⟨e9, he9⟩ : ∃ e9, e9 = (if e7 = 0 then (2 : Int) else e7) := ⟨_, rfl⟩
                rw [show bad e7 = e9 from he9.symm] at HPS
                rw [← he9] at hrw9
                have FB9 := hid (FB8.out.move hz4 hu9); have RW9 := hid hrw9
                have RP9 := hid (RP8.out.keepT (fun _ => KeepT.of_upd hu9 (by omega))); have O9 := hid (own_keepT O8.out (KeepT.of_upd hu9 (by omega)))
                have zz9 := hu9.size
                clear hu9 hrw9 FB8 RW8 RP8 O8 he9
              all_goals
                rw [HPS.out] at HST
                simp only at HST
                obtain ⟨vs, hv1, hv2, hv3⟩ := RP9.out
                rw [← HJL.out] at hv2
                obtain ⟨Ap, cp, rfl⟩ := own_formB hv2
                have V1 := hid hv1; have V3 := hid hv3
                have k0 := (FB9.out.c 2 _ rfl).1; have k1 := (FB9.out.c 2 _ rfl).2
                clear hv3
                go_wp2_with (at_builtin; refine stop_here ?_)
                refine go_on ?_
                refine app_own_at (.tmp 59) (.tmp 61) 55 55 rfl rfl (wo.heap.size + 1) 41 i0 (.slice none 0 0) 1 24 Tryd.underlying55 hi hz0 hz1 hz2 rfl (by decide) _ j vs rfl (hv2.alloc _) (.slice (some ⟨w9.heap.size, 0, none⟩) 1 1) 1 [_] rfl (Src.ofSlice _ Tryd.underlying55 _ 1 1 _ rfl (cell_one_at' _ _ _ rfl) (by simp; exact own_one _ O9.out)) (by simp only [maxLen]; omega) (by omega) (by rw [World.size_alloc]; omega) ?_
                intro v' wA ho' hg' hbA hat'
                obtain ⟨A', c', rfl⟩ := own_formB ho'
                have hrow' := RowT.app_n HJL.out V1.out (hv2.alloc _) (fun i hi => (V3.out i hi).alloc _) (O9.out.alloc _) ho' hg'
                have b9A : Below (wo.heap.size + 1) w9 wA := ((Below.refl _ w9).alloc (by omega) _).trans hbA
                have FBA := hid (FB9.out.over hz4 b9A)
                have m0 := (FBA.out.c 2 _ rfl).1; have m1 := (FBA.out.c 2 _ rfl).2
                have hnx : RdMRel l B p wo.heap.size wo mm d lv T3 (.int .i64 ((j : Int) + 1)) (wA.setCell ⟨wo.heap.size, 2, none⟩ (.slice A' (j + 1) c')) :=
                  ⟨j + 1, _, _, a7, e9, by omega, by go_num, by rw [List.length_append, ← HJL.out]; rfl, FBA.out.set 2 (by simp) _, hrow'.keepT (fun _ => keepT_set (by omega)), (RW9.out.keep (b9A.mono (by omega))).set (by omega) _, HST.out⟩
                have HNX := hid hnx
                clear ho' hg' hbA hat' hrow' b9A hnx hv2 k0 k1
                go_wp2
                go_roundw
                case rel => exact HNX.out
                case measure => simp [intOf]; omega
            · obtain rfl : j = mm := by omega
              have hTe : T3 = (acc, a6, e6) := by rw [HTT.out, Nat.sub_self]; simp [pathsR]
              have HST1 := HST0
              rw [HFL2.out, hTe] at HST1
              simp only at HST1
              obtain ⟨vsp, -, hvp, -⟩ := HRP.out
              rw [← HJL.out] at hvp
              obtain ⟨Ap, cp, rfl⟩ := own_formB hvp
              have uo := FB.out.upd
              have F0r := hid (F0.out.move hp uo); have F1r := hid (F1.out.move hp uo)
              have q0 := F1r.out.c1; have q1 := F1r.out.z1
              have d0 := (FB.out.c 0 _ rfl).1; have d1 := (FB.out.c 1 _ rfl).1; have d2 := (FB.out.c 2 _ rfl).1
              have zo := uo.size; have zu := hz4
              have n0 := F0r.out.lt; have n1 := F1r.out.lt
              have OWr := hid (own_keepT HOW.out (KeepT.of_upd uo (by omega)))
              obtain ⟨Wa, hWa⟩ : ∃ W, W = wr.alloc (.cells #[.int .i64 d, .int .i64 lv, .slice Ap j cp] 57) := ⟨_, rfl⟩
              have ba : Below wr.heap.size wr Wa := by rw [hWa]; exact bl1 _ _
              have za : Wa.heap.size = wr.heap.size + 1 := by rw [hWa]; simp
              obtain ⟨mvs, hm1, hm2, hm3⟩ := (HRC0.out.keepT (fun _ => KeepT.of_upd uo (by omega))).keepT (fun _ => KeepT.of_below ba)
              have hm2' := hm2
              rw [← HJL0.out] at hm2'
              have hpva := (HRP.out.keepT (fun _ => KeepT.of_below ba)).less (show w.heap.size + 1 + 1 ≤ wo.heap.size + 1 by omega)
              have HSRC := hid (show Src Tryd.prog 3 30 (.slice (some ⟨wr.heap.size, 0, none⟩) 1 1) 1 (fval ((d : Int), (lv : Int), acc) (.slice Ap j cp)) Wa from by
                rw [hWa]
                exact Src.ofSlice _ Tryd.underlying30 _ 1 1 _ rfl (cell3_new _ _ _ _ _ rfl) (by simp [fval]; exact ⟨rfl, rfl, rfl⟩))
              have HWA := hid hWa; have HM3 := hid hm3; have HPA := hid hpva; have BA := hid ba; have UO := hid uo
              clear hWa ba hm2 hm3 hpva hvp hTe HTT HJL
              go_wp2_with (at_builtin; refine stop_here ?_)
              refine go_on ?_
              rw [← HWA.out]
              refine app_own_at (.tmp 65) (.tmp 67) 30 30 rfl rfl (w.heap.size + 1 + 1) 57 i2 (.agg #[.int .i64 0, .int .i64 0, .slice none 0 0]) 3 40 Tryd.underlying30 hi2 hx0 hx1 hx2 rfl (by decide) _ j0 (fvals acc0 mvs) rfl hm2' (.slice (some ⟨wr.heap.size, 0, none⟩) 1 1) 1 _ rfl HSRC.out (by simp only [maxLen]; omega) (by omega) (by omega) ?_
              intro v' w7 ho' hg' hb7 hat'
              obtain ⟨A', c', rfl⟩ := own_formB ho'
              have hrow' := FRowT.app_n (f := ((d : Int), (lv : Int), acc)) HJL0.out hm1 hm2' HM3.out HPA.out ho' hg'
              have b27 : Below (w.heap.size + 1 + 1) wr w7 := (BA.out.mono (by omega)).trans hb7
              have F07 := hid (F0r.out.over hp (b27.mono (by omega))); have F17 := hid (F1r.out.over hp b27)
              have m0 := F17.out.c1; have m1 := F17.out.z1
              have ko : KeepT 3 (w.heap.size + 1 + 1) wr w7 := (KeepT.of_below BA.out).trans (KeepT.of_grown hg' hm2' (by decide))
              have HNX := hid (show RdFRel l B p w.heap.size (w.heap.size + 1) w m G (.slice Av gn cv) T2 (.int .i64 ((j0 : Int) + 1)) (w7.setCell ⟨w.heap.size + 1, 1, none⟩ (.slice A' (j0 + 1) c')) from
                ⟨j0 + 1, _, _, a6, e6, by omega, by go_num, by rw [List.length_append, ← HJL0.out]; rfl, F07.out.far hp (by omega) _, F17.out.set1 _, own_keepT (own_keepT OWr.out ko) (keepT_set (by omega)), hrow'.keepT (fun _ => keepT_set (by omega)), (HRW.out.keep (b27.mono (by omega))).set (by omega) _, HST1⟩)
              clear ho' hg' hb7 hat' hrow' hm2' b27 q0 q1 d0 d1 d2 ko
              go_wp2
              go_roundw
              case rel => exact HNX.out
              case measure => simp [intOf]; omega
        · obtain rfl : j0 = m := by omega
          have hTe : T2 = (acc0, a2, e2) := by rw [HTT0.out, Nat.sub_self]; simp [filtersR]
          have HRB2 := hid (show readQ l a e = (if e2 = 0 then (G, acc0) else ([], []), a2, e2) by rw [HF2.out, hTe])
          obtain ⟨-, -, -, -, s, k0, k1, k2, -⟩ := HRW0.out
          have F02 := F0; have F12 := F1; have RW2 := HRW0; have OW2 := HOW; have FR2 := HRC0
          obtain ⟨w2, rfl⟩ : ∃ w2 : World, w2 = wr := ⟨_, rfl⟩
          clear hTe
          have q0 := F02.out.c0; have q1 := F02.out.z0; have q2 := F02.out.c1; have q3 := F02.out.z1
          have r0 := F12.out.c0; have r1 := F12.out.c1
          have n0 := F02.out.lt; have n1 := F12.out.lt
          clear hq1 hq2
          by_cases he : e2 = 0
          · have HR3 := hid (show readQ l a e = ((G, acc0), a2, e2) by rw [HRB2.out, if_pos he])
            have t1 : (e2 != 0) = false := by simp [he]
            clear he
            go_wp2
            have s0 : ((w2.setCell ⟨w.heap.size, 0, none⟩ (.slice Av gn cv)).setCell ⟨w.heap.size, 1, none⟩ (.slice Ao j0 co)).cell? ⟨w.heap.size, 0, none⟩ = some (.slice Av gn cv) := cell_beside (by omega) (cell_here q0)
            have s1 : ((w2.setCell ⟨w.heap.size, 0, none⟩ (.slice Av gn cv)).setCell ⟨w.heap.size, 1, none⟩ (.slice Ao j0 co)).cell? ⟨w.heap.size, 1, none⟩ = some (.slice Ao j0 co) := cell_here (cell_beside (by omega) q2)
            have FZ := (F02.out.set0 (.slice Av gn cv)).set1 (.slice Ao j0 co)
            have RZ := (RW2.out.set (N := w.heap.size) (i := 0) (by omega) (.slice Av gn cv)).set (N := w.heap.size) (i := 1) (by omega) (.slice Ao j0 co)
            have PZ := (FR2.out.keepT (fun _ => keepT_set (b := w.heap.size) (k := 0) (v := .slice Av gn cv) (by omega))).keepT (fun _ => keepT_set (b := w.heap.size) (k := 1) (v := .slice Ao j0 co) (by omega))
            have VZ := own_keepT (own_keepT OW2.out (keepT_set (b := w.heap.size) (k := 0) (v := .slice Av gn cv) (by omega))) (keepT_set (b := w.heap.size) (k := 1) (v := .slice Ao j0 co) (by omega))
            refine bodyPost_ret (v := .agg #[.slice Av gn cv, .slice Ao j0 co]) ?_ rfl ?_
            · simp [results, Tryd.results7, go_sem, s0, s1]
            · rw [HR3.out]
              exact ⟨_, _, rfl, own_lessQ VZ (by omega), PZ.less (by omega), RZ, FZ.upd⟩
          · have HR3 := hid (show readQ l a e = (([], []), a2, e2) by rw [HRB2.out, if_neg he])
            have t1 : (e2 != 0) = true := by simpa using he
            clear he
            go_wp2
            have s0 : ((w2.setCell ⟨w.heap.size, 0, none⟩ (.slice none 0 0)).setCell ⟨w.heap.size, 1, none⟩ (.slice none 0 0)).cell? ⟨w.heap.size, 0, none⟩ = some (.slice none 0 0) := cell_beside (by omega) (cell_here q0)
            have s1 : ((w2.setCell ⟨w.heap.size, 0, none⟩ (.slice none 0 0)).setCell ⟨w.heap.size, 1, none⟩ (.slice none 0 0)).cell? ⟨w.heap.size, 1, none⟩ = some (.slice none 0 0) := cell_here (cell_beside (by omega) q2)
            have FZ := (F02.out.set0 (.slice none 0 0)).set1 (.slice none 0 0)
            have RZ := (RW2.out.set (N := w.heap.size) (i := 0) (by omega) (.slice none 0 0)).set (N := w.heap.size) (i := 1) (by omega) (.slice none 0 0)
            refine bodyPost_ret (v := .agg #[.slice none 0 0, .slice none 0 0]) ?_ rfl ?_
            · simp [results, Tryd.results7, go_sem, s0, s1]
            · rw [HR3.out]
              exact ⟨_, _, rfl, World.ownsRow_nil _ _ _ _, FRowT.nil_ _ _, RZ, FZ.upd⟩
end Go.Proofs.YtkdpclllenbgfaaDoor
