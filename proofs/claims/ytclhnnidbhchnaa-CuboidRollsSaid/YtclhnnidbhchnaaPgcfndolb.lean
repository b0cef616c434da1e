/- 1 text of this claim, in build order. -/
import Derived.Test.YtclhnnidbhchnaaPanhggoia
/- The reference's Sum. -/
namespace Go.Proofs.Ytclhnnidbhchnaa
open Go.ChangeShapes Go.WideShapes Go.ChangeAt Go.RowKit
set_option linter.unusedVariables false
set_option linter.unusedSimpArgs false

set_option maxRecDepth 100000 in
set_option maxHeartbeats 40000000 in
theorem refSum_any (v : Value) (l : List CellM) (w : World) (hv : RowC w w.heap.size v l) (hn : l.length ≤ 65536) :
    Calls Try.prog 12 #[v] w (MOwnPost (sumC l) w) := by
  obtain ⟨i0, hi, hz0, hz1, hz2⟩ := info_parts info_int
  have HROW := hid hv
  obtain ⟨A, c, es, rfl, hel, hc, hcm, -, -⟩ := hv
  unfold maxLen at hcm
  have HRW := hid (fun W (hb : Below w.heap.size w W) k (hk : k < l.length) => (HROW.out.below hb).part hk)
  clear hel
  go_enter Try.func12, Try.ntmps12
  obtain ⟨W0, hW0⟩ : ∃ W, W = w.alloc (.cells #[.int .i64 0, .slice none 0 0, .slice none 0 0, .slice none 0 0] 25) := ⟨_, rfl⟩
  have hb0 : Below w.heap.size w W0 := by rw [hW0]; exact bl1 _ _
  have hs0 : W0.heap.size = w.heap.size + 1 := by rw [hW0]; simp
  have br : Blk W0 w.heap.size (.int .i64 0) (.slice none 0 0) (.slice none 0 0) (.slice none 0 0) := by rw [hW0]; exact Blk.new _ _ _ _ _ _
  have HB0 := hid hb0; have BR := hid br; have HS0 := hid hs0; have HW0 := hid hW0
  clear hb0 br hs0 hW0
  by_cases hne : l = []
  · have HRR := hid (show sumC l = (nilC, 1) by rw [hne]; exact sumC_nil)
    have u0 : ((l.length : Int) == 0) = true := by simp [hne]
    clear hne
    obtain ⟨r0, r1, r2, r3, f0, f1, f2, f3⟩ := BR.out
    have hbel := fun v0 v1 v2 v3 => fin4 (b := w.heap.size) HB0.out (by omega) (by have := HS0.out; omega) v0 v1 v2 v3
    rw [HW0.out] at hbel r0 r1 r2 r3 f0 f1 f2 f3
    have HBL := hid hbel; clear hbel
    go_wp2
    exact bodyPost_ret (v := .tuple #[.agg #[.int .i64 0, .slice none 0 0, .slice none 0 0, .slice none 0 0], .int .i64 1]) (by simp [results, Try.results12, go_sem]; done) rfl (opost HRR.out rfl (OwnC.nil_ _ _) (bl1 _ _))
  · have HNE := hid hne
    have hpos := List.length_pos_iff.2 hne
    have u0 : ((l.length : Int) == 0) = false := by simp; omega
    clear hne
    go_wp2
    rw [← HW0.out]
    go_loopw [4] (fun i wr => SumRel1 (l.headD nilC).s.length l W0 i wr) (fun i _ => l.length - (intOf i).toNat)
    case atStart => exact ⟨0, by omega, rfl, fun j hj => by omega, Below.refl _ _⟩
    case round =>
      obtain ⟨k, hk, rfl, hall, hw⟩ := hrel
      have HA := hid hall; have HW := hid hw
      have hsw := hw.size
      have hsz0 := HS0.out
      have HWW := hid (HB0.out.trans (hw.mono (by omega)))
      have BRr := hid (BR.out.below hw (by omega))
      clear hall hw
      by_cases hlt : k < l.length
      · obtain ⟨b, off, A1, c1, A2, c2, A3, c3, rfl, hb, hat, ha1, ha2, ha3⟩ := HRW.out wr HWW.out k hlt
        have hcr : CellR wr w.heap.size (.agg #[.int .i64 (l.getD k nilC).n, .slice A1 (l.getD k nilC).s.length c1, .slice A2 (l.getD k nilC).lo.length c2, .slice A3 (l.getD k nilC).hi.length c3]) (l.getD k nilC) := ⟨_, _, _, rfl, ha1, ha2, ha3⟩
        clear ha1 ha2 ha3
        obtain ⟨b', off', U1, d1, U2, d2, U3, d3, e, -, hat0, -⟩ := HRW.out wr HWW.out 0 (by omega)
        injection e with e; injection e with e1 e2 _; subst e1 e2
        have hh : l.getD 0 nilC = l.headD nilC := by cases l <;> rfl
        rw [hh] at hat0
        have hbad := fun h => sumC_bad (l := l) hlt h
        have HSU := hid (fun h => all_succ (p := fun j => argB (l.headD nilC).s.length (l.getD j nilC) = true) HA.out h)
        clear hh
        generalize (l.headD nilC).s.length = m at *
        generalize l.getD k nilC = x at *
        have HMY := hid (refMay_any _ x wr (hcr.more (by omega)))
        have HBAD := hid hbad
        obtain ⟨rm, hrm⟩ : ∃ r, r = mayC x := ⟨_, rfl⟩
        rw [← hrm] at HMY
        have HRM := hid hrm
        clear hrm hbad hcr
        have Hat := hid hat; have Hat0 := hid hat0
        obtain ⟨g0, g1, g2, g3⟩ := hat
        simp only at g0 g1 g2 g3
        go_wp2_with fail
        refine HMY.out.mono ?_
        rintro e w1 ⟨rfl, hb1⟩
        have hs1 := hb1.size
        have HW1 := hid (HWW.out.trans (hb1.mono (by omega)))
        have BR1 := hid (BRr.out.below hb1 (by omega))
        have HB1 := hid (HW.out.trans (hb1.mono (by omega)))
        clear hat0 g0 g1 g2 g3
        obtain ⟨-, g1, -, -⟩ := Hat.out.of_block (hb1.block b (by omega))
        obtain ⟨-, q1, -, -⟩ := Hat0.out.of_block (hb1.block b (by omega))
        simp only at g1 q1
        rw [Nat.zero_mul, Nat.add_zero] at q1
        obtain ⟨r0, r1, r2, r3, f0, f1, f2, f3⟩ := BR1.out
        have HBL := hid (fun nq v0 v1 v2 v3 => fin4 (b := w.heap.size) (below_drewN HW1.out nq) (Nat.le_refl _) (show w.heap.size < (w1.drewN nq).heap.size by show w.heap.size < w1.heap.size; omega) v0 v1 v2 v3)
        clear hb1
        cases rm
        · have HRR := hid (HBAD.out (argB_may HRM.out.symm))
          go_wp2
          go_quiet (fail)
          go_wp2
          exact bodyPost_ret (v := .tuple #[.agg #[.int .i64 0, .slice none 0 0, .slice none 0 0, .slice none 0 0], .int .i64 1]) (by simp [results, Try.results12, go_sem, r0, r1, r2, r3]; done) rfl (opost HRR.out rfl (OwnC.nil_ _ _) (HBL.out _ _ _ _ _))
        · have HLB := hid (argB_len (m := m) HRM.out.symm)
          by_cases hl : x.s.length = m
          · have u1 : ((x.s.length : Int) != (m : Int)) = false := by simp [hl]
            have u2 : (x.s.length != m) = false := by simp [hl]
            have HOK := hid (HSU.out (by rw [HLB.out]; exact decide_eq_true hl))
            clear hl
            go_wp2
            go_quiet (fail)
            go_wp2
            go_roundw
            case rel => exact ⟨k + 1, by omega, by go_num, HOK.out, below_drewN HB1.out _⟩
            case measure => simp [intOf]; omega
          · have u1 : ((x.s.length : Int) != (m : Int)) = true := by rw [bne_iff_ne]; omega
            have u2 : (x.s.length != m) = true := by simpa using hl
            have HRR := hid (HBAD.out (by rw [HLB.out]; exact decide_eq_false hl))
            clear hl
            go_wp2
            go_quiet (fail)
            go_wp2
            exact bodyPost_ret (v := .tuple #[.agg #[.int .i64 0, .slice none 0 0, .slice none 0 0, .slice none 0 0], .int .i64 1]) (by simp [results, Try.results12, go_sem, r0, r1, r2, r3]; done) rfl (opost HRR.out rfl (OwnC.nil_ _ _) (HBL.out _ _ _ _ _))
      · have hallv := all_argB (l := l) (fun j hj => HA.out j (by omega))
        have hF := sumF_of HNE.out hn hallv
        obtain ⟨b, off, U1, d1, U2, d2, U3, d3, rfl, hb, hat0, -⟩ := HRW.out wr HWW.out 0 hpos
        have hh : l.getD 0 nilC = l.headD nilC := by cases l <;> rfl
        rw [hh] at hat0
        have hm2 := hF.m2
        have HFAR := hid (fun k h => @sumC_far' l HNE.out hallv k h)
        have HOFF := hid (fun i hi h => @sumC_off l HNE.out hallv i hi h)
        have HTOP := hid (fun h3 h4 => @sumC_top l HNE.out hallv h3 h4)
        generalize (l.headD nilC).s.length = m at *
        have HF := hid hF
        have HE := hid (fun W => refEmptyO_any (m : Int) W)
        rw [emN_nat hm2] at HE
        obtain rfl : k = l.length := by omega
        have HRX := hid (fun W (hW : Below w.heap.size w W) k hk => HRW.out W hW k hk)
        clear hF hallv hh HA
        obtain ⟨wb, rfl⟩ : ∃ wb : World, wb = wr := ⟨_, rfl⟩
        obtain ⟨-, q1, -, -⟩ := hat0
        simp only at q1
        rw [Nat.zero_mul, Nat.add_zero] at q1
        have hwb : w.heap.size < wb.heap.size := by omega
        go_wp2_with fail
        refine (HE.out _).mono ?_
        rintro e w2 ⟨y, rfl, hoc, hb2⟩
        have hs2 := hb2.size
        have hoc' := hoc
        obtain ⟨y1, y2, y3, rfl, ho1, ho2, ho3, -, -⟩ := hoc
        have hlen : (emptyC m).s.length = m ∧ (emptyC m).lo.length = m ∧ (emptyC m).hi.length = m := by simp [emptyC]
        obtain ⟨e1, z1, rfl, -, -, -⟩ := own_cells (show w2.ownsRow _ _ 1 y1 m _ by have := ho1; rwa [hlen.1] at this)
        obtain ⟨e2, z2, rfl, -, -, -⟩ := own_cells (show w2.ownsRow _ _ 1 y2 m _ by have := ho2; rwa [hlen.2.1] at this)
        obtain ⟨e3, z3, rfl, -, -, -⟩ := own_cells (show w2.ownsRow _ _ 1 y3 m _ by have := ho3; rwa [hlen.2.2] at this)
        have hbd := OwnC.bld (c := emptyC m) hoc' hs2 25 rfl
        have HWb := hid HWW.out
        have HB2 := hid hb2
        clear ho1 ho2 ho3 hoc' hlen hb2 q1
        have hV1 : V3 (.slice e1 m z1) (.slice e2 m z2) (.slice e3 m z3) 1 = .slice e1 m z1 := rfl
        have hV2 : V3 (.slice e1 m z1) (.slice e2 m z2) (.slice e3 m z3) 2 = .slice e2 m z2 := rfl
        have hV3 : V3 (.slice e1 m z1) (.slice e2 m z2) (.slice e3 m z3) 3 = .slice e3 m z3 := rfl
        generalize V3 (.slice e1 m z1) (.slice e2 m z2) (.slice e3 m z3) = V at *
        have HBD := hid hbd; have HV1 := hid hV1; have HV2 := hid hV2; have HV3 := hid hV3
        clear hbd hV1 hV2 hV3
        go_wp2
        go_loopw [8] (fun s8 wx => R2Rel m l wb w2.heap.size V s8 wx) (fun s8 _ => l.length - (intOf s8).toNat)
        case atStart => exact ⟨0, by omega, rfl, by show (0 : Int) ≤ CNT; unfold CNT; omega, bld_same HBD.out (fun _ _ _ => rfl) (three_of rfl rfl rfl), HB2.out.trans ((bl1 w2 _).mono hs2)⟩
        case round =>
          obtain ⟨j, hj, rfl, hcn, hbl, hw⟩ := hrel
          have HBl := hid hbl; have HWr := hid hw
          have hsw := hw.size
          have HWW := hid (show Below w.heap.size w wr from HWb.out.trans (hw.mono (by omega)))
          have BRx := hid (BRr.out.below hw (by omega))
          have HCN := hid hcn
          clear hbl hw hcn
          by_cases hlj : j < l.length
          · obtain ⟨b', off', A1, c1, A2, c2, A3, c3, e, hb', hat, s1, s2, s3⟩ := HRW.out wr HWW.out j hlj
            injection e with e; injection e with e1' e2' _; subst e1' e2'
            have hts := full_take_succ hlj
            have hxn := HF.out.cnt j hlj
            have hx2 := HF.out.lo j hlj
            have hx3 := HF.out.hi j hlj
            have hfl : FullL (fullL (l.take j)) := fullL_pos (argsP_take HF.out.args j)
            have hc0 : 0 ≤ cntL (fullL (l.take j)) := cnt_nonneg (argsP_take HF.out.args j)
            have hcn := HCN.out
            have HFR := hid (HFAR.out (j + 1))
            generalize l.getD j nilC = x at *
            have Hat := hid hat
            obtain ⟨g0, -, g2, g3⟩ := hat
            simp only at g0 g2 g3
            by_cases hx0 : x.n = 0
            · have t1 : (x.n == 0) = true := by simp [hx0]
              rw [if_pos hx0] at hts
              have HTS := hid hts
              clear hts hx0
              go_wp2
              go_roundw
              case rel => exact ⟨j + 1, by omega, by go_num, by rw [HTS.out]; exact HCN.out, by rw [HTS.out]; exact HBl.out, HWr.out⟩
              case measure => simp [intOf]; omega
            · have t1 : (x.n == 0) = false := by simpa using hx0
              rw [if_neg hx0] at hts
              have HTS := hid hts
              have HLO := hid (fun k h => @acc_lo_step m k (fullL (l.take j)) hfl h x)
              have HHI := hid (fun k h => @acc_hi_step m k (fullL (l.take j)) hfl h x)
              have HCS := hid (cntL_snoc (fullL (l.take j)) x)
              have lz2 := accC_lo_len m (fullL (l.take j) ++ [x])
              have lz3 := accC_hi_len m (fullL (l.take j) ++ [x])
              have lz1 : (accC m (fullL (l.take j) ++ [x])).s.length = m := by rw [accC_s]; simp
              have lo2 := accC_lo_len m (fullL (l.take j))
              have lo3 := accC_hi_len m (fullL (l.take j))
              have lo1 : (accC m (fullL (l.take j))).s.length = m := by rw [accC_s]; simp
              have HSS := hid (show (accC m (fullL (l.take j) ++ [x])).s = (accC m (fullL (l.take j))).s by rw [accC_s, accC_s])
              have HBO := hid HBl.out
              generalize hz : accC m (fullL (l.take j) ++ [x]) = z at *
              generalize ho : accC m (fullL (l.take j)) = o at *
              generalize hn0 : cntL (fullL (l.take j)) = n0 at *
              have HZ := hid hz; have HO := hid ho; have HN0 := hid hn0
              clear hz ho hn0 hts hx0 HBl
              have hyl := fun k (h : k ≤ m) => ym_len (z := z) (o := o) (k := k) (n := m) lz1 lo1 lz2 lo2 lz3 lo3 h
              have HYL := hid hyl; clear hyl
              have HZ1 := hid lz1; have HZ2 := hid lz2; have HZ3 := hid lz3; have HO1 := hid lo1; have HO2 := hid lo2; have HO3 := hid lo3
              clear lz1 lz2 lz3 lo1 lo2 lo3
              have HX2 := hid hx2; have HX3 := hid hx3
              clear hx2 hx3 hfl
              have S2 := hid s2; have S3 := hid s3
              clear s1 s2 s3 g0 g2 g3
              obtain ⟨g0, -, -, -⟩ := Hat.out
              simp only at g0
              obtain ⟨wo, rfl⟩ : ∃ wo : World, wo = wr := ⟨_, rfl⟩
              go_wp2
              clear g0
              go_loopw [9] (fun s9 wx => R3Rel m n0 z o wb.heap.size wo w2.heap.size V s9 wx) (fun s9 _ => m - (intOf s9).toNat)
              case atStart => exact ⟨0, by omega, rfl, bld_same HBO.out (fun _ _ _ => rfl) (three_of rfl rfl rfl), Below.refl _ _⟩
              case round =>
                obtain ⟨k, hk, rfl, hbl, hw⟩ := hrel
                have HBk := hid hbl; have HWk := hid hw
                have hsk := hw.size
                have HWWk := hid (show Below w.heap.size w wr from HWW.out.trans (hw.mono (by omega)))
                by_cases hlk : k < m
                · have hlx2 : k < x.lo.length := by have := HX2.out; omega
                  have hlx3 : k < x.hi.length := by have := HX3.out; omega
                  obtain ⟨ba2, oa2, rfl, hba2, hxa2⟩ := (S2.out.below (hw.mono (by omega))).int hlx2
                  obtain ⟨ba3, oa3, rfl, hba3, hxa3⟩ := (S3.out.below (hw.mono (by omega))).int hlx3
                  obtain ⟨-, -, g2, g3⟩ := Hat.out.of_block (hw.block b (by omega))
                  simp only at g2 g3
                  obtain ⟨gg2, rfl, hg2⟩ : ∃ g, e2 = some ⟨g, 0, none⟩ ∧ wb.heap.size ≤ g := by
                    obtain ⟨A, c, e, -, -, h⟩ := own_cells (HBk.out.own 2 (by omega) (by omega))
                    rw [HV2.out] at e; injection e with e _ _; subst e
                    obtain ⟨g, hg, hg', -⟩ := h (by rw [HYL.out k hk 2 (by omega) (by omega)]; omega)
                    exact ⟨g, hg, hg'⟩
                  obtain ⟨gg3, rfl, hg3⟩ : ∃ g, e3 = some ⟨g, 0, none⟩ ∧ wb.heap.size ≤ g := by
                    obtain ⟨A, c, e, -, -, h⟩ := own_cells (HBk.out.own 3 (by omega) (by omega))
                    rw [HV3.out] at e; injection e with e _ _; subst e
                    obtain ⟨g, hg, hg', -⟩ := h (by rw [HYL.out k hk 3 (by omega) (by omega)]; omega)
                    exact ⟨g, hg, hg'⟩
                  have hl2 : k < (YM z o k 2).length := by rw [HYL.out k hk 2 (by omega) (by omega)]; exact hlk
                  have hl3 : k < (YM z o k 3).length := by rw [HYL.out k hk 3 (by omega) (by omega)]; exact hlk
                  have v2 : (YM z o k 2).getD k 0 = o.lo.getD k 0 := mix_getD (by have := HZ2.out; omega) (by have := HO2.out; omega)
                  have v3 : (YM z o k 3).getD k 0 = o.hi.getD k 0 := mix_getD (by have := HZ3.out; omega) (by have := HO3.out; omega)
                  have m1 : YM z o k 1 = YM z o (k + 1) 1 := mix_keep (by have := HZ1.out; omega) (by have := HO1.out; omega) (by rw [HSS.out])
                  have m2s : (YM z o k 2).set k (z.lo.getD k 0) = YM z o (k + 1) 2 := mix_set (by have := HZ2.out; omega) (by have := HO2.out; omega)
                  have m3s : (YM z o k 3).set k (z.hi.getD k 0) = YM z o (k + 1) 3 := mix_set (by have := HZ3.out; omega) (by have := HO3.out; omega)
                  have m2k : z.lo.getD k 0 = o.lo.getD k 0 → YM z o k 2 = YM z o (k + 1) 2 := fun h => mix_keep (by have := HZ2.out; omega) (by have := HO2.out; omega) h
                  have m3k : z.hi.getD k 0 = o.hi.getD k 0 → YM z o k 3 = YM z o (k + 1) 3 := fun h => mix_keep (by have := HZ3.out; omega) (by have := HO3.out; omega) h
                  have hlo := HLO.out k hlk
                  have hhi := HHI.out k hlk
                  have HB2' := hid (fun n => (HBk.out.drewN n).setAt 2 (by omega) (by omega) HV2.out hl2 (x.lo.getD k 0))
                  have HB3' := hid (fun n => (HBk.out.drewN n).setAt 3 (by omega) (by omega) HV3.out hl3 (x.hi.getD k 0))
                  rw [v2] at HB2'; rw [v3] at HB3'
                  have q0 := HBk.out.c0
                  have q2 : wr.cell? ⟨w2.heap.size, 2, none⟩ = some (.slice (some ⟨gg2, 0, none⟩) m z2) := (HBk.out.cj 2 (by omega) (by omega)).trans (congrArg some HV2.out)
                  have q3 : wr.cell? ⟨w2.heap.size, 3, none⟩ = some (.slice (some ⟨gg3, 0, none⟩) m z3) := (HBk.out.cj 3 (by omega) (by omega)).trans (congrArg some HV3.out)
                  obtain ⟨ce2, fr2, -, -⟩ := HBk.out.setAt 2 (by omega) (by omega) HV2.out hl2 (x.lo.getD k 0)
                  obtain ⟨ce3, fr3, -, -⟩ := HBk.out.setAt 3 (by omega) (by omega) HV3.out hl3 (x.hi.getD k 0)
                  rw [v2] at ce2; rw [v3] at ce3
                  have n23 : gg2 ≠ gg3 := fun e => HBk.out.ne 2 3 gg2 (by omega) (by omega) (by omega) (by omega) (by omega) (by rw [HV2.out]; rfl) (by rw [HV3.out, e]; rfl)
                  have nC2 : gg2 ≠ w2.heap.size := fun e => HBk.out.nC 2 (by omega) (by omega) (by rw [HV2.out, ← e]; rfl)
                  have nC3 : gg3 ≠ w2.heap.size := fun e => HBk.out.nC 3 (by omega) (by omega) (by rw [HV3.out, ← e]; rfl)
                  have nb2 : gg2 ≠ b := by omega
                  have nb3 : gg3 ≠ b := by omega
                  have na22 : gg2 ≠ ba2 := by omega
                  have na23 : gg2 ≠ ba3 := by omega
                  generalize x.lo.getD k 0 = xl at *
                  generalize x.hi.getD k 0 = xh at *
                  generalize o.lo.getD k 0 = ol at *
                  generalize o.hi.getD k 0 = oh at *
                  generalize z.lo.getD k 0 = zl at *
                  generalize z.hi.getD k 0 = zh at *
                  have M1 := hid m1; have M2S := hid m2s; have M3S := hid m3s; have M2K := hid m2k; have M3K := hid m3k
                  have HL2 := hid hl2; have HL3 := hid hl3
                  clear v2 v3 m1 m2s m3s m2k m3k hbl hw hl2 hl3
                  by_cases hn00 : n0 = 0
                  · rw [if_pos (.inl hn00)] at hlo hhi
                    subst hlo; subst hhi
                    have t2 : (n0 == 0) = true := by simp [hn00]
                    clear hn00
                    go_wp2
                    go_quiet (fail)
                    go_wp2
                    go_region
                    go_wp2
                    go_quiet (fail)
                    go_wp2
                    go_region
                    go_wp2
                    go_roundw
                    case rel =>
                      refine ⟨k + 1, by omega, by go_num, ?_⟩
                      have st2 := fun n1 => bld_st2 (Y' := Y2 (YM z o k) (YM z o (k + 1))) (HBk.out.drewN n1) HV2.out HL2.out zl M1.out M2S.out rfl
                      have st3 := fun n1 n2 => bld_st3 (Y' := YM z o (k + 1)) ((st2 n1).1.drewN n2) HV3.out HL3.out zh rfl rfl M3S.out
                      exact ⟨(st3 _ _).1, (st3 _ _).2 _ _ (Nat.le_refl _) (below_drewN ((st2 _).2 _ _ (Nat.le_refl _) (below_drewN HWk.out _)) _)⟩
                    case measure => simp [intOf]; omega
                  · have t2 : (n0 == 0) = false := by simpa using hn00
                    rcases Int.lt_or_le xl ol with hc2 | hc2
                    · rw [if_pos (.inr hc2)] at hlo
                      subst hlo
                      rcases Int.lt_or_le oh xh with hc3 | hc3
                      · rw [if_pos (.inr hc3)] at hhi
                        subst hhi
                        clear hn00
                        go_wp2
                        go_quiet (fail)
                        go_wp2
                        go_region
                        go_wp2
                        go_quiet (fail)
                        go_wp2
                        go_region
                        go_wp2
                        go_roundw
                        case rel =>
                          refine ⟨k + 1, by omega, by go_num, ?_⟩
                          have st2 := fun n1 => bld_st2 (Y' := Y2 (YM z o k) (YM z o (k + 1))) (HBk.out.drewN n1) HV2.out HL2.out zl M1.out M2S.out rfl
                          have st3 := fun n1 n2 => bld_st3 (Y' := YM z o (k + 1)) ((st2 n1).1.drewN n2) HV3.out HL3.out zh rfl rfl M3S.out
                          exact ⟨(st3 _ _).1, (st3 _ _).2 _ _ (Nat.le_refl _) (below_drewN ((st2 _).2 _ _ (Nat.le_refl _) (below_drewN HWk.out _)) _)⟩
                        case measure => simp [intOf]; omega
                      · rw [if_neg (by omega)] at hhi
                        have HK3 := hid (M3K.out hhi)
                        clear hn00 hhi
                        have hc3' : ¬ oh < xh := by omega
                        go_wp2
                        go_quiet (fail)
                        go_wp2
                        go_region
                        go_wp2
                        go_quiet (fail)
                        go_wp2
                        go_roundw
                        case rel =>
                          refine ⟨k + 1, by omega, by go_num, ?_⟩
                          have st2 := fun n1 => bld_st2 (Y' := YM z o (k + 1)) (HBk.out.drewN n1) HV2.out HL2.out zl M1.out M2S.out HK3.out
                          exact ⟨(st2 _).1.drewN _, below_drewN ((st2 _).2 _ _ (Nat.le_refl _) (below_drewN HWk.out _)) _⟩
                        case measure => simp [intOf]; omega
                    · rw [if_neg (by omega)] at hlo
                      have HK2 := hid (M2K.out hlo)
                      have hc2' : ¬ xl < ol := by omega
                      clear hlo
                      rcases Int.lt_or_le oh xh with hc3 | hc3
                      · rw [if_pos (.inr hc3)] at hhi
                        subst hhi
                        clear hn00
                        go_wp2
                        go_quiet (fail)
                        go_wp2
                        go_quiet (fail)
                        go_wp2
                        go_region
                        go_wp2
                        go_roundw
                        case rel =>
                          refine ⟨k + 1, by omega, by go_num, ?_⟩
                          have st3 := fun n1 => bld_st3 (Y' := YM z o (k + 1)) (HBk.out.drewN n1) HV3.out HL3.out zh M1.out HK2.out M3S.out
                          exact ⟨(st3 _).1, (st3 _).2 _ _ (Nat.le_refl _) (below_drewN HWk.out _)⟩
                        case measure => simp [intOf]; omega
                      · rw [if_neg (by omega)] at hhi
                        have HK3 := hid (M3K.out hhi)
                        clear hn00 hhi
                        have hc3' : ¬ oh < xh := by omega
                        go_wp2
                        go_quiet (fail)
                        go_wp2
                        go_quiet (fail)
                        go_wp2
                        go_roundw
                        case rel => exact ⟨k + 1, by omega, by go_num, bld_same (HBk.out.drewN _) (fun _ _ _ => rfl) (three_of M1.out HK2.out HK3.out), below_drewN HWk.out _⟩
                        case measure => simp [intOf]; omega
                · obtain rfl : k = m := by omega
                  have hX1 : YM z o k 1 = z.s := mix_full HZ1.out.symm HO1.out.symm
                  have hX2 : YM z o k 2 = z.lo := mix_full HZ2.out.symm HO2.out.symm
                  have hX3 : YM z o k 3 = z.hi := mix_full HZ3.out.symm HO3.out.symm
                  have HBX := hid (bld_same (X' := X3 z) hbl (fun _ _ _ => rfl) (three_of hX1 hX2 hX3))
                  clear hX1 hX2 hX3
                  obtain ⟨g0, -, -, -⟩ := Hat.out.of_block (hw.block b (by omega))
                  simp only at g0
                  have q0 := HBX.out.c0
                  have fz := HBX.out.fz 0 (by omega)
                  have hCb : w2.heap.size ≠ b := by omega
                  have HBRk := hid (BRx.out.below hw (by omega))
                  obtain ⟨r0, r1, r2, r3, f0, f1, f2, f3⟩ := HBRk.out
                  have HSN := hid (show Bld (wr.drew.setCell ⟨w2.heap.size, 0, none⟩ (.int .i64 (n0 + x.n))) wb.heap.size w2.heap.size (n0 + x.n) V (X3 z) from (HBX.out.drewN 1).setN (n0 + x.n))
                  have HSB := hid (show Below wb.heap.size wo (wr.drew.setCell ⟨w2.heap.size, 0, none⟩ (.int .i64 (n0 + x.n))) from (below_drewN HWk.out 1).setCell (p := ⟨w2.heap.size, 0, none⟩) (by show wb.heap.size ≤ w2.heap.size; omega) (.int .i64 (n0 + x.n)))
                  have HR14 := hid (show Blk (wr.setCell ⟨w2.heap.size, 0, none⟩ (.int .i64 (n0 + x.n))) w.heap.size (.int .i64 0) (.slice none 0 0) (.slice none 0 0) (.slice none 0 0) from BRx.out.below (HWk.out.setCell (p := ⟨w2.heap.size, 0, none⟩) (by show wb.heap.size ≤ w2.heap.size; omega) (.int .i64 (n0 + x.n))) (by omega))
                  have hn0 := HN0.out
                  clear hbl hw
                  unfold CNT at hcn hxn
                  have hCr : w2.heap.size ≠ w.heap.size := by omega
                  have hrC : w.heap.size ≠ w2.heap.size := by omega
                  clear hn0
                  by_cases hov : 1099511627776 < n0 + x.n
                  · have HRR := hid (HFR.out (by rw [HTS.out, HCS.out]; exact hov))
                    have HBL := hid (fun v0 v1 v2 v3 => fin4 (b := w.heap.size) (HWW.out.trans (HSB.out.mono (by omega))) (Nat.le_refl _) (show w.heap.size < (wr.drew.setCell ⟨w2.heap.size, 0, none⟩ (.int .i64 (n0 + x.n))).heap.size by simp [World.setCell]; omega) v0 v1 v2 v3)
                    go_wp2
                    go_region
                    obtain ⟨r0, r1, r2, r3, f0, f1, f2, f3⟩ := HR14.out
                    go_wp2
                    exact bodyPost_ret (v := .tuple #[.agg #[.int .i64 0, .slice none 0 0, .slice none 0 0, .slice none 0 0], .int .i64 14]) (by simp [results, Try.results12, go_sem, r0, r1, r2, r3]; done) rfl (opost HRR.out rfl (OwnC.nil_ _ _) (HBL.out _ _ _ _))
                  · have HLE := hid (show cntL (fullL (l.take (j + 1))) ≤ CNT by rw [HTS.out, HCS.out]; unfold CNT; omega)
                    go_wp2
                    go_region
                    go_wp2
                    go_roundw
                    case rel =>
                      refine ⟨j + 1, by omega, by go_num, HLE.out, ?_, HWr.out.trans HSB.out⟩
                      rw [HTS.out, HCS.out, HZ.out]
                      exact HSN.out
                    case measure => simp [intOf]; omega
          · obtain rfl : j = l.length := by omega
            have htk : l.take l.length = l := List.take_of_length_le (Nat.le_refl _)
            have hb0 := HBl.out
            have hcn := HCN.out
            rw [htk] at hb0 hcn
            have lz1 : (topC m l).s.length = m := by simp [topC]
            have lz2 : (topC m l).lo.length = m := accC_lo_len m (fullL l)
            have lz3 : (topC m l).hi.length = m := accC_hi_len m (fullL l)
            have lo1 : (accC m (fullL l)).s.length = m := by rw [accC_s]; simp
            have HB0' := hid (bld_same (X' := YM (topC m l) (accC m (fullL l)) 0) hb0 (fun _ _ _ => rfl) (three_of rfl rfl rfl))
            have HC0 := hid hcn
            clear htk hb0 hcn HBl HCN
            go_wp2
            go_loopw [10] (fun s10 wx => R4Rel m l wb w2.heap.size V s10 wx) (fun s10 _ => m - (intOf s10).toNat)
            case atStart => exact ⟨0, by omega, rfl, fun j hj => by omega, HB0'.out, HWr.out⟩
            case round =>
              obtain ⟨i, hi', rfl, hall, hbl, hw⟩ := hrel
              have HA := hid hall; have HBi := hid hbl; have HWi := hid hw
              have hsi := hw.size
              have HWWi := hid (show Below w.heap.size w wr from HWb.out.trans (hw.mono (by omega)))
              have BRi := hid (BRr.out.below hw (by omega))
              clear hall hbl hw
              by_cases hlt : i < m
              · obtain ⟨wo, rfl⟩ : ∃ wo : World, wo = wr := ⟨_, rfl⟩
                go_wp2
                go_loopw [11, 12] (fun s11 s12 wx => R5Rel l i wo s11 s12 wx) (fun _ s12 _ => l.length - (intOf s12).toNat)
                case atStart => exact ⟨0, by omega, rfl, World.ownsRow_nil _ _ _ _, Below.refl _ _⟩
                case round =>
                  obtain ⟨j, hj', rfl, hown, hba⟩ := hrel
                  have HBA := hid hba
                  have hsa := hba.size
                  have HOWN := hid hown
                  by_cases hlj : j < l.length
                  · obtain ⟨b', off', A1, c1, A2, c2, A3, c3, e, hb', hat, s1, -, -⟩ := HRW.out wr (HWWi.out.trans (hba.mono (by omega))) j hlj
                    injection e with e; injection e with e1' e2' _; subst e1' e2'
                    have hsl := HF.out.s j hlj
                    have HTK := hid (sCol_take_succ (i := i) hlj)
                    generalize l.getD j nilC = x at *
                    obtain ⟨-, g1, -, -⟩ := hat
                    simp only at g1
                    have hix : i < x.s.length := by omega
                    obtain ⟨ba1, oa1, rfl, hba1, hxa1⟩ := s1.int hix
                    generalize x.s.getD i 0 = xs at *
                    have HSL := hid hsl
                    have hcm1 : x.s.length ≤ 2 := by omega
                    clear s1 hba hown hsl
                    go_wp2_with (at_builtin; refine stop_here ?_)
                    refine go_on ?_
                    refine app_own (.tmp 157) (.tmp 166) 23 23 rfl rfl wo.heap.size 3 i0 (.int .i64 0) 1 8 Try.underlying23 hi hz0 hz1 hz2 rfl (by decide) _ _ _ rfl (HOWN.out.alloc _) (.slice (some ⟨wr.heap.size, 0, none⟩) 1 1) 1 (ivals [xs]) rfl (Src.ofSlice _ Try.underlying23 _ 1 1 _ rfl (cell_one_at _ _ _ rfl) (by simp [ivals]; rfl)) (by first | omega | (simp only [maxLen]; omega)) (by first | omega | (simp only [maxLen]; omega)) (by rw [World.size_alloc]; omega) ?_
                    intro v' w' hown' hg' hb'
                    have HOW' := hid hown'; have HBW' := hid ((HBA.out.alloc hsa _).trans hb')
                    clear hown' hg' hb'
                    go_wp2
                    go_roundw
                    case rel => exact ⟨j + 1, by omega, by go_num, by rw [HTK.out]; have := HOW'.out; simpa [ivals] using this, HBW'.out⟩
                    case measure => simp [intOf]; omega
                  · obtain rfl : j = l.length := by omega
                    have hful : (sCol l i).take l.length = sCol l i := List.take_of_length_le (by rw [sCol_len]; exact Nat.le_refl _)
                    rw [hful] at hown
                    have hsb := sum_bnds (sCol l i) (sCol_bnd HF.out.args hlt)
                    rw [sCol_len] at hsb
                    obtain ⟨sb1, sb2⟩ := hsb
                    unfold SUM at sb1 sb2
                    have htot := total_any u11 (sCol l i) wr (by rw [sCol_len]; omega) (Sl.of_own hown) (by omega) (by omega)
                    unfold TotalP at htot
                    have HTOT := hid htot
                    have HYES := hid (fun h => all_succ (p := fun j => okSum (sCol l j).sum = true) HA.out h)
                    have HNO := hid (fun h => HOFF.out i hlt h)
                    have hzi : (topC m l).s.getD i 0 = (sCol l i).sum := by rw [sCol_full HF.out.args]; exact getD_map_range hlt
                    generalize (sCol l i).sum = sm at *
                    have HZI := hid hzi
                    clear htot hown hba hful hzi
                    obtain ⟨gg1, rfl, hg1⟩ : ∃ g, e1 = some ⟨g, 0, none⟩ ∧ wb.heap.size ≤ g := by
                      obtain ⟨A, c, e, -, -, h⟩ := own_cells (HBi.out.own 1 (by omega) (by omega))
                      rw [HV1.out] at e; injection e with e _ _; subst e
                      obtain ⟨g, hg, hg', -⟩ := h (by rw [ym_len (n := m) lz1 lo1 lz2 (accC_lo_len _ _) lz3 (accC_hi_len _ _) hi' 1 (by omega) (by omega)]; omega)
                      exact ⟨g, hg, hg'⟩
                    have hl1 : i < (YM (topC m l) (accC m (fullL l)) i 1).length := by rw [ym_len (n := m) lz1 lo1 lz2 (accC_lo_len _ _) lz3 (accC_hi_len _ _) hi' 1 (by omega) (by omega)]; exact hlt
                    have m1s : (YM (topC m l) (accC m (fullL l)) i 1).set i sm = YM (topC m l) (accC m (fullL l)) (i + 1) 1 := by
                      rw [← HZI.out]; exact mix_set (by omega) (by omega)
                    have m2k : YM (topC m l) (accC m (fullL l)) i 2 = YM (topC m l) (accC m (fullL l)) (i + 1) 2 := mix_keep (by omega) (by rw [accC_lo_len]; omega) rfl
                    have m3k : YM (topC m l) (accC m (fullL l)) i 3 = YM (topC m l) (accC m (fullL l)) (i + 1) 3 := mix_keep (by omega) (by rw [accC_hi_len]; omega) rfl
                    have HL1 := hid hl1; have M1 := hid m1s; have M2 := hid m2k; have M3 := hid m3k
                    clear hl1 m1s m2k m3k
                    cases hok : okSum sm
                    · rw [hok] at HTOT
                      have HRR := hid (HNO.out (by rw [← okSum_in]; exact hok))
                      clear hok
                      go_wp2_with fail
                      refine HTOT.out.mono ?_
                      rintro e w3 ⟨⟨s0, rfl, hs0⟩, hb3⟩
                      have s3 := hb3.size
                      have hbw := HBA.out.trans (hb3.mono hsa)
                      obtain ⟨r0, r1, r2, r3, f0, f1, f2, f3⟩ := BRi.out.below hbw (by omega)
                      have HBL := hid (fun v0 v1 v2 v3 => fin4 (b := w.heap.size) (HWWi.out.trans (hbw.mono (by omega))) (Nat.le_refl _) (by omega) v0 v1 v2 v3)
                      clear hb3 hbw hs0
                      go_wp2
                      exact bodyPost_ret (v := .tuple #[.agg #[.int .i64 0, .slice none 0 0, .slice none 0 0, .slice none 0 0], .int .i64 14]) (by simp [results, Try.results12, go_sem, r0, r1, r2, r3]; done) rfl (opost HRR.out rfl (OwnC.nil_ _ _) (HBL.out _ _ _ _))
                    · have HOK := hid hok
                      rw [hok] at HTOT
                      clear hok
                      go_wp2_with fail
                      refine HTOT.out.mono ?_
                      rintro e w3 ⟨⟨s0, rfl, hs0⟩, hb3⟩
                      obtain rfl : s0 = sm := hs0 (by first | trivial | rfl)
                      have s3 := hb3.size
                      have hbw := HBA.out.trans (hb3.mono hsa)
                      have HK3 := hid (HBi.out.kept hbw)
                      have HBW := hid hbw
                      have q1 : w3.cell? ⟨w2.heap.size, 1, none⟩ = some (.slice (some ⟨gg1, 0, none⟩) m z1) := (HK3.out.cj 1 (by omega) (by omega)).trans (congrArg some HV1.out)
                      obtain ⟨ce1, fr1, -, -⟩ := HK3.out.setAt 1 (by omega) (by omega) HV1.out HL1.out s0
                      have hst := bld_st1 (Y' := YM (topC m l) (accC m (fullL l)) (i + 1)) HK3.out HV1.out HL1.out s0 M1.out M2.out M3.out
                      have HST := hid hst.1; have HFA := hid (hst.2 wb.heap.size wb (Nat.le_refl _) (HWi.out.trans (hbw.mono (by omega))))
                      clear hb3 hbw hs0 hst
                      go_wp2
                      go_roundw
                      case rel => exact ⟨i + 1, by omega, by go_num, HYES.out HOK.out, HST.out, HFA.out⟩
                      case measure => simp [intOf]; omega
              · obtain rfl : i = m := by omega
                have hX1 : YM (topC i l) (accC i (fullL l)) i 1 = (topC i l).s := mix_full lz1.symm lo1.symm
                have hX2 : YM (topC i l) (accC i (fullL l)) i 2 = (topC i l).lo := mix_full lz2.symm (accC_lo_len _ _).symm
                have hX3 : YM (topC i l) (accC i (fullL l)) i 3 = (topC i l).hi := mix_full lz3.symm (accC_hi_len _ _).symm
                have HRR := hid (HTOP.out HC0.out (fun j hj => by rw [← okSum_in]; exact HA.out j hj))
                have hres := fun v0 v1 v2 v3 => ((HBi.out.upd (upd4 w.heap.size wr v0 v1 v2 v3) (by omega) (by omega)).ownC).le (H' := w.heap.size) (by omega)
                rw [hX1, hX2, hX3, HV1.out, HV2.out, HV3.out] at hres
                have HRES := hid hres
                have HBL := hid (fun v0 v1 v2 v3 => fin4 (b := w.heap.size) HWWi.out (Nat.le_refl _) (by omega) v0 v1 v2 v3)
                have q0 := HBi.out.c0
                have q1 : wr.cell? ⟨w2.heap.size, 1, none⟩ = some (.slice e1 i z1) := (HBi.out.cj 1 (by omega) (by omega)).trans (congrArg some HV1.out)
                have q2 : wr.cell? ⟨w2.heap.size, 2, none⟩ = some (.slice e2 i z2) := (HBi.out.cj 2 (by omega) (by omega)).trans (congrArg some HV2.out)
                have q3 : wr.cell? ⟨w2.heap.size, 3, none⟩ = some (.slice e3 i z3) := (HBi.out.cj 3 (by omega) (by omega)).trans (congrArg some HV3.out)
                obtain ⟨r0, r1, r2, r3, f0, f1, f2, f3⟩ := BRi.out
                clear hres hX1 hX2 hX3
                go_wp2
                exact bodyPost_ret (v := .tuple #[.agg #[.int .i64 (cntL (fullL l)), .slice e1 i z1, .slice e2 i z2, .slice e3 i z3], .int .i64 0]) (by simp [results, Try.results12, go_sem, r0, r1, r2, r3]; done) rfl (opost HRR.out rfl (HRES.out _ _ _ _) (HBL.out _ _ _ _))
end Go.Proofs.Ytclhnnidbhchnaa
