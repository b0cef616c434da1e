/- 1 text of this claim, in build order. -/
import Derived.Test.YtclhnnidbhchnaaPccdhlphj
/- The reference's Merge of two cells that are not empty: what it gives is the call's own. -/
namespace Go.Proofs.Ytclhnnidbhchnaa
open Go.ChangeShapes Go.WideShapes Go.ChangeAt Go.RowKit
set_option linter.unusedVariables false
set_option linter.unusedSimpArgs false

set_option maxRecDepth 100000 in
set_option maxHeartbeats 6400000 in
theorem refMergeF_any (v x : Value) (a b : CellM) (w : World) (hv : CellR w w.heap.size v a) (hx : CellR w w.heap.size x b) (ha0 : (a.n == 0) = false) (hb0 : (b.n == 0) = false) :
    Calls Try.prog 88 #[v, x] w (MOwnPost (mergeC a b) w) := by
  obtain ⟨i0, hi, hz0, hz1, hz2⟩ := info_parts info_int
  have HA0 := hid ha0; have HB00 := hid hb0
  clear ha0 hb0
  have HV := hid hv; have HX := hid hx
  obtain ⟨v1, v2, v3, rfl, s1, s2, s3⟩ := hv
  obtain ⟨x1, x2, x3, rfl, t1, t2, t3⟩ := hx
  obtain ⟨A1, c1, rfl, hc1, hm1⟩ := s1.formI
  obtain ⟨A2, c2, rfl, hc2, hm2⟩ := s2.formI
  obtain ⟨A3, c3, rfl, hc3, hm3⟩ := s3.formI
  obtain ⟨X1, d1, rfl, hd1, hn1⟩ := t1.formI
  obtain ⟨X2, d2, rfl, hd2, hn2⟩ := t2.formI
  obtain ⟨X3, d3, rfl, hd3, hn3⟩ := t3.formI
  unfold maxLen at hm1 hm2 hm3 hn1 hn2 hn3
  have S1 := hid s1; have S2 := hid s2; have S3 := hid s3; have T1 := hid t1; have T2 := hid t2; have T3 := hid t3
  clear s1 s2 s3 t1 t2 t3
  have HMA := hid (fun W (h : Below w.heap.size w W) => refMay_any _ a W ((HV.out.below h).more h.size))
  have HMB := hid (fun W (h : Below w.heap.size w W) => refMay_any _ b W ((HX.out.below h).more h.size))
  have hways := merge_ways a b
  have hfull := fun h1 h2 h3 h4 h5 => @fulls_of a b h1 h2 h3 h4 h5
  obtain ⟨ra, hra⟩ : ∃ r, r = mayC a := ⟨_, rfl⟩
  obtain ⟨rb, hrb⟩ : ∃ r, r = mayC b := ⟨_, rfl⟩
  rw [← hra] at HMA hways hfull
  rw [← hrb] at HMB hways hfull
  clear hra hrb
  have HF := hid hfull; clear hfull
  go_enter Try.func88, Try.ntmps88
  obtain ⟨W0, hW0⟩ : ∃ W, W = ((w.alloc (.cells #[.int .i64 a.n, .slice A1 a.s.length c1, .slice A2 a.lo.length c2, .slice A3 a.hi.length c3] 25)).alloc (.cells #[.int .i64 b.n, .slice X1 b.s.length d1, .slice X2 b.lo.length d2, .slice X3 b.hi.length d3] 25)).alloc (.cells #[.int .i64 0, .slice none 0 0, .slice none 0 0, .slice none 0 0] 25) := ⟨_, rfl⟩
  have hb0 : Below w.heap.size w W0 := by rw [hW0]; exact (by repeat' first | with_reducible exact Below.refl _ _ | assumption | (with_reducible refine Below.alloc ?_ ?_ _) | (with_reducible refine Below.setCell ?_ ?_ _) | (with_reducible refine Below.drew ?_) | (with_reducible refine below_drewN ?_ _) | (with_reducible refine Below.trans ?_ (Below.mono ‹_› ?_)) | omega | (with_reducible refine le_alloc ?_) | (with_reducible refine le_setCell ?_) | (with_reducible refine le_drew ?_) | (with_reducible refine le_drewN ?_) | (with_reducible refine Nat.le_trans ?_ (Below.size ‹_›)) | (simp <;> omega))
  have hs0 : W0.heap.size = w.heap.size + 1 + 1 + 1 := by rw [hW0]; simp
  have ba : Blk W0 w.heap.size (.int .i64 a.n) (.slice A1 a.s.length c1) (.slice A2 a.lo.length c2) (.slice A3 a.hi.length c3) := by rw [hW0]; exact ((Blk.new _ _ _ _ _ _).alloc (by simp only [World.size_alloc]; omega) _).alloc (by simp only [World.size_alloc]; omega) _
  have bb : Blk W0 (w.heap.size + 1) (.int .i64 b.n) (.slice X1 b.s.length d1) (.slice X2 b.lo.length d2) (.slice X3 b.hi.length d3) := by rw [hW0]; exact (Blk.new' _ _ _ _ _ (by simp)).alloc (by simp only [World.size_alloc]; omega) _
  have br : Blk W0 (w.heap.size + 1 + 1) (.int .i64 0) (.slice none 0 0) (.slice none 0 0) (.slice none 0 0) := by rw [hW0]; exact Blk.new' _ _ _ _ _ (by simp)
  have HB0 := hid hb0; have HS0 := hid hs0; have BA := hid ba; have BB := hid bb; have BR := hid br; have HW0 := hid hW0
  clear hb0 hs0 ba bb br hW0
  go_wp2_with fail
  rw [← HW0.out]
  refine (HMA.out _ HB0.out).mono ?_
  rintro e w1 ⟨rfl, hb1⟩
  have hs1 : W0.heap.size ≤ w1.heap.size := hb1.size
  have hw1 := HB0.out.trans (hb1.mono (by have := HS0.out; omega))
  have ba := BA.out.below hb1 (by have := HS0.out; omega)
  have bb := BB.out.below hb1 (by have := HS0.out; omega)
  have br := BR.out.below hb1 (by have := HS0.out; omega)
  have BA1 := hid ba; have BB1 := hid bb; have BR1 := hid br; have HW1 := hid hw1
  obtain ⟨p0, p1, p2, p3, -, -, -, -⟩ := bb
  clear ba br hw1 hb1
  go_wp2_with fail
  refine (HMB.out _ HW1.out).mono ?_
  rintro e w2 ⟨rfl, hb2⟩
  have hs2 : w1.heap.size ≤ w2.heap.size := hb2.size
  have hsz : w.heap.size + 1 + 1 + 1 ≤ w2.heap.size := by have := HS0.out; omega
  have hw2 := HW1.out.trans (hb2.mono (by have := HS0.out; omega))
  have ba := BA1.out.below hb2 (by have := HS0.out; omega)
  have bb := BB1.out.below hb2 (by have := HS0.out; omega)
  have br := BR1.out.below hb2 (by have := HS0.out; omega)
  have BA2 := hid ba; have BB2 := hid bb; have BR2 := hid br; have HW2 := hid hw2
  clear hb2 hw2 p0 p1 p2 p3 hs1 hs2
  obtain ⟨a0, a1, a2, a3, -, -, -, -⟩ := ba
  obtain ⟨b0, b1, b2, b3, -, -, -, -⟩ := bb
  obtain ⟨r0, r1, r2, r3, f0, f1, f2, f3⟩ := br
  rcases hways with ⟨hr, hw⟩ | ⟨rfl, rfl, z3, hl, hw⟩
  · have HRR := hid hr
    have hbel := fun v0 v1 v2 v3 => fin4 (b := w.heap.size + 1 + 1) HW2.out (by omega) (by omega) v0 v1 v2 v3
    have HBL := hid hbel; clear hbel hr
    rcases hw with rfl | ⟨rfl, rfl⟩ | ⟨rfl, rfl, z3⟩
    all_goals
      go_wp2
      exact bodyPost_ret (v := .tuple #[.agg #[.int .i64 0, .slice none 0 0, .slice none 0 0, .slice none 0 0], .int .i64 1]) (by simp [results, Try.results88, go_sem, r0, r1, r2, r3]; done) rfl (opost HRR.out rfl (OwnC.nil_ _ _) (HBL.out _ _ _ _))
  · have hfu := HF.out rfl rfl hl
    rcases hw with ⟨hr, z4⟩ | ⟨hr, z4, z5⟩ | ⟨z4, z5, hr⟩
    · rw [HA0.out] at z4; cases z4
    · rw [HB00.out] at z5; cases z5
    · have HFU := hid (hfu z4 z5)
      have HR := hid hr
      clear hfu hr hl
      obtain ⟨y1, y2⟩ := HFU.out.an
      obtain ⟨y3, y4⟩ := HFU.out.bn
      go_wp2
      go_loopw [9] (fun i wr => MRel a b w2 w2.heap.size i wr) (fun i _ => a.s.length - (intOf i).toNat)
      case atStart => exact ⟨0, _, by omega, rfl, fun j hj => by omega, bld_same (Bld.start rfl) (fun _ _ _ => rfl) (three_of rfl rfl rfl), bl1 _ _⟩
      case round =>
        obtain ⟨k, V, hk, rfl, hall, hbl, hw⟩ := hrel
        have HA := hid hall; have HBl := hid hbl; have HWr := hid hw
        have hs2r := hw.size
        have ba := BA2.out.below hw (by omega)
        have bb := BB2.out.below hw (by omega)
        have br := BR2.out.below hw (by omega)
        have hww : Below w.heap.size w wr := HW2.out.trans (hw.mono (by omega))
        have HWW := hid hww
        have BRr := hid br
        clear hall hbl hw hww
        obtain ⟨a0, a1, a2, a3, -, -, -, -⟩ := ba
        obtain ⟨b0, b1, b2, b3, -, -, -, -⟩ := bb
        obtain ⟨r0, r1, r2, r3, f0, f1, f2, f3⟩ := br
        have BK0 := HBl.out.c0
        by_cases hlt : k < a.s.length
        · have hk2 : k < 2 := by have := HFU.out.l1; omega
          have hlb : k < b.s.length := by have := HFU.out.l2; omega
          obtain ⟨ba1, oa1, rfl, hba1, hxa1⟩ := (S1.out.below HWW.out).int hlt
          obtain ⟨bb1, ob1, rfl, hbb1, hxb1⟩ := (T1.out.below HWW.out).int hlb
          obtain ⟨ba2, oa2, rfl, hba2, hxa2⟩ := (S2.out.below HWW.out).int (show k < a.lo.length by have := HFU.out.a2; omega)
          obtain ⟨bb2, ob2, rfl, hbb2, hxb2⟩ := (T2.out.below HWW.out).int (show k < b.lo.length by have := HFU.out.b2; omega)
          obtain ⟨ba3, oa3, rfl, hba3, hxa3⟩ := (S3.out.below HWW.out).int (show k < a.hi.length by have := HFU.out.a3; omega)
          obtain ⟨bb3, ob3, rfl, hbb3, hxb3⟩ := (T3.out.below HWW.out).int (show k < b.hi.length by have := HFU.out.b3; omega)
          have l2 : k < a.lo.length := by have := HFU.out.a2; omega
          have l3 : k < b.lo.length := by have := HFU.out.b2; omega
          have l4 : k < a.hi.length := by have := HFU.out.a3; omega
          have l5 : k < b.hi.length := by have := HFU.out.b3; omega
          have e1 : (sumOf a b).s.take (k + 1) = (sumOf a b).s.take k ++ [a.s.getD k 0 + b.s.getD k 0] := zip_take_succ hlt hlb
          have e2 : (sumOf a b).lo.take (k + 1) = (sumOf a b).lo.take k ++ [min (a.lo.getD k 0) (b.lo.getD k 0)] := zip_take_succ l2 l3
          have e3 : (sumOf a b).hi.take (k + 1) = (sumOf a b).hi.take k ++ [max (a.hi.getD k 0) (b.hi.getD k 0)] := zip_take_succ l4 l5
          have lk1 : ((sumOf a b).s.take k).length = k := by rw [List.length_take]; simp [sumOf]; omega
          have lk2 : ((sumOf a b).lo.take k).length = k := by rw [List.length_take]; simp [sumOf]; omega
          have lk3 : ((sumOf a b).hi.take k).length = k := by rw [List.length_take]; simp [sumOf]; omega
          have av := HFU.out.av k hlt
          have bv := HFU.out.bv k hlt
          have hno : okSum (a.s.getD k 0 + b.s.getD k 0) = false → mayC (sumOf a b) = false := fun h => HFU.out.no ⟨k, hlt, h⟩
          have hyes : okSum (a.s.getD k 0 + b.s.getD k 0) = true → _ := fun h => all_succ (p := fun j => okSum (a.s.getD j 0 + b.s.getD j 0) = true) HA.out h
          unfold SUM at av bv
          generalize a.s.getD k 0 = xa at *
          generalize b.s.getD k 0 = xb at *
          generalize a.lo.getD k 0 = la at *
          generalize b.lo.getD k 0 = lb at *
          generalize a.hi.getD k 0 = ha at *
          generalize b.hi.getD k 0 = hb at *
          have LK1 := hid lk1; have LK2 := hid lk2; have LK3 := hid lk3; have E1 := hid e1; have E2 := hid e2; have E3 := hid e3; have HNO := hid hno; have HYES := hid hyes
          clear lk1 lk2 lk3 e1 e2 e3 hno hyes HA
          have htot := total_any (.slice (some ⟨wr.heap.size, 0, none⟩) 2 2) [xa, xb] (wr.drew.alloc (.cells #[.int .i64 xa, .int .i64 xb] 3)) (by simp) (Sl.two _ _ _ rfl) (by simp; omega) (by simp; omega)
          rw [show ([xa, xb] : List Int).sum = xa + xb by simp] at htot
          unfold TotalP at htot
          have HTOT := hid htot; clear htot av bv
          have zu1 : ba1 < wr.heap.size := by omega
          have zu2 : bb1 < wr.heap.size := by omega
          cases hok : okSum (xa + xb)
          · rw [hok] at HTOT
            have hr := HR.out
            rw [HNO.out hok, if_neg (by simp)] at hr
            have HRR := hid hr
            clear hr
            go_wp2
            go_region_held3 (fun w' => w'.cell? ⟨w.heap.size, 1, none⟩ = some (.slice (some ⟨ba1, oa1, none⟩) a.s.length c1) ∧ w'.cell? ⟨w.heap.size + 1, 1, none⟩ = some (.slice (some ⟨bb1, ob1, none⟩) b.s.length d1) ∧ w'.cell? ⟨ba1, oa1 + k, none⟩ = some (.int .i64 xa) ∧ w'.cell? ⟨bb1, ob1 + k, none⟩ = some (.int .i64 xb)) (go_keep)
              ((go_at_call 48; refine HTOT.out.mono ?_; rintro e w3 ⟨⟨sm, rfl, hsm⟩, hb3⟩; have B3 := hid (show Below wr.heap.size wr w3 from ((Below.refl _ _).drew.alloc (Nat.le_refl _) _).trans (hb3.mono (by simp))); have HSM := hid hsm; have q1 := cellK B3.out (by omega) a1; have q2 := cellK B3.out (by omega) b1; have q3 := cellK B3.out zu1 hxa1; have q4 := cellK B3.out zu2 hxb1; clear hb3 hsm))
            have hbel := fun v0 v1 v2 v3 => fin4 (b := w.heap.size + 1 + 1) (HWW.out.trans (B3.out.mono (by omega))) (by omega) (by have := B3.out.size; omega) v0 v1 v2 v3
            have HBL := hid hbel; clear hbel
            obtain ⟨r0, r1, r2, r3, f0, f1, f2, f3⟩ := BRr.out.below B3.out (by omega)
            go_wp2
            exact bodyPost_ret (v := .tuple #[.agg #[.int .i64 0, .slice none 0 0, .slice none 0 0, .slice none 0 0], .int .i64 14]) (by simp [results, Try.results88, go_sem, r0, r1, r2, r3]; done) rfl (opost HRR.out rfl (OwnC.nil_ _ _) (HBL.out _ _ _ _))
          · rw [hok] at HTOT
            go_wp2
            go_region_held3 (fun w' => w'.cell? ⟨w.heap.size, 1, none⟩ = some (.slice (some ⟨ba1, oa1, none⟩) a.s.length c1) ∧ w'.cell? ⟨w.heap.size + 1, 1, none⟩ = some (.slice (some ⟨bb1, ob1, none⟩) b.s.length d1) ∧ w'.cell? ⟨ba1, oa1 + k, none⟩ = some (.int .i64 xa) ∧ w'.cell? ⟨bb1, ob1 + k, none⟩ = some (.int .i64 xb)) (go_keep)
              ((go_at_call 48; refine HTOT.out.mono ?_; rintro e w3 ⟨⟨sm, rfl, hsm⟩, hb3⟩; have B3 := hid (show Below wr.heap.size wr w3 from ((Below.refl _ _).drew.alloc (Nat.le_refl _) _).trans (hb3.mono (by simp))); have HSM := hid hsm; have q1 := cellK B3.out (by omega) a1; have q2 := cellK B3.out (by omega) b1; have q3 := cellK B3.out zu1 hxa1; have q4 := cellK B3.out zu2 hxb1; clear hb3 hsm))
            have q5 := cellK B3.out (by omega) a2; have q6 := cellK B3.out (by omega) b2; have q7 := cellK B3.out (by omega) a3; have q8 := cellK B3.out (by omega) b3
            have q9 := cellK B3.out (by omega) hxa2; have q10 := cellK B3.out (by omega) hxb2; have q11 := cellK B3.out (by omega) hxa3; have q12 := cellK B3.out (by omega) hxb3
            obtain rfl : sm = xa + xb := HSM.out (by first | trivial | rfl)
            have hk3 := HBl.out.kept B3.out
            have HK3 := hid hk3; clear hk3
            rcases (show (lb < la ∧ min la lb = lb) ∨ (¬ lb < la ∧ min la lb = la) by omega) with ⟨y5, y6⟩ | ⟨y5, y6⟩
            all_goals rw [y6] at E2; clear y6
            all_goals rcases (show (ha < hb ∧ max ha hb = hb) ∨ (¬ ha < hb ∧ max ha hb = ha) by omega) with ⟨y7, y8⟩ | ⟨y7, y8⟩
            all_goals rw [y8] at E3; clear y8
            · skip
              have sz1 : w2.heap.size + 1 ≤ (w3).heap.size := HK3.out.hs
              have o1 : (w3).ownsRow (w2.heap.size + 1) 3 1 (V 1) (k) (ivals ((sumOf a b).s.take k)) := by have h : (w3).ownsRow (w2.heap.size + 1) 3 1 (V 1) ((sumOf a b).s.take k).length (ivals ((sumOf a b).s.take k)) := HK3.out.own 1 (by omega) (by omega); rwa [show ((sumOf a b).s.take k).length = k from LK1.out] at h
              obtain ⟨za1, zd1, sh1, hc1, hm1, -⟩ := own_cells o1
              have q1 : (w3).cell? ⟨w2.heap.size, 1, none⟩ = some (V 1) := (HK3.out.cj 1 (by omega) (by omega))
              rw [sh1] at q1 o1; clear hc1 hm1
              go_wp2_with (at_builtin; refine stop_here ?_)
              refine go_on ?_
              refine app_own_at (.tmp 108) (.tmp 110) 23 23 rfl rfl (w2.heap.size + 1) 3 i0 (.int .i64 0) 1 8 Try.underlying23 hi hz0 hz1 hz2 rfl (by decide) (.slice za1 (k) zd1) _ _ rfl (o1.alloc _) (.slice (some ⟨w3.heap.size, 0, none⟩) 1 1) 1 (ivals [xa + xb]) rfl (Src.ofSlice _ Try.underlying23 _ 1 1 _ rfl (cell_one_at _ _ _ rfl) (by simp [ivals]; rfl)) (by first | omega | (simp only [maxLen]; omega)) (by first | omega | (simp only [maxLen]; omega)) (by rw [World.size_alloc]; omega) ?_
              intro zv1 zw1 hown1 hg1 _ hat1
              rw [← sh1] at hg1 hat1
              obtain ⟨mm1, ff1, st1, far1⟩ := HK3.out.step 1 (by omega) (by omega) (bl1 _ _) hown1 hg1 hat1
              obtain ⟨zb1, ze1, rfl, -, -, -⟩ := own_cells hown1
              replace mm1 : zw1.cell? ⟨w2.heap.size, 1, none⟩ = some (.slice za1 (k) zd1) := mm1.trans (congrArg some sh1)
              have HB1 := hid st1; have HF1 := hid far1; clear st1 far1 hown1 hg1 hat1 q1 o1 sh1
              have sz2 : w2.heap.size + 1 ≤ (zw1.setCell ⟨w2.heap.size, 1, none⟩ (.slice zb1 (k + 1) ze1)).heap.size := HB1.out.hs
              have o2 : (zw1.setCell ⟨w2.heap.size, 1, none⟩ (.slice zb1 (k + 1) ze1)).ownsRow (w2.heap.size + 1) 3 1 (V 2) (k) (ivals ((sumOf a b).lo.take k)) := by have h : (zw1.setCell ⟨w2.heap.size, 1, none⟩ (.slice zb1 (k + 1) ze1)).ownsRow (w2.heap.size + 1) 3 1 (V 2) ((sumOf a b).lo.take k).length (ivals ((sumOf a b).lo.take k)) := HB1.out.own 2 (by omega) (by omega); rwa [show ((sumOf a b).lo.take k).length = k from LK2.out] at h
              obtain ⟨za2, zd2, sh2, hc2, hm2, -⟩ := own_cells o2
              have q2 : (zw1.setCell ⟨w2.heap.size, 1, none⟩ (.slice zb1 (k + 1) ze1)).cell? ⟨w2.heap.size, 2, none⟩ = some (V 2) := (HB1.out.cj 2 (by omega) (by omega))
              rw [sh2] at q2 o2; clear hc2 hm2
              go_wp2_with (at_builtin; refine stop_here ?_)
              refine go_on ?_
              refine app_own_at (.tmp 114) (.tmp 116) 23 23 rfl rfl (w2.heap.size + 1) 3 i0 (.int .i64 0) 1 8 Try.underlying23 hi hz0 hz1 hz2 rfl (by decide) (.slice za2 (k) zd2) _ _ rfl (o2.alloc _) (.slice (some ⟨zw1.heap.size, 0, none⟩) 1 1) 1 (ivals [lb]) rfl (Src.ofSlice _ Try.underlying23 _ 1 1 _ rfl (cell_one_at _ _ _ (by simp [World.setCell])) (by simp [ivals]; rfl)) (by first | omega | (simp only [maxLen]; omega)) (by first | omega | (simp only [maxLen]; omega)) (by rw [World.size_alloc]; omega) ?_
              intro zv2 zw2 hown2 hg2 _ hat2
              rw [← sh2] at hg2 hat2
              obtain ⟨mm2, ff2, st2, far2⟩ := HB1.out.step 2 (by omega) (by omega) (bl1 _ _) hown2 hg2 hat2
              obtain ⟨zb2, ze2, rfl, -, -, -⟩ := own_cells hown2
              replace mm2 : zw2.cell? ⟨w2.heap.size, 2, none⟩ = some (.slice za2 (k) zd2) := mm2.trans (congrArg some sh2)
              have HB2 := hid st2; have HF2 := hid far2; clear st2 far2 hown2 hg2 hat2 q2 o2 sh2
              have sz3 : w2.heap.size + 1 ≤ (zw2.setCell ⟨w2.heap.size, 2, none⟩ (.slice zb2 (k + 1) ze2)).heap.size := HB2.out.hs
              have o3 : (zw2.setCell ⟨w2.heap.size, 2, none⟩ (.slice zb2 (k + 1) ze2)).ownsRow (w2.heap.size + 1) 3 1 (V 3) (k) (ivals ((sumOf a b).hi.take k)) := by have h : (zw2.setCell ⟨w2.heap.size, 2, none⟩ (.slice zb2 (k + 1) ze2)).ownsRow (w2.heap.size + 1) 3 1 (V 3) ((sumOf a b).hi.take k).length (ivals ((sumOf a b).hi.take k)) := HB2.out.own 3 (by omega) (by omega); rwa [show ((sumOf a b).hi.take k).length = k from LK3.out] at h
              obtain ⟨za3, zd3, sh3, hc3, hm3, -⟩ := own_cells o3
              have q3 : (zw2.setCell ⟨w2.heap.size, 2, none⟩ (.slice zb2 (k + 1) ze2)).cell? ⟨w2.heap.size, 3, none⟩ = some (V 3) := (HB2.out.cj 3 (by omega) (by omega))
              rw [sh3] at q3 o3; clear hc3 hm3
              go_wp2_with (at_builtin; refine stop_here ?_)
              refine go_on ?_
              refine app_own_at (.tmp 120) (.tmp 122) 23 23 rfl rfl (w2.heap.size + 1) 3 i0 (.int .i64 0) 1 8 Try.underlying23 hi hz0 hz1 hz2 rfl (by decide) (.slice za3 (k) zd3) _ _ rfl (o3.alloc _) (.slice (some ⟨zw2.heap.size, 0, none⟩) 1 1) 1 (ivals [hb]) rfl (Src.ofSlice _ Try.underlying23 _ 1 1 _ rfl (cell_one_at _ _ _ (by simp [World.setCell])) (by simp [ivals]; rfl)) (by first | omega | (simp only [maxLen]; omega)) (by first | omega | (simp only [maxLen]; omega)) (by rw [World.size_alloc]; omega) ?_
              intro zv3 zw3 hown3 hg3 _ hat3
              rw [← sh3] at hg3 hat3
              obtain ⟨mm3, ff3, st3, far3⟩ := HB2.out.step 3 (by omega) (by omega) (bl1 _ _) hown3 hg3 hat3
              obtain ⟨zb3, ze3, rfl, -, -, -⟩ := own_cells hown3
              replace mm3 : zw3.cell? ⟨w2.heap.size, 3, none⟩ = some (.slice za3 (k) zd3) := mm3.trans (congrArg some sh3)
              have HB3 := hid st3; have HF3 := hid far3; clear st3 far3 hown3 hg3 hat3 q3 o3 sh3
              go_wp2
              go_roundw
              case rel => exact ⟨k + 1, _, by omega, by go_num, HYES.out hok, bld_same HB3.out (fun _ _ _ => rfl) (three_of E1.out.symm E2.out.symm E3.out.symm), HF3.out _ _ (by omega) (by omega) (HF2.out _ _ (by omega) (by omega) (HF1.out _ _ (by omega) (by omega) (HWr.out.trans (B3.out.mono (by omega)))))⟩
              case measure => simp [intOf]; omega
            · skip
              have sz1 : w2.heap.size + 1 ≤ (w3).heap.size := HK3.out.hs
              have o1 : (w3).ownsRow (w2.heap.size + 1) 3 1 (V 1) (k) (ivals ((sumOf a b).s.take k)) := by have h : (w3).ownsRow (w2.heap.size + 1) 3 1 (V 1) ((sumOf a b).s.take k).length (ivals ((sumOf a b).s.take k)) := HK3.out.own 1 (by omega) (by omega); rwa [show ((sumOf a b).s.take k).length = k from LK1.out] at h
              obtain ⟨za1, zd1, sh1, hc1, hm1, -⟩ := own_cells o1
              have q1 : (w3).cell? ⟨w2.heap.size, 1, none⟩ = some (V 1) := (HK3.out.cj 1 (by omega) (by omega))
              rw [sh1] at q1 o1; clear hc1 hm1
              go_wp2_with (at_builtin; refine stop_here ?_)
              refine go_on ?_
              refine app_own_at (.tmp 108) (.tmp 110) 23 23 rfl rfl (w2.heap.size + 1) 3 i0 (.int .i64 0) 1 8 Try.underlying23 hi hz0 hz1 hz2 rfl (by decide) (.slice za1 (k) zd1) _ _ rfl (o1.alloc _) (.slice (some ⟨w3.heap.size, 0, none⟩) 1 1) 1 (ivals [xa + xb]) rfl (Src.ofSlice _ Try.underlying23 _ 1 1 _ rfl (cell_one_at _ _ _ rfl) (by simp [ivals]; rfl)) (by first | omega | (simp only [maxLen]; omega)) (by first | omega | (simp only [maxLen]; omega)) (by rw [World.size_alloc]; omega) ?_
              intro zv1 zw1 hown1 hg1 _ hat1
              rw [← sh1] at hg1 hat1
              obtain ⟨mm1, ff1, st1, far1⟩ := HK3.out.step 1 (by omega) (by omega) (bl1 _ _) hown1 hg1 hat1
              obtain ⟨zb1, ze1, rfl, -, -, -⟩ := own_cells hown1
              replace mm1 : zw1.cell? ⟨w2.heap.size, 1, none⟩ = some (.slice za1 (k) zd1) := mm1.trans (congrArg some sh1)
              have HB1 := hid st1; have HF1 := hid far1; clear st1 far1 hown1 hg1 hat1 q1 o1 sh1
              have sz2 : w2.heap.size + 1 ≤ (zw1.setCell ⟨w2.heap.size, 1, none⟩ (.slice zb1 (k + 1) ze1)).heap.size := HB1.out.hs
              have o2 : (zw1.setCell ⟨w2.heap.size, 1, none⟩ (.slice zb1 (k + 1) ze1)).ownsRow (w2.heap.size + 1) 3 1 (V 2) (k) (ivals ((sumOf a b).lo.take k)) := by have h : (zw1.setCell ⟨w2.heap.size, 1, none⟩ (.slice zb1 (k + 1) ze1)).ownsRow (w2.heap.size + 1) 3 1 (V 2) ((sumOf a b).lo.take k).length (ivals ((sumOf a b).lo.take k)) := HB1.out.own 2 (by omega) (by omega); rwa [show ((sumOf a b).lo.take k).length = k from LK2.out] at h
              obtain ⟨za2, zd2, sh2, hc2, hm2, -⟩ := own_cells o2
              have q2 : (zw1.setCell ⟨w2.heap.size, 1, none⟩ (.slice zb1 (k + 1) ze1)).cell? ⟨w2.heap.size, 2, none⟩ = some (V 2) := (HB1.out.cj 2 (by omega) (by omega))
              rw [sh2] at q2 o2; clear hc2 hm2
              go_wp2_with (at_builtin; refine stop_here ?_)
              refine go_on ?_
              refine app_own_at (.tmp 114) (.tmp 116) 23 23 rfl rfl (w2.heap.size + 1) 3 i0 (.int .i64 0) 1 8 Try.underlying23 hi hz0 hz1 hz2 rfl (by decide) (.slice za2 (k) zd2) _ _ rfl (o2.alloc _) (.slice (some ⟨zw1.heap.size, 0, none⟩) 1 1) 1 (ivals [lb]) rfl (Src.ofSlice _ Try.underlying23 _ 1 1 _ rfl (cell_one_at _ _ _ (by simp [World.setCell])) (by simp [ivals]; rfl)) (by first | omega | (simp only [maxLen]; omega)) (by first | omega | (simp only [maxLen]; omega)) (by rw [World.size_alloc]; omega) ?_
              intro zv2 zw2 hown2 hg2 _ hat2
              rw [← sh2] at hg2 hat2
              obtain ⟨mm2, ff2, st2, far2⟩ := HB1.out.step 2 (by omega) (by omega) (bl1 _ _) hown2 hg2 hat2
              obtain ⟨zb2, ze2, rfl, -, -, -⟩ := own_cells hown2
              replace mm2 : zw2.cell? ⟨w2.heap.size, 2, none⟩ = some (.slice za2 (k) zd2) := mm2.trans (congrArg some sh2)
              have HB2 := hid st2; have HF2 := hid far2; clear st2 far2 hown2 hg2 hat2 q2 o2 sh2
              have sz3 : w2.heap.size + 1 ≤ (zw2.setCell ⟨w2.heap.size, 2, none⟩ (.slice zb2 (k + 1) ze2)).heap.size := HB2.out.hs
              have o3 : (zw2.setCell ⟨w2.heap.size, 2, none⟩ (.slice zb2 (k + 1) ze2)).ownsRow (w2.heap.size + 1) 3 1 (V 3) (k) (ivals ((sumOf a b).hi.take k)) := by have h : (zw2.setCell ⟨w2.heap.size, 2, none⟩ (.slice zb2 (k + 1) ze2)).ownsRow (w2.heap.size + 1) 3 1 (V 3) ((sumOf a b).hi.take k).length (ivals ((sumOf a b).hi.take k)) := HB2.out.own 3 (by omega) (by omega); rwa [show ((sumOf a b).hi.take k).length = k from LK3.out] at h
              obtain ⟨za3, zd3, sh3, hc3, hm3, -⟩ := own_cells o3
              have q3 : (zw2.setCell ⟨w2.heap.size, 2, none⟩ (.slice zb2 (k + 1) ze2)).cell? ⟨w2.heap.size, 3, none⟩ = some (V 3) := (HB2.out.cj 3 (by omega) (by omega))
              rw [sh3] at q3 o3; clear hc3 hm3
              go_wp2_with (at_builtin; refine stop_here ?_)
              refine go_on ?_
              refine app_own_at (.tmp 120) (.tmp 122) 23 23 rfl rfl (w2.heap.size + 1) 3 i0 (.int .i64 0) 1 8 Try.underlying23 hi hz0 hz1 hz2 rfl (by decide) (.slice za3 (k) zd3) _ _ rfl (o3.alloc _) (.slice (some ⟨zw2.heap.size, 0, none⟩) 1 1) 1 (ivals [ha]) rfl (Src.ofSlice _ Try.underlying23 _ 1 1 _ rfl (cell_one_at _ _ _ (by simp [World.setCell])) (by simp [ivals]; rfl)) (by first | omega | (simp only [maxLen]; omega)) (by first | omega | (simp only [maxLen]; omega)) (by rw [World.size_alloc]; omega) ?_
              intro zv3 zw3 hown3 hg3 _ hat3
              rw [← sh3] at hg3 hat3
              obtain ⟨mm3, ff3, st3, far3⟩ := HB2.out.step 3 (by omega) (by omega) (bl1 _ _) hown3 hg3 hat3
              obtain ⟨zb3, ze3, rfl, -, -, -⟩ := own_cells hown3
              replace mm3 : zw3.cell? ⟨w2.heap.size, 3, none⟩ = some (.slice za3 (k) zd3) := mm3.trans (congrArg some sh3)
              have HB3 := hid st3; have HF3 := hid far3; clear st3 far3 hown3 hg3 hat3 q3 o3 sh3
              go_wp2
              go_roundw
              case rel => exact ⟨k + 1, _, by omega, by go_num, HYES.out hok, bld_same HB3.out (fun _ _ _ => rfl) (three_of E1.out.symm E2.out.symm E3.out.symm), HF3.out _ _ (by omega) (by omega) (HF2.out _ _ (by omega) (by omega) (HF1.out _ _ (by omega) (by omega) (HWr.out.trans (B3.out.mono (by omega)))))⟩
              case measure => simp [intOf]; omega
            · skip
              have sz1 : w2.heap.size + 1 ≤ (w3).heap.size := HK3.out.hs
              have o1 : (w3).ownsRow (w2.heap.size + 1) 3 1 (V 1) (k) (ivals ((sumOf a b).s.take k)) := by have h : (w3).ownsRow (w2.heap.size + 1) 3 1 (V 1) ((sumOf a b).s.take k).length (ivals ((sumOf a b).s.take k)) := HK3.out.own 1 (by omega) (by omega); rwa [show ((sumOf a b).s.take k).length = k from LK1.out] at h
              obtain ⟨za1, zd1, sh1, hc1, hm1, -⟩ := own_cells o1
              have q1 : (w3).cell? ⟨w2.heap.size, 1, none⟩ = some (V 1) := (HK3.out.cj 1 (by omega) (by omega))
              rw [sh1] at q1 o1; clear hc1 hm1
              go_wp2_with (at_builtin; refine stop_here ?_)
              refine go_on ?_
              refine app_own_at (.tmp 108) (.tmp 110) 23 23 rfl rfl (w2.heap.size + 1) 3 i0 (.int .i64 0) 1 8 Try.underlying23 hi hz0 hz1 hz2 rfl (by decide) (.slice za1 (k) zd1) _ _ rfl (o1.alloc _) (.slice (some ⟨w3.heap.size, 0, none⟩) 1 1) 1 (ivals [xa + xb]) rfl (Src.ofSlice _ Try.underlying23 _ 1 1 _ rfl (cell_one_at _ _ _ rfl) (by simp [ivals]; rfl)) (by first | omega | (simp only [maxLen]; omega)) (by first | omega | (simp only [maxLen]; omega)) (by rw [World.size_alloc]; omega) ?_
              intro zv1 zw1 hown1 hg1 _ hat1
              rw [← sh1] at hg1 hat1
              obtain ⟨mm1, ff1, st1, far1⟩ := HK3.out.step 1 (by omega) (by omega) (bl1 _ _) hown1 hg1 hat1
              obtain ⟨zb1, ze1, rfl, -, -, -⟩ := own_cells hown1
              replace mm1 : zw1.cell? ⟨w2.heap.size, 1, none⟩ = some (.slice za1 (k) zd1) := mm1.trans (congrArg some sh1)
              have HB1 := hid st1; have HF1 := hid far1; clear st1 far1 hown1 hg1 hat1 q1 o1 sh1
              have sz2 : w2.heap.size + 1 ≤ (zw1.setCell ⟨w2.heap.size, 1, none⟩ (.slice zb1 (k + 1) ze1)).heap.size := HB1.out.hs
              have o2 : (zw1.setCell ⟨w2.heap.size, 1, none⟩ (.slice zb1 (k + 1) ze1)).ownsRow (w2.heap.size + 1) 3 1 (V 2) (k) (ivals ((sumOf a b).lo.take k)) := by have h : (zw1.setCell ⟨w2.heap.size, 1, none⟩ (.slice zb1 (k + 1) ze1)).ownsRow (w2.heap.size + 1) 3 1 (V 2) ((sumOf a b).lo.take k).length (ivals ((sumOf a b).lo.take k)) := HB1.out.own 2 (by omega) (by omega); rwa [show ((sumOf a b).lo.take k).length = k from LK2.out] at h
              obtain ⟨za2, zd2, sh2, hc2, hm2, -⟩ := own_cells o2
              have q2 : (zw1.setCell ⟨w2.heap.size, 1, none⟩ (.slice zb1 (k + 1) ze1)).cell? ⟨w2.heap.size, 2, none⟩ = some (V 2) := (HB1.out.cj 2 (by omega) (by omega))
              rw [sh2] at q2 o2; clear hc2 hm2
              go_wp2_with (at_builtin; refine stop_here ?_)
              refine go_on ?_
              refine app_own_at (.tmp 114) (.tmp 116) 23 23 rfl rfl (w2.heap.size + 1) 3 i0 (.int .i64 0) 1 8 Try.underlying23 hi hz0 hz1 hz2 rfl (by decide) (.slice za2 (k) zd2) _ _ rfl (o2.alloc _) (.slice (some ⟨zw1.heap.size, 0, none⟩) 1 1) 1 (ivals [la]) rfl (Src.ofSlice _ Try.underlying23 _ 1 1 _ rfl (cell_one_at _ _ _ (by simp [World.setCell])) (by simp [ivals]; rfl)) (by first | omega | (simp only [maxLen]; omega)) (by first | omega | (simp only [maxLen]; omega)) (by rw [World.size_alloc]; omega) ?_
              intro zv2 zw2 hown2 hg2 _ hat2
              rw [← sh2] at hg2 hat2
              obtain ⟨mm2, ff2, st2, far2⟩ := HB1.out.step 2 (by omega) (by omega) (bl1 _ _) hown2 hg2 hat2
              obtain ⟨zb2, ze2, rfl, -, -, -⟩ := own_cells hown2
              replace mm2 : zw2.cell? ⟨w2.heap.size, 2, none⟩ = some (.slice za2 (k) zd2) := mm2.trans (congrArg some sh2)
              have HB2 := hid st2; have HF2 := hid far2; clear st2 far2 hown2 hg2 hat2 q2 o2 sh2
              have sz3 : w2.heap.size + 1 ≤ (zw2.setCell ⟨w2.heap.size, 2, none⟩ (.slice zb2 (k + 1) ze2)).heap.size := HB2.out.hs
              have o3 : (zw2.setCell ⟨w2.heap.size, 2, none⟩ (.slice zb2 (k + 1) ze2)).ownsRow (w2.heap.size + 1) 3 1 (V 3) (k) (ivals ((sumOf a b).hi.take k)) := by have h : (zw2.setCell ⟨w2.heap.size, 2, none⟩ (.slice zb2 (k + 1) ze2)).ownsRow (w2.heap.size + 1) 3 1 (V 3) ((sumOf a b).hi.take k).length (ivals ((sumOf a b).hi.take k)) := HB2.out.own 3 (by omega) (by omega); rwa [show ((sumOf a b).hi.take k).length = k from LK3.out] at h
              obtain ⟨za3, zd3, sh3, hc3, hm3, -⟩ := own_cells o3
              have q3 : (zw2.setCell ⟨w2.heap.size, 2, none⟩ (.slice zb2 (k + 1) ze2)).cell? ⟨w2.heap.size, 3, none⟩ = some (V 3) := (HB2.out.cj 3 (by omega) (by omega))
              rw [sh3] at q3 o3; clear hc3 hm3
              go_wp2_with (at_builtin; refine stop_here ?_)
              refine go_on ?_
              refine app_own_at (.tmp 120) (.tmp 122) 23 23 rfl rfl (w2.heap.size + 1) 3 i0 (.int .i64 0) 1 8 Try.underlying23 hi hz0 hz1 hz2 rfl (by decide) (.slice za3 (k) zd3) _ _ rfl (o3.alloc _) (.slice (some ⟨zw2.heap.size, 0, none⟩) 1 1) 1 (ivals [hb]) rfl (Src.ofSlice _ Try.underlying23 _ 1 1 _ rfl (cell_one_at _ _ _ (by simp [World.setCell])) (by simp [ivals]; rfl)) (by first | omega | (simp only [maxLen]; omega)) (by first | omega | (simp only [maxLen]; omega)) (by rw [World.size_alloc]; omega) ?_
              intro zv3 zw3 hown3 hg3 _ hat3
              rw [← sh3] at hg3 hat3
              obtain ⟨mm3, ff3, st3, far3⟩ := HB2.out.step 3 (by omega) (by omega) (bl1 _ _) hown3 hg3 hat3
              obtain ⟨zb3, ze3, rfl, -, -, -⟩ := own_cells hown3
              replace mm3 : zw3.cell? ⟨w2.heap.size, 3, none⟩ = some (.slice za3 (k) zd3) := mm3.trans (congrArg some sh3)
              have HB3 := hid st3; have HF3 := hid far3; clear st3 far3 hown3 hg3 hat3 q3 o3 sh3
              go_wp2
              go_roundw
              case rel => exact ⟨k + 1, _, by omega, by go_num, HYES.out hok, bld_same HB3.out (fun _ _ _ => rfl) (three_of E1.out.symm E2.out.symm E3.out.symm), HF3.out _ _ (by omega) (by omega) (HF2.out _ _ (by omega) (by omega) (HF1.out _ _ (by omega) (by omega) (HWr.out.trans (B3.out.mono (by omega)))))⟩
              case measure => simp [intOf]; omega
            · skip
              have sz1 : w2.heap.size + 1 ≤ (w3).heap.size := HK3.out.hs
              have o1 : (w3).ownsRow (w2.heap.size + 1) 3 1 (V 1) (k) (ivals ((sumOf a b).s.take k)) := by have h : (w3).ownsRow (w2.heap.size + 1) 3 1 (V 1) ((sumOf a b).s.take k).length (ivals ((sumOf a b).s.take k)) := HK3.out.own 1 (by omega) (by omega); rwa [show ((sumOf a b).s.take k).length = k from LK1.out] at h
              obtain ⟨za1, zd1, sh1, hc1, hm1, -⟩ := own_cells o1
              have q1 : (w3).cell? ⟨w2.heap.size, 1, none⟩ = some (V 1) := (HK3.out.cj 1 (by omega) (by omega))
              rw [sh1] at q1 o1; clear hc1 hm1
              go_wp2_with (at_builtin; refine stop_here ?_)
              refine go_on ?_
              refine app_own_at (.tmp 108) (.tmp 110) 23 23 rfl rfl (w2.heap.size + 1) 3 i0 (.int .i64 0) 1 8 Try.underlying23 hi hz0 hz1 hz2 rfl (by decide) (.slice za1 (k) zd1) _ _ rfl (o1.alloc _) (.slice (some ⟨w3.heap.size, 0, none⟩) 1 1) 1 (ivals [xa + xb]) rfl (Src.ofSlice _ Try.underlying23 _ 1 1 _ rfl (cell_one_at _ _ _ rfl) (by simp [ivals]; rfl)) (by first | omega | (simp only [maxLen]; omega)) (by first | omega | (simp only [maxLen]; omega)) (by rw [World.size_alloc]; omega) ?_
              intro zv1 zw1 hown1 hg1 _ hat1
              rw [← sh1] at hg1 hat1
              obtain ⟨mm1, ff1, st1, far1⟩ := HK3.out.step 1 (by omega) (by omega) (bl1 _ _) hown1 hg1 hat1
              obtain ⟨zb1, ze1, rfl, -, -, -⟩ := own_cells hown1
              replace mm1 : zw1.cell? ⟨w2.heap.size, 1, none⟩ = some (.slice za1 (k) zd1) := mm1.trans (congrArg some sh1)
              have HB1 := hid st1; have HF1 := hid far1; clear st1 far1 hown1 hg1 hat1 q1 o1 sh1
              have sz2 : w2.heap.size + 1 ≤ (zw1.setCell ⟨w2.heap.size, 1, none⟩ (.slice zb1 (k + 1) ze1)).heap.size := HB1.out.hs
              have o2 : (zw1.setCell ⟨w2.heap.size, 1, none⟩ (.slice zb1 (k + 1) ze1)).ownsRow (w2.heap.size + 1) 3 1 (V 2) (k) (ivals ((sumOf a b).lo.take k)) := by have h : (zw1.setCell ⟨w2.heap.size, 1, none⟩ (.slice zb1 (k + 1) ze1)).ownsRow (w2.heap.size + 1) 3 1 (V 2) ((sumOf a b).lo.take k).length (ivals ((sumOf a b).lo.take k)) := HB1.out.own 2 (by omega) (by omega); rwa [show ((sumOf a b).lo.take k).length = k from LK2.out] at h
              obtain ⟨za2, zd2, sh2, hc2, hm2, -⟩ := own_cells o2
              have q2 : (zw1.setCell ⟨w2.heap.size, 1, none⟩ (.slice zb1 (k + 1) ze1)).cell? ⟨w2.heap.size, 2, none⟩ = some (V 2) := (HB1.out.cj 2 (by omega) (by omega))
              rw [sh2] at q2 o2; clear hc2 hm2
              go_wp2_with (at_builtin; refine stop_here ?_)
              refine go_on ?_
              refine app_own_at (.tmp 114) (.tmp 116) 23 23 rfl rfl (w2.heap.size + 1) 3 i0 (.int .i64 0) 1 8 Try.underlying23 hi hz0 hz1 hz2 rfl (by decide) (.slice za2 (k) zd2) _ _ rfl (o2.alloc _) (.slice (some ⟨zw1.heap.size, 0, none⟩) 1 1) 1 (ivals [la]) rfl (Src.ofSlice _ Try.underlying23 _ 1 1 _ rfl (cell_one_at _ _ _ (by simp [World.setCell])) (by simp [ivals]; rfl)) (by first | omega | (simp only [maxLen]; omega)) (by first | omega | (simp only [maxLen]; omega)) (by rw [World.size_alloc]; omega) ?_
              intro zv2 zw2 hown2 hg2 _ hat2
              rw [← sh2] at hg2 hat2
              obtain ⟨mm2, ff2, st2, far2⟩ := HB1.out.step 2 (by omega) (by omega) (bl1 _ _) hown2 hg2 hat2
              obtain ⟨zb2, ze2, rfl, -, -, -⟩ := own_cells hown2
              replace mm2 : zw2.cell? ⟨w2.heap.size, 2, none⟩ = some (.slice za2 (k) zd2) := mm2.trans (congrArg some sh2)
              have HB2 := hid st2; have HF2 := hid far2; clear st2 far2 hown2 hg2 hat2 q2 o2 sh2
              have sz3 : w2.heap.size + 1 ≤ (zw2.setCell ⟨w2.heap.size, 2, none⟩ (.slice zb2 (k + 1) ze2)).heap.size := HB2.out.hs
              have o3 : (zw2.setCell ⟨w2.heap.size, 2, none⟩ (.slice zb2 (k + 1) ze2)).ownsRow (w2.heap.size + 1) 3 1 (V 3) (k) (ivals ((sumOf a b).hi.take k)) := by have h : (zw2.setCell ⟨w2.heap.size, 2, none⟩ (.slice zb2 (k + 1) ze2)).ownsRow (w2.heap.size + 1) 3 1 (V 3) ((sumOf a b).hi.take k).length (ivals ((sumOf a b).hi.take k)) := HB2.out.own 3 (by omega) (by omega); rwa [show ((sumOf a b).hi.take k).length = k from LK3.out] at h
              obtain ⟨za3, zd3, sh3, hc3, hm3, -⟩ := own_cells o3
              have q3 : (zw2.setCell ⟨w2.heap.size, 2, none⟩ (.slice zb2 (k + 1) ze2)).cell? ⟨w2.heap.size, 3, none⟩ = some (V 3) := (HB2.out.cj 3 (by omega) (by omega))
              rw [sh3] at q3 o3; clear hc3 hm3
              go_wp2_with (at_builtin; refine stop_here ?_)
              refine go_on ?_
              refine app_own_at (.tmp 120) (.tmp 122) 23 23 rfl rfl (w2.heap.size + 1) 3 i0 (.int .i64 0) 1 8 Try.underlying23 hi hz0 hz1 hz2 rfl (by decide) (.slice za3 (k) zd3) _ _ rfl (o3.alloc _) (.slice (some ⟨zw2.heap.size, 0, none⟩) 1 1) 1 (ivals [ha]) rfl (Src.ofSlice _ Try.underlying23 _ 1 1 _ rfl (cell_one_at _ _ _ (by simp [World.setCell])) (by simp [ivals]; rfl)) (by first | omega | (simp only [maxLen]; omega)) (by first | omega | (simp only [maxLen]; omega)) (by rw [World.size_alloc]; omega) ?_
              intro zv3 zw3 hown3 hg3 _ hat3
              rw [← sh3] at hg3 hat3
              obtain ⟨mm3, ff3, st3, far3⟩ := HB2.out.step 3 (by omega) (by omega) (bl1 _ _) hown3 hg3 hat3
              obtain ⟨zb3, ze3, rfl, -, -, -⟩ := own_cells hown3
              replace mm3 : zw3.cell? ⟨w2.heap.size, 3, none⟩ = some (.slice za3 (k) zd3) := mm3.trans (congrArg some sh3)
              have HB3 := hid st3; have HF3 := hid far3; clear st3 far3 hown3 hg3 hat3 q3 o3 sh3
              go_wp2
              go_roundw
              case rel => exact ⟨k + 1, _, by omega, by go_num, HYES.out hok, bld_same HB3.out (fun _ _ _ => rfl) (three_of E1.out.symm E2.out.symm E3.out.symm), HF3.out _ _ (by omega) (by omega) (HF2.out _ _ (by omega) (by omega) (HF1.out _ _ (by omega) (by omega) (HWr.out.trans (B3.out.mono (by omega)))))⟩
              case measure => simp [intOf]; omega
        · obtain rfl : k = a.s.length := by omega
          have hz : X4 (sumOf a b).s (sumOf a b).lo (sumOf a b).hi a.s.length 1 = (sumOf a b).s ∧ X4 (sumOf a b).s (sumOf a b).lo (sumOf a b).hi a.s.length 2 = (sumOf a b).lo ∧ X4 (sumOf a b).s (sumOf a b).lo (sumOf a b).hi a.s.length 3 = (sumOf a b).hi := by
            have h1 := HFU.out.a2; have h2 := HFU.out.a3
            refine ⟨List.take_of_length_le ?_, List.take_of_length_le ?_, List.take_of_length_le ?_⟩ <;> simp [sumOf] <;> omega
          by_cases hn : 1099511627776 < a.n + b.n
          · have hr := HR.out
            rw [HFU.out.big hn, if_neg (by simp)] at hr
            have HRR := hid hr
            have hbel := fun v0 v1 v2 v3 => fin4 (b := w.heap.size + 1 + 1) HWW.out (by omega) (by omega) v0 v1 v2 v3
            have HBL := hid hbel; clear hbel hr hz
            go_wp2
            exact bodyPost_ret (v := .tuple #[.agg #[.int .i64 0, .slice none 0 0, .slice none 0 0, .slice none 0 0], .int .i64 14]) (by simp [results, Try.results88, go_sem, r0, r1, r2, r3]; done) rfl (opost HRR.out rfl (OwnC.nil_ _ _) (HBL.out _ _ _ _))
          · have hr := HR.out
            rw [HFU.out.yes HA.out (by omega), if_pos rfl] at hr
            have HRR := hid hr
            have q1 := HBl.out.cj 1 (by omega) (by omega)
            have q2 := HBl.out.cj 2 (by omega) (by omega)
            have q3 := HBl.out.cj 3 (by omega) (by omega)
            have ow := HBl.out.own
            obtain ⟨e1, g1, sh1, -, -, -⟩ := own_cells (ow 1 (by omega) (by omega))
            obtain ⟨e2, g2, sh2, -, -, -⟩ := own_cells (ow 2 (by omega) (by omega))
            obtain ⟨e3, g3, sh3, -, -, -⟩ := own_cells (ow 3 (by omega) (by omega))
            have hbel := fun v0 v1 v2 v3 => fin4 (b := w.heap.size + 1 + 1) HWW.out (by omega) (by omega) v0 v1 v2 v3
            have hres := fun v0 v1 v2 v3 => (HBl.out.upd (upd4 (w.heap.size + 1 + 1) wr v0 v1 v2 v3) (by omega) (by omega)).ownC.le (H' := w.heap.size) (by omega)
            rw [hz.1, hz.2.1, hz.2.2] at hres
            generalize (X4 (sumOf a b).s (sumOf a b).lo (sumOf a b).hi a.s.length 1).length = m1 at *
            generalize (X4 (sumOf a b).s (sumOf a b).lo (sumOf a b).hi a.s.length 2).length = m2 at *
            generalize (X4 (sumOf a b).s (sumOf a b).lo (sumOf a b).hi a.s.length 3).length = m3 at *
            rw [sh1, sh2, sh3] at hres
            rw [sh1] at q1
            rw [sh2] at q2
            rw [sh3] at q3
            have HRES := hid hres; have HBL := hid hbel; clear hres hbel hr hz sh1 sh2 sh3 ow
            go_wp2
            exact bodyPost_ret (v := .tuple #[.agg #[.int .i64 (a.n + b.n), .slice e1 m1 g1, .slice e2 m2 g2, .slice e3 m3 g3], .int .i64 0]) (by simp [results, Try.results88, go_sem, r0, r1, r2, r3]; done) rfl (opost HRR.out rfl (HRES.out _ _ _ _) (HBL.out _ _ _ _))
end Go.Proofs.Ytclhnnidbhchnaa
