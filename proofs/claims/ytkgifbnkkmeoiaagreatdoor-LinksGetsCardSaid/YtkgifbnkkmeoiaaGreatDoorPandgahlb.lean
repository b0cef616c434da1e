/- 1 text of this claim, in build order. -/
import Derived.Test.YtkgifbnkkmeoiaaGreatDoorPkcimcobf
import Derived.Test.YtkgifbnkkmeoiaaGreatDoorPmofcooje
/- The reference's ReadCmd and ReadEntry. -/
namespace Go.Proofs.YtkgifbnkkmeoiaaGreatDoor
open Go.ChangeShapes Go.WideShapes Go.ChangeAt Go.RowKit
set_option linter.unusedVariables false
set_option linter.unusedSimpArgs false

set_option maxRecDepth 100000 in
set_option maxHeartbeats 1600000 in
theorem refReadCmd_any (B p : Nat) (l : List UInt8) (a : Nat) (e : Int) (w : World) (h : RW w B p l a e) (hll : l.length ≤ 1000000) :
    Calls Tryz.prog 68 #[.pointer (some ⟨p, 0, none⟩)] w (CmdP (cmdR l a e) B p l w) := by
  have hp := h.lt
  obtain ⟨q, hq⟩ : ∃ q, q = w.heap.size := ⟨_, rfl⟩
  obtain ⟨W0, hW0⟩ : ∃ W, W = (w.alloc (.cells #[(.int .i64 0), (.int .i64 0), (.int .i64 0), (.slice none 0 0)] 47)).alloc (.cells #[(.int .i64 0), (.int .i64 0), (.int .i64 0), (.slice none 0 0)] 47) := ⟨_, rfl⟩
  have hb0 : Below w.heap.size w W0 := by rw [hW0]; exact (bl1 _ _).trans ((bl1 _ _).mono (by simp))
  have F00 : BoxN w (w.alloc (.cells #[(.int .i64 0), (.int .i64 0), (.int .i64 0), (.slice none 0 0)] 47)) p q [(.int .i64 0), (.int .i64 0), (.int .i64 0), (.slice none 0 0)] := by rw [hq]; exact BoxN.new (Upd.refl _ _) hp
  have F0 : BoxN w W0 p q [(.int .i64 0), (.int .i64 0), (.int .i64 0), (.slice none 0 0)] := by rw [hW0]; exact F00.over hp ((bl1 _ _).mono (by simp; omega))
  have G0 : BoxN w W0 p (q + 1) [(.int .i64 0), (.int .i64 0), (.int .i64 0), (.slice none 0 0)] := by
    have h := BoxN.new (w1 := w.alloc (.cells #[(.int .i64 0), (.int .i64 0), (.int .i64 0), (.slice none 0 0)] 47)) (cs := #[(.int .i64 0), (.int .i64 0), (.int .i64 0), (.slice none 0 0)]) (t := 47) F00.upd hp
    rw [World.size_alloc, ← hq] at h
    rw [hW0]; exact h
  have RW0 := hid (show RW W0 B p l a e from h.keep (hb0.mono (by omega)))
  obtain ⟨r, hr⟩ : ∃ r, r = cmdR l a e := ⟨_, rfl⟩
  rw [← hr]
  unfold cmdR at hr
  obtain ⟨r1, hr1⟩ : ∃ r1, r1 = rInt l a e 0 3 := ⟨_, rfl⟩
  have HI1 := hid (fun W (hW : RW W B p l a e) => refReadInt_any B p l a e 0 3 W hW)
  rw [← hr1] at HI1 hr
  obtain ⟨o, a1, e1⟩ := r1
  unfold RIntPost at HI1
  simp only at hr HI1
  obtain ⟨r2, hr2⟩ : ∃ r2, r2 = rInt l a1 e1 0 1099511627776 := ⟨_, rfl⟩
  have HI2 := hid (fun W (hW : RW W B p l a1 e1) => refReadInt_any B p l a1 e1 0 1099511627776 W hW)
  rw [← hr2] at HI2 hr
  obtain ⟨s, a2, e2⟩ := r2
  unfold RIntPost at HI2
  simp only at hr HI2
  obtain ⟨r3, hr3⟩ : ∃ r3, r3 = rInt l a2 e2 0 1099511627776 := ⟨_, rfl⟩
  have HI3 := hid (fun W (hW : RW W B p l a2 e2) => refReadInt_any B p l a2 e2 0 1099511627776 W hW)
  rw [← hr3] at HI3 hr
  obtain ⟨t, a3, e3⟩ := r3
  unfold RIntPost at HI3
  simp only at hr HI3
  have HI4 := hid (fun W (hW : RW W B p l a3 e3) => refReadBt_any B p l a3 e3 W hW hll)
  generalize readB l a3 e3 = r4 at *
  obtain ⟨fs, a4, e4⟩ := r4
  unfold ReadBPost at HI4
  simp only at HI4 hr
  have HF0 := hid F0; have HG0 := hid G0; have HW0 := hid hW0; have HR := hid hr; have HQ := hid hq
  have hpq : p < q := by omega
  have hpw : p < w.heap.size := by omega
  have hqN : q < q + 1 := by omega
  obtain ⟨N, hN⟩ : ∃ N, N = q + 1 := ⟨_, rfl⟩
  rw [← hN] at HG0 hqN
  have HN := hid hN
  clear hr1 hr2 hr3 hr hb0 hW0 hq F0 G0 F00 h hN
  go_enter Tryz.func68, Tryz.ntmps68
  go_upto_region 2 with (fail)
  rw [← HW0.out, ← HQ.out, ← HN.out]
  go_wp2_with fail
  refine (HI1.out W0 RW0.out).mono ?_
  rintro en w1 ⟨rfl, hrw, hu⟩
  have HFa := hid (HF0.out.move hpw hu); have HGa := hid (HG0.out.move hpw hu); have RWa := hid hrw
  obtain ⟨g0, z0⟩ := HGa.out.c 0 _ rfl
  clear hrw hu
  obtain ⟨V1, hV⟩ : ∃ W, W = w1.setCell ⟨N, 0, none⟩ (.int .i64 o) := ⟨_, rfl⟩
  have HG1 := hid (show BoxN w V1 p N [(.int .i64 o), (.int .i64 0), (.int .i64 0), (.slice none 0 0)] by rw [hV]; exact HGa.out.set 0 (by simp) _)
  have HF1 := hid (show BoxN w V1 p q [(.int .i64 0), (.int .i64 0), (.int .i64 0), (.slice none 0 0)] by rw [hV]; exact HFa.out.far hpw hqN _)
  have RW1 := hid (show RW V1 B p l a1 e1 by rw [hV]; exact RWa.out.set (by omega) _)
  have HV1 := hid hV
  clear hV HFa HGa RWa
  go_upto_region 3 with (fail)
  rw [← HV1.out]
  clear g0 z0
  go_wp2_with fail
  refine (HI2.out V1 RW1.out).mono ?_
  rintro en w2 ⟨rfl, hrw, hu⟩
  have HFa := hid (HF1.out.move hpw hu); have HGa := hid (HG1.out.move hpw hu); have RWa := hid hrw
  obtain ⟨g1, z1⟩ := HGa.out.c 1 _ rfl
  clear hrw hu
  obtain ⟨V2, hV⟩ : ∃ W, W = w2.setCell ⟨N, 1, none⟩ (.int .i64 s) := ⟨_, rfl⟩
  have HG2 := hid (show BoxN w V2 p N [(.int .i64 o), (.int .i64 s), (.int .i64 0), (.slice none 0 0)] by rw [hV]; exact HGa.out.set 1 (by simp) _)
  have HF2 := hid (show BoxN w V2 p q [(.int .i64 0), (.int .i64 0), (.int .i64 0), (.slice none 0 0)] by rw [hV]; exact HFa.out.far hpw hqN _)
  have RW2 := hid (show RW V2 B p l a2 e2 by rw [hV]; exact RWa.out.set (by omega) _)
  have HV2 := hid hV
  clear hV HFa HGa RWa
  go_upto_region 4 with (fail)
  rw [← HV2.out]
  clear g1 z1
  go_wp2_with fail
  refine (HI3.out V2 RW2.out).mono ?_
  rintro en w3 ⟨rfl, hrw, hu⟩
  have HFa := hid (HF2.out.move hpw hu); have HGa := hid (HG2.out.move hpw hu); have RWa := hid hrw
  obtain ⟨g2, z2⟩ := HGa.out.c 2 _ rfl
  clear hrw hu
  obtain ⟨V3, hV⟩ : ∃ W, W = w3.setCell ⟨N, 2, none⟩ (.int .i64 t) := ⟨_, rfl⟩
  have HG3 := hid (show BoxN w V3 p N [(.int .i64 o), (.int .i64 s), (.int .i64 t), (.slice none 0 0)] by rw [hV]; exact HGa.out.set 2 (by simp) _)
  have HF3 := hid (show BoxN w V3 p q [(.int .i64 0), (.int .i64 0), (.int .i64 0), (.slice none 0 0)] by rw [hV]; exact HFa.out.far hpw hqN _)
  have RW3 := hid (show RW V3 B p l a3 e3 by rw [hV]; exact RWa.out.set (by omega) _)
  have HV3 := hid hV
  clear hV HFa HGa RWa
  go_upto_region 5 with (fail)
  rw [← HV3.out]
  clear g2 z2
  have hzV : V3.heap.size = V3.heap.size := rfl
  go_wp2_with fail
  refine (HI4.out V3 RW3.out).mono ?_
  rintro en w5 ⟨v5, rfl, hc5, hrw5, hu5⟩
  obtain ⟨Af, kf, rfl⟩ := hc5.form
  have hNV : N < V3.heap.size := HG3.out.lt
  have HF5 := hid (HF3.out.move hpw hu5); have HG5 := hid (HG3.out.move hpw hu5); have HC5 := hid hc5; have RW5 := hid hrw5
  obtain ⟨g3, z3⟩ := HG5.out.c 3 _ rfl
  clear hc5 hrw5 hu5
  obtain ⟨W6, hW6⟩ : ∃ W, W = (w5.setCell ⟨N, 3, none⟩ (.slice Af fs.length kf)) := ⟨_, rfl⟩
  have HG6 := hid (show BoxN w W6 p N [(.int .i64 o), (.int .i64 s), (.int .i64 t), (.slice Af fs.length kf)] by rw [hW6]; exact (HG5.out.set 3 (by simp) _))
  have HF6 := hid (show BoxN w W6 p q [(.int .i64 0), (.int .i64 0), (.int .i64 0), (.slice none 0 0)] by rw [hW6]; exact (HF5.out.far hpw hqN _))
  have RW7 := hid (show RW W6 B p l a4 e4 by rw [hW6]; exact (RW5.out.set (by omega) _))
  have HC7 := hid (show CRow W6 V3.heap.size (.slice Af fs.length kf) fs by rw [hW6]; exact (HC5.out.set (by omega) _))
  have HW6 := hid hW6
  clear hW6
  have HF7 := HF6
  go_upto_region 6 with (fail)
  rw [← HW6.out]
  have pe := RW7.out.cellE
  clear g3 z3
  obtain ⟨f0, y0⟩ := HF6.out.c 0 _ rfl; obtain ⟨f1, y1⟩ := HF6.out.c 1 _ rfl; obtain ⟨f2, y2⟩ := HF6.out.c 2 _ rfl; obtain ⟨f3, y3⟩ := HF6.out.c 3 _ rfl
  obtain ⟨g0, -⟩ := HG6.out.c 0 _ rfl; obtain ⟨g1, -⟩ := HG6.out.c 1 _ rfl; obtain ⟨g2, -⟩ := HG6.out.c 2 _ rfl; obtain ⟨g3, -⟩ := HG6.out.c 3 _ rfl
  by_cases he : e4 = 0
  · have t1 : (e4 != 0) = false := by simp [he]
    have HR2 := hid (show r = ((o, s, t, fs), a4, e4) by rw [HR.out, if_pos he])
    clear he
    go_wp2
    obtain ⟨W8, hW8⟩ : ∃ W, W = (((W6.setCell ⟨q, 0, none⟩ (.int .i64 o)).setCell ⟨q, 1, none⟩ (.int .i64 s)).setCell ⟨q, 2, none⟩ (.int .i64 t)).setCell ⟨q, 3, none⟩ (.slice Af fs.length kf) := ⟨_, rfl⟩
    rw [← hW8]
    have F8 : BoxN w W8 p q [(.int .i64 o), (.int .i64 s), (.int .i64 t), (.slice Af fs.length kf)] := by
      rw [hW8]
      exact ((((HF7.out.set 0 (by simp) _).set 1 (by simp) _).set 2 (by simp) _).set 3 (by simp) _)
    have R8 : RW W8 B p l a4 e4 := by
      rw [hW8]
      exact ((((RW7.out.set hpq _).set hpq _).set hpq _).set hpq _)
    have C8 : CRow W8 V3.heap.size (.slice Af fs.length kf) fs := by
      rw [hW8]
      exact ((((HC7.out.set (by omega) _).set (by omega) _).set (by omega) _).set (by omega) _)
    have s0 := (F8.c 0 _ rfl).1; have s1 := (F8.c 1 _ rfl).1; have s2 := (F8.c 2 _ rfl).1; have s3 := (F8.c 3 _ rfl).1
    refine bodyPost_ret (v := .agg #[(.int .i64 o), (.int .i64 s), (.int .i64 t), (.slice Af fs.length kf)]) ?_ rfl ?_
    · simp [results, Tryz.results68, go_sem, s0, s1, s2, s3]
    · rw [HR2.out]
      exact ⟨Af, kf, rfl, C8.less (by have := HQ.out; have := HN.out; omega), R8, F8.upd⟩
  · have t1 : (e4 != 0) = true := by simpa using he
    have HR2 := hid (show r = (c0X, a4, e4) by rw [HR.out, if_neg he])
    clear he
    go_wp2
    obtain ⟨W8, hW8⟩ : ∃ W, W = (((W6.setCell ⟨q, 0, none⟩ (.int .i64 0)).setCell ⟨q, 1, none⟩ (.int .i64 0)).setCell ⟨q, 2, none⟩ (.int .i64 0)).setCell ⟨q, 3, none⟩ (.slice none 0 0) := ⟨_, rfl⟩
    rw [← hW8]
    have F8 : BoxN w W8 p q [(.int .i64 0), (.int .i64 0), (.int .i64 0), (.slice none 0 0)] := by
      rw [hW8]
      exact ((((HF7.out.set 0 (by simp) _).set 1 (by simp) _).set 2 (by simp) _).set 3 (by simp) _)
    have R8 : RW W8 B p l a4 e4 := by
      rw [hW8]
      exact ((((RW7.out.set hpq _).set hpq _).set hpq _).set hpq _)
    have s0 := (F8.c 0 _ rfl).1; have s1 := (F8.c 1 _ rfl).1; have s2 := (F8.c 2 _ rfl).1; have s3 := (F8.c 3 _ rfl).1
    refine bodyPost_ret (v := .agg #[(.int .i64 0), (.int .i64 0), (.int .i64 0), (.slice none 0 0)]) ?_ rfl ?_
    · simp [results, Tryz.results68, go_sem, s0, s1, s2, s3]
    · rw [HR2.out]
      exact ⟨none, 0, rfl, CRow.nil_ _ _, R8, F8.upd⟩
set_option maxRecDepth 100000 in
set_option maxHeartbeats 1600000 in
theorem refReadEnt_any (B p : Nat) (l : List UInt8) (a : Nat) (e : Int) (w : World) (h : RW w B p l a e) (hll : l.length ≤ 1000000) :
    Calls Tryz.prog 42 #[.pointer (some ⟨p, 0, none⟩)] w (EntP (entR l a e) B p l w) := by
  have hp := h.lt
  obtain ⟨q, hq⟩ : ∃ q, q = w.heap.size := ⟨_, rfl⟩
  obtain ⟨W0, hW0⟩ : ∃ W, W = (w.alloc (.cells #[(.int .i64 0), (.int .i64 0), (.int .i64 0), (.int .i64 0), (.int .i64 0), (.slice none 0 0)] 49)).alloc (.cells #[(.int .i64 0), (.int .i64 0), (.int .i64 0), (.int .i64 0), (.int .i64 0), (.slice none 0 0)] 49) := ⟨_, rfl⟩
  have hb0 : Below w.heap.size w W0 := by rw [hW0]; exact (bl1 _ _).trans ((bl1 _ _).mono (by simp))
  have F00 : BoxN w (w.alloc (.cells #[(.int .i64 0), (.int .i64 0), (.int .i64 0), (.int .i64 0), (.int .i64 0), (.slice none 0 0)] 49)) p q [(.int .i64 0), (.int .i64 0), (.int .i64 0), (.int .i64 0), (.int .i64 0), (.slice none 0 0)] := by rw [hq]; exact BoxN.new (Upd.refl _ _) hp
  have F0 : BoxN w W0 p q [(.int .i64 0), (.int .i64 0), (.int .i64 0), (.int .i64 0), (.int .i64 0), (.slice none 0 0)] := by rw [hW0]; exact F00.over hp ((bl1 _ _).mono (by simp; omega))
  have G0 : BoxN w W0 p (q + 1) [(.int .i64 0), (.int .i64 0), (.int .i64 0), (.int .i64 0), (.int .i64 0), (.slice none 0 0)] := by
    have h := BoxN.new (w1 := w.alloc (.cells #[(.int .i64 0), (.int .i64 0), (.int .i64 0), (.int .i64 0), (.int .i64 0), (.slice none 0 0)] 49)) (cs := #[(.int .i64 0), (.int .i64 0), (.int .i64 0), (.int .i64 0), (.int .i64 0), (.slice none 0 0)]) (t := 49) F00.upd hp
    rw [World.size_alloc, ← hq] at h
    rw [hW0]; exact h
  have RW0 := hid (show RW W0 B p l a e from h.keep (hb0.mono (by omega)))
  obtain ⟨r, hr⟩ : ∃ r, r = entR l a e := ⟨_, rfl⟩
  rw [← hr]
  unfold entR at hr
  obtain ⟨r1, hr1⟩ : ∃ r1, r1 = rInt l a e 1 1099511627776 := ⟨_, rfl⟩
  have HI1 := hid (fun W (hW : RW W B p l a e) => refReadInt_any B p l a e 1 1099511627776 W hW)
  rw [← hr1] at HI1 hr
  obtain ⟨o, a1, e1⟩ := r1
  unfold RIntPost at HI1
  simp only at hr HI1
  obtain ⟨r2, hr2⟩ : ∃ r2, r2 = rInt l a1 e1 1 1099511627776 := ⟨_, rfl⟩
  have HI2 := hid (fun W (hW : RW W B p l a1 e1) => refReadInt_any B p l a1 e1 1 1099511627776 W hW)
  rw [← hr2] at HI2 hr
  obtain ⟨s, a2, e2⟩ := r2
  unfold RIntPost at HI2
  simp only at hr HI2
  have HI4 := hid (fun W (hW : RW W B p l a2 e2) => refReadCmd_any B p l a2 e2 W hW hll)
  generalize cmdR l a2 e2 = r4 at *
  obtain ⟨⟨c1, c2, c3, fs⟩, a4, e4⟩ := r4
  unfold CmdP cmdVs at HI4
  simp only at HI4 hr
  have HF0 := hid F0; have HG0 := hid G0; have HW0 := hid hW0; have HR := hid hr; have HQ := hid hq
  have hpq : p < q := by omega
  have hpw : p < w.heap.size := by omega
  have hqN : q < q + 1 := by omega
  obtain ⟨N, hN⟩ : ∃ N, N = q + 1 := ⟨_, rfl⟩
  rw [← hN] at HG0 hqN
  have HN := hid hN
  clear hr1 hr2 hr hb0 hW0 hq F0 G0 F00 h hN
  go_enter Tryz.func42, Tryz.ntmps42
  go_upto_region 2 with (fail)
  rw [← HW0.out, ← HQ.out, ← HN.out]
  go_wp2_with fail
  refine (HI1.out W0 RW0.out).mono ?_
  rintro en w1 ⟨rfl, hrw, hu⟩
  have HFa := hid (HF0.out.move hpw hu); have HGa := hid (HG0.out.move hpw hu); have RWa := hid hrw
  obtain ⟨g0, z0⟩ := HGa.out.c 0 _ rfl
  clear hrw hu
  obtain ⟨V1, hV⟩ : ∃ W, W = w1.setCell ⟨N, 0, none⟩ (.int .i64 o) := ⟨_, rfl⟩
  have HG1 := hid (show BoxN w V1 p N [(.int .i64 o), (.int .i64 0), (.int .i64 0), (.int .i64 0), (.int .i64 0), (.slice none 0 0)] by rw [hV]; exact HGa.out.set 0 (by simp) _)
  have HF1 := hid (show BoxN w V1 p q [(.int .i64 0), (.int .i64 0), (.int .i64 0), (.int .i64 0), (.int .i64 0), (.slice none 0 0)] by rw [hV]; exact HFa.out.far hpw hqN _)
  have RW1 := hid (show RW V1 B p l a1 e1 by rw [hV]; exact RWa.out.set (by omega) _)
  have HV1 := hid hV
  clear hV HFa HGa RWa
  go_upto_region 3 with (fail)
  rw [← HV1.out]
  clear g0 z0
  go_wp2_with fail
  refine (HI2.out V1 RW1.out).mono ?_
  rintro en w2 ⟨rfl, hrw, hu⟩
  have HFa := hid (HF1.out.move hpw hu); have HGa := hid (HG1.out.move hpw hu); have RWa := hid hrw
  obtain ⟨g1, z1⟩ := HGa.out.c 1 _ rfl
  clear hrw hu
  obtain ⟨V2, hV⟩ : ∃ W, W = w2.setCell ⟨N, 1, none⟩ (.int .i64 s) := ⟨_, rfl⟩
  have HG2 := hid (show BoxN w V2 p N [(.int .i64 o), (.int .i64 s), (.int .i64 0), (.int .i64 0), (.int .i64 0), (.slice none 0 0)] by rw [hV]; exact HGa.out.set 1 (by simp) _)
  have HF2 := hid (show BoxN w V2 p q [(.int .i64 0), (.int .i64 0), (.int .i64 0), (.int .i64 0), (.int .i64 0), (.slice none 0 0)] by rw [hV]; exact HFa.out.far hpw hqN _)
  have RW2 := hid (show RW V2 B p l a2 e2 by rw [hV]; exact RWa.out.set (by omega) _)
  have HV2 := hid hV
  clear hV HFa HGa RWa
  go_upto_region 4 with (fail)
  rw [← HV2.out]
  clear g1 z1
  have hzV : V2.heap.size = V2.heap.size := rfl
  go_wp2_with fail
  refine (HI4.out V2 RW2.out).mono ?_
  rintro en w5 ⟨Af, kf, rfl, hc5, hrw5, hu5⟩
  have hNV : N < V2.heap.size := HG2.out.lt
  have HF5 := hid (HF2.out.move hpw hu5); have HG5 := hid (HG2.out.move hpw hu5); have HC5 := hid hc5; have RW5 := hid hrw5
  obtain ⟨g2, z2⟩ := HG5.out.c 2 _ rfl; obtain ⟨g3, z3⟩ := HG5.out.c 3 _ rfl; obtain ⟨g4, z4⟩ := HG5.out.c 4 _ rfl; obtain ⟨g5, z5⟩ := HG5.out.c 5 _ rfl
  clear hc5 hrw5 hu5
  obtain ⟨W6, hW6⟩ : ∃ W, W = ((((w5.setCell ⟨N, 2, none⟩ (.int .i64 c1)).setCell ⟨N, 3, none⟩ (.int .i64 c2)).setCell ⟨N, 4, none⟩ (.int .i64 c3)).setCell ⟨N, 5, none⟩ (.slice Af fs.length kf)) := ⟨_, rfl⟩
  have HG6 := hid (show BoxN w W6 p N [(.int .i64 o), (.int .i64 s), (.int .i64 c1), (.int .i64 c2), (.int .i64 c3), (.slice Af fs.length kf)] by rw [hW6]; exact ((((HG5.out.set 2 (by simp) _).set 3 (by simp) _).set 4 (by simp) _).set 5 (by simp) _))
  have HF6 := hid (show BoxN w W6 p q [(.int .i64 0), (.int .i64 0), (.int .i64 0), (.int .i64 0), (.int .i64 0), (.slice none 0 0)] by rw [hW6]; exact ((((HF5.out.far hpw hqN _).far hpw hqN _).far hpw hqN _).far hpw hqN _))
  have RW7 := hid (show RW W6 B p l a4 e4 by rw [hW6]; exact ((((RW5.out.set (by omega) _).set (by omega) _).set (by omega) _).set (by omega) _))
  have HC7 := hid (show CRow W6 V2.heap.size (.slice Af fs.length kf) fs by rw [hW6]; exact ((((HC5.out.set (by omega) _).set (by omega) _).set (by omega) _).set (by omega) _))
  have HW6 := hid hW6
  clear hW6
  have HF7 := HF6
  go_upto_region 5 with (fail)
  rw [← HW6.out]
  have pe := RW7.out.cellE
  clear g2 z2 g3 z3 g4 z4 g5 z5
  obtain ⟨f0, y0⟩ := HF6.out.c 0 _ rfl; obtain ⟨f1, y1⟩ := HF6.out.c 1 _ rfl; obtain ⟨f2, y2⟩ := HF6.out.c 2 _ rfl; obtain ⟨f3, y3⟩ := HF6.out.c 3 _ rfl; obtain ⟨f4, y4⟩ := HF6.out.c 4 _ rfl; obtain ⟨f5, y5⟩ := HF6.out.c 5 _ rfl
  obtain ⟨g0, -⟩ := HG6.out.c 0 _ rfl; obtain ⟨g1, -⟩ := HG6.out.c 1 _ rfl; obtain ⟨g2, -⟩ := HG6.out.c 2 _ rfl; obtain ⟨g3, -⟩ := HG6.out.c 3 _ rfl; obtain ⟨g4, -⟩ := HG6.out.c 4 _ rfl; obtain ⟨g5, -⟩ := HG6.out.c 5 _ rfl
  by_cases he : e4 = 0
  · have t1 : (e4 != 0) = false := by simp [he]
    have HR2 := hid (show r = ((o, s, c1, c2, c3, fs), a4, e4) by rw [HR.out, if_pos he])
    clear he
    go_wp2
    obtain ⟨W8, hW8⟩ : ∃ W, W = (((((W6.setCell ⟨q, 0, none⟩ (.int .i64 o)).setCell ⟨q, 1, none⟩ (.int .i64 s)).setCell ⟨q, 2, none⟩ (.int .i64 c1)).setCell ⟨q, 3, none⟩ (.int .i64 c2)).setCell ⟨q, 4, none⟩ (.int .i64 c3)).setCell ⟨q, 5, none⟩ (.slice Af fs.length kf) := ⟨_, rfl⟩
    rw [← hW8]
    have F8 : BoxN w W8 p q [(.int .i64 o), (.int .i64 s), (.int .i64 c1), (.int .i64 c2), (.int .i64 c3), (.slice Af fs.length kf)] := by
      rw [hW8]
      exact ((((((HF7.out.set 0 (by simp) _).set 1 (by simp) _).set 2 (by simp) _).set 3 (by simp) _).set 4 (by simp) _).set 5 (by simp) _)
    have R8 : RW W8 B p l a4 e4 := by
      rw [hW8]
      exact ((((((RW7.out.set hpq _).set hpq _).set hpq _).set hpq _).set hpq _).set hpq _)
    have C8 : CRow W8 V2.heap.size (.slice Af fs.length kf) fs := by
      rw [hW8]
      exact ((((((HC7.out.set (by omega) _).set (by omega) _).set (by omega) _).set (by omega) _).set (by omega) _).set (by omega) _)
    have s0 := (F8.c 0 _ rfl).1; have s1 := (F8.c 1 _ rfl).1; have s2 := (F8.c 2 _ rfl).1; have s3 := (F8.c 3 _ rfl).1; have s4 := (F8.c 4 _ rfl).1; have s5 := (F8.c 5 _ rfl).1
    refine bodyPost_ret (v := .agg #[(.int .i64 o), (.int .i64 s), (.int .i64 c1), (.int .i64 c2), (.int .i64 c3), (.slice Af fs.length kf)]) ?_ rfl ?_
    · simp [results, Tryz.results42, go_sem, s0, s1, s2, s3, s4, s5]
    · rw [HR2.out]
      exact ⟨Af, kf, rfl, C8.less (by have := HQ.out; have := HN.out; omega), R8, F8.upd⟩
  · have t1 : (e4 != 0) = true := by simpa using he
    have HR2 := hid (show r = (e0X, a4, e4) by rw [HR.out, if_neg he])
    clear he
    go_wp2
    obtain ⟨W8, hW8⟩ : ∃ W, W = (((((W6.setCell ⟨q, 0, none⟩ (.int .i64 0)).setCell ⟨q, 1, none⟩ (.int .i64 0)).setCell ⟨q, 2, none⟩ (.int .i64 0)).setCell ⟨q, 3, none⟩ (.int .i64 0)).setCell ⟨q, 4, none⟩ (.int .i64 0)).setCell ⟨q, 5, none⟩ (.slice none 0 0) := ⟨_, rfl⟩
    rw [← hW8]
    have F8 : BoxN w W8 p q [(.int .i64 0), (.int .i64 0), (.int .i64 0), (.int .i64 0), (.int .i64 0), (.slice none 0 0)] := by
      rw [hW8]
      exact ((((((HF7.out.set 0 (by simp) _).set 1 (by simp) _).set 2 (by simp) _).set 3 (by simp) _).set 4 (by simp) _).set 5 (by simp) _)
    have R8 : RW W8 B p l a4 e4 := by
      rw [hW8]
      exact ((((((RW7.out.set hpq _).set hpq _).set hpq _).set hpq _).set hpq _).set hpq _)
    have s0 := (F8.c 0 _ rfl).1; have s1 := (F8.c 1 _ rfl).1; have s2 := (F8.c 2 _ rfl).1; have s3 := (F8.c 3 _ rfl).1; have s4 := (F8.c 4 _ rfl).1; have s5 := (F8.c 5 _ rfl).1
    refine bodyPost_ret (v := .agg #[(.int .i64 0), (.int .i64 0), (.int .i64 0), (.int .i64 0), (.int .i64 0), (.slice none 0 0)]) ?_ rfl ?_
    · simp [results, Tryz.results42, go_sem, s0, s1, s2, s3, s4, s5]
    · rw [HR2.out]
      exact ⟨none, 0, rfl, CRow.nil_ _ _, R8, F8.upd⟩
end Go.Proofs.YtkgifbnkkmeoiaaGreatDoor
