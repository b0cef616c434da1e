/- 2 texts of this claim, in build order. -/
import Derived.Test.YtkgifbnkkmeoiaaGreatDoorPdfgnliff
import Derived.Test.YtkgifbnkkmeoiaaGreatDoorPpmbgbmgk
import Derived.Test.YtkgifbnkkmeoiaaGreatDoorPnadfnpkm
/- batch.Read. -/
namespace Go.Proofs.YtkgifbnkkmeoiaaGreatDoor
open Go.ChangeShapes Go.WideShapes Go.ChangeAt Go.RowKit
set_option linter.unusedVariables false
set_option linter.unusedSimpArgs false

def ReadBPost (r : List FactX × Nat × Int) (B p : Nat) (l : List UInt8) (w : World) (e : Ending) (w' : World) : Prop :=
  ∃ v, e = .returned v ∧ CRow w' w.heap.size v r.1 ∧ RW w' B p l r.2.1 r.2.2 ∧ Upd p w w'
def RdRel (l : List UInt8) (B p : Nat) (w : World) (n : Nat) (T : List FactX × Nat × Int) (out i : Value) (wq : World) : Prop :=
  ∃ (j : Nat) (acc : List FactX) (a : Nat) (e : Int), j ≤ n ∧ i = .int .i64 j ∧ j = acc.length ∧ CRow wq (w.heap.size + 1) out acc ∧ RW wq B p l a e ∧ T = (acc ++ (factsR l (n - j) a e).1, (factsR l (n - j) a e).2) ∧
    wq.cell? ⟨w.heap.size, 0, none⟩ = some (.pointer (some ⟨p, 0, none⟩)) ∧ Upd p w wq
theorem rd_step {l : List UInt8} {n j a : Nat} {e : Int} {acc : List FactX} {T : List FactX × Nat × Int} (hj : j < n) (h : T = (acc ++ (factsR l (n - j) a e).1, (factsR l (n - j) a e).2)) :
    T = ((acc ++ [(factR l a e).1]) ++ (factsR l (n - (j + 1)) (factR l a e).2.1 (factR l a e).2.2).1, (factsR l (n - (j + 1)) (factR l a e).2.1 (factR l a e).2.2).2) := by
  obtain ⟨k, hk⟩ : ∃ k, n - j = k + 1 := ⟨n - j - 1, by omega⟩
  rw [h, hk, show n - (j + 1) = k by omega]
  show (acc ++ ((factR l a e).1 :: _), _) = _
  rw [List.append_assoc]; rfl
set_option maxRecDepth 100000 in
set_option maxHeartbeats 3200000 in
theorem readBt_any (B p : Nat) (l : List UInt8) (a : Nat) (e : Int) (w : World) (h : RW w B p l a e) (hm : MaxL w) (hpm : p ≠ 0) (hll : l.length ≤ 1000000) :
    Calls Tryz.prog 75 #[.pointer (some ⟨p, 0, none⟩)] w (ReadBPost (readB l a e) B p l w) := by
  obtain ⟨i1, hi', hz0', hz1', hz2'⟩ := info_parts info_fact
  have hp := h.lt
  obtain ⟨n, a1, e1, hr1, hn8, -, -⟩ := rInt_in l a e 8 h.2.1
  obtain ⟨T, hT⟩ : ∃ T, T = factsR l n a1 e1 := ⟨_, rfl⟩
  have hrb : readB l a e = (if T.2.2 = 0 then T.1 else [], T.2) := by
    unfold readB
    rw [show ((8 : Int)) = ((8 : Nat) : Int) from rfl, hr1]
    simp only [Int.toNat_natCast]
    rw [hT]
  obtain ⟨W0, hW0⟩ : ∃ W, W = w.alloc (.cells #[.pointer (some ⟨p, 0, none⟩)] 57) := ⟨_, rfl⟩
  have g0 : Below w.heap.size w W0 := by rw [hW0]; exact bl1 _ _
  have z0 : W0.heap.size = w.heap.size + 1 := by rw [hW0]; simp
  have hb0 : W0.cell? ⟨w.heap.size, 0, none⟩ = some (.pointer (some ⟨p, 0, none⟩)) := by rw [hW0]; simp [go_sem]
  have hrw0 : RW W0 B p l a e := h.keep (g0.mono (by omega))
  have HI := hid (readInt_any B p l a e 0 8 W0 hrw0)
  rw [show ((8 : Int)) = ((8 : Nat) : Int) from rfl, hr1] at HI
  have HW0 := hid hW0; have HRB := hid hrb; have HM := hid hm; have HT := hid hT; have U0 := hid (Upd.of_below (p := p) g0)
  have hb0' := hb0
  rw [hW0] at hb0'
  clear hW0 hrb hm hr1 h hrw0 g0 hT
  go_enter Tryz.func75, Tryz.ntmps75
  go_wp2_with fail
  rw [← HW0.out]
  refine HI.out.mono ?_
  rintro en w1 ⟨rfl, hrw1, hu1⟩
  have hb1 : w1.cell? ⟨w.heap.size, 0, none⟩ = some (.pointer (some ⟨p, 0, none⟩)) := hu1.cellAt (by omega) (by omega) hb0
  have RW1 := hid hrw1; have U1 := hid (U0.out.trans hu1)
  clear hu1 hrw1 hb0 hb0'
  go_wp2
  go_loopw [4, 10] (fun out i wq => RdRel l B p w n T out i wq) (fun _ i _ => n - (intOf i).toNat)
  case atStart => exact ⟨0, [], a1, e1, by omega, rfl, rfl, CRow.nil_ _ _, RW1.out, by rw [HT.out]; simp, hb1, U1.out⟩
  case round =>
    clear hb1 RW1 U1
    obtain ⟨j, acc, a2, e2, hj, rfl, hjl, hrow, hrw, hTT, hbw, hu⟩ := hrel
    have HRW := hid hrw; have HTT := hid hTT; have HJL := hid hjl; have HRC := hid hrow; have HU := hid hu
    have zs := hu.size
    have hbl := World.block_lt_of_cell? wr _ hbw
    obtain ⟨vs, hv1, hv2, hv3⟩ := hrow
    rw [← hjl] at hv2
    obtain ⟨Ao, co, rfl⟩ := own_formB hv2
    clear hrw hTT hjl hu hv1 hv2 hv3
    by_cases hlt : j < n
    · have HON := hid (one_any B p w.heap.size l a2 e2 wr HRW.out hbw (by omega) (HM.out.upd HU.out hpm) hpm hll)
      have HST := hid (rd_step hlt HTT.out)
      generalize factR l a2 e2 = r at *
      obtain ⟨f, a3, e3⟩ := r
      unfold OnePost at HON
      simp only at HON HST
      go_wp2_with fail
      refine HON.out.mono ?_
      rintro en w2 ⟨pv, vv, rfl, hpv, hvv, hrw2, hu2⟩
      have HPV := hid hpv; have HVV := hid hvv; have RW2 := hid hrw2; have U2 := hid hu2
      have z2 := hu2.size
      obtain ⟨pvs, -, hp2, -⟩ := hpv
      obtain ⟨Ap, cp, rfl⟩ := own_formB hp2
      obtain ⟨Av, cv, rfl⟩ := own_formB hvv
      have hb2 : w2.cell? ⟨w.heap.size, 0, none⟩ = some (.pointer (some ⟨p, 0, none⟩)) := hu2.cellAt (by omega) (by omega) hbw
      have RC2 := hid (HRC.out.keepT (fun _ => KeepT.of_upd hu2 (by omega)))
      clear hvv hrw2 hu2 hp2
      obtain ⟨Wa, hWa⟩ : ∃ W, W = w2.alloc (.cells #[.slice Ap f.1.length cp, .slice Av f.2.length cv] 127) := ⟨_, rfl⟩
      have ba : Below w2.heap.size w2 Wa := by rw [hWa]; exact bl1 _ _
      have za : Wa.heap.size = w2.heap.size + 1 := by rw [hWa]; simp
      obtain ⟨mvs, hm1, hm2, hm3⟩ := RC2.out.on ba
      have hm2' := hm2
      rw [← HJL.out] at hm2'
      have hpva := (HPV.out.stays ba).less (show w.heap.size + 1 ≤ wr.heap.size by omega)
      have hvva := own_lessQ (own_stays HVV.out ba) (show w.heap.size + 1 ≤ wr.heap.size by omega)
      have HSRC := hid (show Src Tryz.prog 2 45 (.slice (some ⟨w2.heap.size, 0, none⟩) 1 1) 1 (fv2 (.slice Ap f.1.length cp, .slice Av f.2.length cv)) Wa from by
        rw [hWa]
        exact Src.ofSlice _ Tryz.underlying45 _ 1 1 _ rfl (cell2_new _ _ _ _ rfl) (by simp [fv2]; exact ⟨rfl, rfl⟩))
      have HWA := hid hWa; have HM3 := hid hm3; have HPA := hid hpva; have HVA := hid hvva; have BA := hid ba
      clear hWa ba hm2 hm3 hpva hvva hbw
      go_wp2_with (at_builtin; refine stop_here ?_)
      refine go_on ?_
      rw [← HWA.out]
      refine app_own_at (.tmp 12) (.tmp 15) 45 45 rfl rfl (w.heap.size + 1) 127 i1 (.agg #[.slice none 0 0, .slice none 0 0]) 2 48 Tryz.underlying45 hi' hz0' hz1' hz2' rfl (by decide) _ j (fvs mvs) rfl hm2' (.slice (some ⟨w2.heap.size, 0, none⟩) 1 1) 1 _ rfl HSRC.out (by simp only [maxLen]; omega) (by omega) (by omega) ?_
      intro v' w7 ho' hg' hb7 hat'
      have hrow' := CRow.app_n (f := f) HJL.out hm1 hm2' HM3.out HPA.out HVA.out ho' hg'
      have b27 : Below (w.heap.size + 1) w2 w7 := (BA.out.mono (by omega)).trans hb7
      have HNX := hid (show RdRel l B p w n T v' (.int .i64 ((j : Int) + 1)) w7 from
        ⟨j + 1, _, a3, e3, by omega, by go_num, by rw [List.length_append, ← HJL.out]; rfl, hrow', RW2.out.keep (b27.mono (by omega)), HST.out, cellK b27 (by omega) hb2, (HU.out.trans U2.out).over b27 (by omega)⟩)
      clear ho' hg' hb7 hat' hrow' hm2' b27 hb2
      go_wp2
      go_roundw
      case rel => exact HNX.out
      case measure => simp [intOf]; omega
    · obtain rfl : j = n := by omega
      have hTe : T = (acc, a2, e2) := by rw [HTT.out, Nat.sub_self]; simp [factsR]
      have HRB2 := hid (show readB l a e = (if e2 = 0 then acc else [], a2, e2) by rw [HRB.out, hTe])
      have HFA := hid (readFailed_any B p l a2 e2 wr HRW.out)
      clear hTe
      go_wp2_with fail
      refine HFA.out.mono ?_
      rintro en w2 ⟨rfl, hq2⟩
      have RW2 := hid (HRW.out.qu hq2); have U2 := hid (HU.out.trans (Upd.of_below (hq2.below wr.heap.size)))
      have RC2 := hid ((HRC.out.on (hq2.below wr.heap.size)).less (show w.heap.size ≤ w.heap.size + 1 by omega))
      clear hq2
      by_cases he : e2 = 0
      · have HR3 := hid (show readB l a e = (acc, a2, e2) by rw [HRB2.out, if_pos he])
        have t1 : (e2 != 0) = false := by simp [he]
        clear he
        go_wp2
        go_ret
        rw [HR3.out]
        exact ⟨_, rfl, RC2.out, RW2.out, U2.out⟩
      · have HR3 := hid (show readB l a e = ([], a2, e2) by rw [HRB2.out, if_neg he])
        have t1 : (e2 != 0) = true := by simpa using he
        clear he
        go_wp2
        go_ret
        rw [HR3.out]
        exact ⟨_, rfl, CRow.nil_ _ _, RW2.out, U2.out⟩
end Go.Proofs.YtkgifbnkkmeoiaaGreatDoor
/- session.ReadCmd, session.ReadEntry. -/
namespace Go.Proofs.YtkgifbnkkmeoiaaGreatDoor
open Go.ChangeShapes Go.WideShapes Go.ChangeAt Go.RowKit
set_option linter.unusedVariables false
set_option linter.unusedSimpArgs false

def cmdVs (c : CmdX) (F : Value) : List Value := [.int .i64 c.1, .int .i64 c.2.1, .int .i64 c.2.2.1, F]
def CmdP (r : CmdX × Nat × Int) (B p : Nat) (l : List UInt8) (w : World) (e : Ending) (w' : World) : Prop :=
  ∃ A k, e = .returned (.agg (cmdVs r.1 (.slice A r.1.2.2.2.length k)).toArray) ∧ CRow w' w.heap.size (.slice A r.1.2.2.2.length k) r.1.2.2.2 ∧ RW w' B p l r.2.1 r.2.2 ∧ Upd p w w'
theorem CRow.form {w : World} {base : Nat} {v : Value} {M : List FactX} (h : CRow w base v M) : ∃ A c, v = .slice A M.length c := by
  obtain ⟨vs, -, h2, -⟩ := h
  exact own_formB h2
theorem CRow.set {w : World} {base : Nat} {v : Value} {M : List FactX} (h : CRow w base v M) {b i : Nat} (hb : b < base) (u : Value) : CRow (w.setCell ⟨b, i, none⟩ u) base v M := h.keepT (fun _ => keepT_set hb)
theorem BoxN.new {w w1 : World} {p : Nat} {cs : Array Value} {t : TypeId} (hu : Upd p w w1) (hp : p < w.heap.size) : BoxN w (w1.alloc (.cells cs t)) p w1.heap.size cs.toList :=
  ⟨by simp, hu.size, hu.over (bl1 w1 _) hu.size, fun i v h => ⟨by rw [World.cell?_alloc_at _ _ _ _ rfl]; simpa using h, by simp [go_sem]⟩⟩
set_option maxRecDepth 100000 in
set_option maxHeartbeats 1600000 in
theorem readCmd_any (B p : Nat) (l : List UInt8) (a : Nat) (e : Int) (w : World) (h : RW w B p l a e) (hm : MaxL w) (hpm : p ≠ 0) (hll : l.length ≤ 1000000) :
    Calls Tryz.prog 57 #[.pointer (some ⟨p, 0, none⟩)] w (CmdP (cmdR l a e) B p l w) := by
  have hp := h.lt
  obtain ⟨q, hq⟩ : ∃ q, q = w.heap.size := ⟨_, rfl⟩
  obtain ⟨W0, hW0⟩ : ∃ W, W = w.alloc (.cells #[.int .i64 0, .int .i64 0, .int .i64 0, .slice none 0 0] 47) := ⟨_, rfl⟩
  have hb0 : Below w.heap.size w W0 := by rw [hW0]; exact bl1 _ _
  have F0 : BoxN w W0 p q [.int .i64 0, .int .i64 0, .int .i64 0, .slice none 0 0] := by rw [hW0, hq]; exact BoxN.new (Upd.refl _ _) hp
  have hr0 : RW W0 B p l a e := h.keep (hb0.mono (by omega))
  have hcr : cmdR l a e = cmdR l a e := rfl
  obtain ⟨r, hr⟩ : ∃ r, r = cmdR l a e := ⟨_, rfl⟩
  rw [← hr]
  unfold cmdR at hr
  obtain ⟨r1, hr1⟩ : ∃ r1, r1 = rInt l a e 0 3 := ⟨_, rfl⟩
  have HI1 := hid (readInt_any B p l a e 0 3 W0 hr0)
  rw [← hr1] at HI1 hr
  obtain ⟨o, a1, e1⟩ := r1
  simp only at hr
  have HI2 := hid (fun W (hW : RW W B p l a1 e1) => readInt_any B p l a1 e1 0 1099511627776 W hW)
  obtain ⟨r2, hr2⟩ : ∃ r2, r2 = rInt l a1 e1 0 1099511627776 := ⟨_, rfl⟩
  rw [← hr2] at HI2 hr
  obtain ⟨s, a2, e2⟩ := r2
  simp only at hr
  have HI3 := hid (fun W (hW : RW W B p l a2 e2) => readInt_any B p l a2 e2 0 1099511627776 W hW)
  obtain ⟨r3, hr3⟩ : ∃ r3, r3 = rInt l a2 e2 0 1099511627776 := ⟨_, rfl⟩
  rw [← hr3] at HI3 hr
  obtain ⟨t, a3, e3⟩ := r3
  simp only at hr
  have HI4 := hid (fun W (hW : RW W B p l a3 e3) (hM : MaxL W) => readBt_any B p l a3 e3 W hW hM hpm hll)
  generalize readB l a3 e3 = r4 at *
  obtain ⟨fs, a4, e4⟩ := r4
  unfold RIntPost at HI1 HI2 HI3
  unfold ReadBPost at HI4
  simp only at HI1 HI2 HI3 HI4 hr
  have HF0 := hid F0; have HW0 := hid hW0; have HM := hid hm; have HR := hid hr; have HQ := hid hq
  have hpq : p < q := by omega
  clear hr1 hr2 hr3 hr hr0 hb0 hW0 hq F0 hm h hcr
  go_enter Tryz.func57, Tryz.ntmps57
  go_upto_region 3 with (fail)
  rw [← HW0.out, ← HQ.out]
  go_wp2_with fail
  (with_reducible refine HI1.out.mono ?_)
  rintro en w1 ⟨rfl, hrw1, hu1⟩
  have HF1 := hid (HF0.out.move (by have := HQ.out; omega) hu1); have RW1 := hid hrw1
  clear hrw1 hu1
  go_wp2_with fail
  refine (HI2.out w1 RW1.out).mono ?_
  rintro en w2 ⟨rfl, hrw2, hu2⟩
  have HF2 := hid (HF1.out.move (by have := HQ.out; omega) hu2); have RW2 := hid hrw2
  clear hrw2 hu2
  go_wp2_with fail
  refine (HI3.out w2 RW2.out).mono ?_
  rintro en w3 ⟨rfl, hrw3, hu3⟩
  have HF3 := hid (HF2.out.move (by have := HQ.out; omega) hu3); have RW3 := hid hrw3
  clear hrw3 hu3
  go_upto_region 4 with (fail)
  obtain ⟨N, hN⟩ : ∃ N, N = w3.heap.size := ⟨_, rfl⟩
  obtain ⟨W4, hW4⟩ : ∃ W, W = w3.alloc (.cells #[.int .i64 o, .int .i64 s, .int .i64 t, .slice none 0 0] 47) := ⟨_, rfl⟩
  rw [← hW4, ← hN]
  have hpw : p < w.heap.size := by have := HQ.out; omega
  have hqN : q < N := by have := HF3.out.lt; omega
  have hb4 : Below w3.heap.size w3 W4 := by rw [hW4]; exact bl1 _ _
  have HG4 := hid (show BoxN w W4 p N [.int .i64 o, .int .i64 s, .int .i64 t, .slice none 0 0] by rw [hW4, hN]; exact BoxN.new HF3.out.upd hpw)
  have HF4 := hid (HF3.out.over hpw (hb4.mono (by omega)))
  have hz4 : N < W4.heap.size := HG4.out.lt
  have HC := hid (HI4.out W4 (RW3.out.keep (hb4.mono (by omega))) (HM.out.upd HF4.out.upd hpm))
  clear hN hW4 hb4
  go_wp2_with fail
  (with_reducible refine HC.out.mono ?_)
  rintro en w5 ⟨v5, rfl, hc5, hrw5, hu5⟩
  obtain ⟨Af, kf, rfl⟩ := hc5.form
  have HF5 := hid (HF4.out.move hpw hu5); have HG5 := hid (HG4.out.move hpw hu5); have HC5 := hid hc5; have RW5 := hid hrw5
  obtain ⟨g3, z3⟩ := HG5.out.c 3 _ rfl
  clear hc5 hrw5 hu5
  obtain ⟨W6, hW6⟩ : ∃ W, W = w5.setCell ⟨N, 3, none⟩ (.slice Af fs.length kf) := ⟨_, rfl⟩
  have HG6 := hid (show BoxN w W6 p N [.int .i64 o, .int .i64 s, .int .i64 t, .slice Af fs.length kf] by rw [hW6]; exact HG5.out.set 3 (by simp) _)
  have HF6 := hid (show BoxN w W6 p q [.int .i64 0, .int .i64 0, .int .i64 0, .slice none 0 0] by rw [hW6]; exact HF5.out.far hpw hqN _)
  have RW6 := hid (show RW W6 B p l a4 e4 by rw [hW6]; exact RW5.out.set (by omega) _)
  have HC6 := hid (show CRow W6 W4.heap.size (.slice Af fs.length kf) fs by rw [hW6]; exact HC5.out.set (by omega) _)
  have HW6 := hid hW6
  have HFA := hid (readFailed_any B p l a4 e4 W6 RW6.out)
  clear hW6
  go_upto_region 5 with (fail)
  rw [← HW6.out]
  go_wp2_with fail
  (with_reducible refine HFA.out.mono ?_)
  rintro en w7 ⟨rfl, hq7⟩
  have hb7 := hq7.below W6.heap.size
  have HF7 := hid (HF6.out.over hpw (hq7.below _)); have HG7 := hid (HG6.out.over hpw (hq7.below _)); have HC7 := hid (HC6.out.on hb7); have RW7 := hid (RW6.out.qu hq7)
  clear hq7 hb7 g3 z3
  obtain ⟨f0, y0⟩ := HF7.out.c 0 _ rfl; obtain ⟨f1, y1⟩ := HF7.out.c 1 _ rfl; obtain ⟨f2, y2⟩ := HF7.out.c 2 _ rfl; obtain ⟨f3, y3⟩ := HF7.out.c 3 _ rfl
  obtain ⟨g0, -⟩ := HG7.out.c 0 _ rfl; obtain ⟨g1, -⟩ := HG7.out.c 1 _ rfl; obtain ⟨g2, -⟩ := HG7.out.c 2 _ rfl; obtain ⟨g3, -⟩ := HG7.out.c 3 _ rfl
  by_cases he : e4 = 0
  · have t1 : (e4 != 0) = false := by simp [he]
    have HR2 := hid (show r = ((o, s, t, fs), a4, e4) by rw [HR.out, if_pos he])
    clear he
    go_wp2
    obtain ⟨W8, hW8⟩ : ∃ W, W = (((w7.setCell ⟨q, 0, none⟩ (.int .i64 o)).setCell ⟨q, 1, none⟩ (.int .i64 s)).setCell ⟨q, 2, none⟩ (.int .i64 t)).setCell ⟨q, 3, none⟩ (.slice Af fs.length kf) := ⟨_, rfl⟩
    rw [← hW8]
    have F8 : BoxN w W8 p q [.int .i64 o, .int .i64 s, .int .i64 t, .slice Af fs.length kf] := by
      rw [hW8]
      exact (((HF7.out.set 0 (by decide) _).set 1 (by simp) _).set 2 (by simp) _).set 3 (by simp) _
    have R8 : RW W8 B p l a4 e4 := by
      rw [hW8]
      exact (((RW7.out.set hpq _).set hpq _).set hpq _).set hpq _
    have C8 : CRow W8 W4.heap.size (.slice Af fs.length kf) fs := by
      rw [hW8]
      exact (((HC7.out.set (by omega) _).set (by omega) _).set (by omega) _).set (by omega) _
    have s0 := (F8.c 0 _ rfl).1; have s1 := (F8.c 1 _ rfl).1; have s2 := (F8.c 2 _ rfl).1; have s3 := (F8.c 3 _ rfl).1
    refine bodyPost_ret (v := .agg #[.int .i64 o, .int .i64 s, .int .i64 t, .slice Af fs.length kf]) ?_ rfl ?_
    · simp [results, Tryz.results57, go_sem, s0, s1, s2, s3]
    · rw [HR2.out]
      exact ⟨Af, kf, rfl, C8.less (by have := HQ.out; omega), R8, F8.upd⟩
  · have t1 : (e4 != 0) = true := by simpa using he
    have HR2 := hid (show r = (c0X, a4, e4) by rw [HR.out, if_neg he])
    clear he
    go_wp2
    obtain ⟨W8, hW8⟩ : ∃ W, W = (((w7.setCell ⟨q, 0, none⟩ (.int .i64 0)).setCell ⟨q, 1, none⟩ (.int .i64 0)).setCell ⟨q, 2, none⟩ (.int .i64 0)).setCell ⟨q, 3, none⟩ (.slice none 0 0) := ⟨_, rfl⟩
    rw [← hW8]
    have F8 : BoxN w W8 p q [.int .i64 0, .int .i64 0, .int .i64 0, .slice none 0 0] := by
      rw [hW8]
      exact (((HF7.out.set 0 (by decide) _).set 1 (by simp) _).set 2 (by simp) _).set 3 (by simp) _
    have R8 : RW W8 B p l a4 e4 := by
      rw [hW8]
      exact (((RW7.out.set hpq _).set hpq _).set hpq _).set hpq _
    have s0 := (F8.c 0 _ rfl).1; have s1 := (F8.c 1 _ rfl).1; have s2 := (F8.c 2 _ rfl).1; have s3 := (F8.c 3 _ rfl).1
    refine bodyPost_ret (v := .agg #[.int .i64 0, .int .i64 0, .int .i64 0, .slice none 0 0]) ?_ rfl ?_
    · simp [results, Tryz.results57, go_sem, s0, s1, s2, s3]
    · rw [HR2.out]
      exact ⟨none, 0, rfl, CRow.nil_ _ _, R8, F8.upd⟩
end Go.Proofs.YtkgifbnkkmeoiaaGreatDoor
