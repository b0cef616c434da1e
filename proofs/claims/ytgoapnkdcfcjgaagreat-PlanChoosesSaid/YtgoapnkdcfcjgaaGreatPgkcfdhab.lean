/- 2 texts of this claim, in build order. -/
import Derived.Test.YtgoapnkdcfcjgaaGreatPommbaifj
import Derived.Test.YtgoapnkdcfcjgaaGreatPeaeeijbd
import Derived.Test.YtgoapnkdcfcjgaaGreatPpmcefhdi
set_option linter.unusedVariables false
set_option linter.unusedSimpArgs false
namespace Go.Proofs.YtgoapnkdcfcjgaaGreat
open Go.ChangeShapes Go.WideShapes Go.ChangeAt Go.RowKit
def RqRel (s : ze) (q : zX) (W0 : World) (i : Value) (wr : World) : Prop := ∃ k : Nat, k <= q.2.length /\ i = .int .i64 k /\ (∀ j (h : j < q.2.length), j < k -> zcb s q.2[j] = true) /\ Below W0.heap.size W0 wr
def RqIn (ms : List (List ByteArray)) (lv : Int) (W0 : World) (i : Value) (wr : World) : Prop := ∃ k : Nat, k <= ms.length /\ i = .int .i64 k /\ (∀ j (h : j < ms.length), j < k -> (mayB ms[j] && decide ((ms[j].length : Int) = lv)) = true) /\ Below W0.heap.size W0 wr
theorem zm1 (s : ze) (d lv : Int) (ms : List (List ByteArray)) (n : Nat) (hn : ∀ (dn : Nat), d = (dn : Int) -> ∀ h : dn < s.1.length, s.1[dn].2.length = n) :
  (d < 0 /\ zcb s (d, lv, ms) = false) \/ (∃ dn : Nat, d = (dn : Int) /\ s.1.length <= dn /\ zcb s (d, lv, ms) = false) \/ (∃ dn : Nat, d = (dn : Int) /\ dn < s.1.length /\ lv < 1 /\ zcb s (d, lv, ms) = false) \/ (∃ dn : Nat, d = (dn : Int) /\ dn < s.1.length /\ 1 <= lv /\ (n : Int) < lv /\ zcb s (d, lv, ms) = false) \/
  (∃ dn : Nat, d = (dn : Int) /\ dn < s.1.length /\ 1 <= lv /\ lv <= (n : Int) /\ ms.length < 1 /\ zcb s (d, lv, ms) = false) \/ (∃ dn : Nat, d = (dn : Int) /\ dn < s.1.length /\ 1 <= lv /\ lv <= (n : Int) /\ 1 <= ms.length /\ 6 < ms.length /\ zcb s (d, lv, ms) = false) \/
  (∃ dn : Nat, d = (dn : Int) /\ dn < s.1.length /\ 1 <= lv /\ lv <= (n : Int) /\ 1 <= ms.length /\ ms.length <= 6 /\ zcb s (d, lv, ms) = ms.all (fun m => mayB m && decide ((m.length : Int) = lv))) := by
 unfold zcb
 simp only
 by_cases h0 : d < 0
 ·exact .inl ⟨h0, by rw [decide_eq_false (show ¬ 0 <= d by omega)]; simp⟩
 refine .inr ?_
 obtain ⟨dn, rfl⟩ : ∃ dn : Nat, d = (dn : Int) := ⟨d.toNat, by omega⟩
 by_cases h1 : s.1.length <= dn
 ·exact .inl ⟨dn, rfl, h1, by rw [decide_eq_false (show ¬ (dn : Int) < (s.1.length : Int) by omega)]; simp⟩
 refine .inr ?_
 have h1' : dn < s.1.length := by omega
 have hgd : zbu s (dn : Int) = (n : Int) := by unfold zbu; rw [Int.toNat_natCast, List.getD_eq_getElem?_getD, List.getElem?_eq_getElem h1']; exact congrArg Nat.cast (hn dn rfl h1')
 simp only [hgd]
 rw [decide_eq_true (show (0 : Int) <= (dn : Int) by omega), decide_eq_true (show (dn : Int) < (s.1.length : Int) by omega)]
 by_cases h2 : lv < 1
 ·exact .inl ⟨dn, rfl, h1', h2, by rw [decide_eq_false (show ¬ 1 <= lv by omega)]; simp⟩
 refine .inr ?_
 rw [decide_eq_true (show 1 <= lv by omega)]
 by_cases h3 : (n : Int) < lv
 ·exact .inl ⟨dn, rfl, h1', by omega, h3, by rw [decide_eq_false (show ¬ lv <= (n : Int) by omega)]; simp⟩
 refine .inr ?_
 rw [decide_eq_true (show lv <= (n : Int) by omega)]
 by_cases h4 : ms.length < 1
 ·exact .inl ⟨dn, rfl, h1', by omega, by omega, h4, by rw [decide_eq_false (show ¬ 1 <= ms.length by omega)]; simp⟩
 refine .inr ?_
 rw [decide_eq_true (show 1 <= ms.length by omega)]
 by_cases h5 : 6 < ms.length
 ·exact .inl ⟨dn, rfl, h1', by omega, by omega, by omega, h5, by rw [decide_eq_false (show ¬ ms.length <= 6 by omega)]; simp⟩
 refine .inr ⟨dn, rfl, h1', by omega, by omega, by omega, by omega, ?_⟩
 rw [decide_eq_true (show ms.length <= 6 by omega)]
 simp
set_option maxRecDepth 100000 in
set_option maxHeartbeats 3200000 in
theorem zjS (v x : Value) (s : ze) (q : zX) (w : World) (hv : zD w w.heap.size v s) (hx : zaH w w.heap.size x q) (hl : s.1.length <= 1000) :
  Calls Tryz.prog 20 #[v, x] w (zY (.int .i64 (mayQ s q)) w) := by
 have hv0 := hv; have hx0 := hx
 obtain ⟨A1, c1, A2, c2, A3, c3, rfl, h1, h2, h3⟩ := hv
 obtain ⟨X1, d1, X2, d2, rfl, g1, g2⟩ := hx
 obtain ⟨hc1, hm1⟩ := h1.cap
 obtain ⟨hd2, hn2⟩ := g2.cap
 obtain ⟨W0, hW0⟩ : ∃ W, W = (w.alloc (.cells #[.slice A1 s.1.length c1, .slice A2 s.2.1.length c2, .slice A3 s.2.2.length c3] 26)).alloc (.cells #[.slice X1 q.1.length d1, .slice X2 q.2.length d2] 30) := ⟨_, rfl⟩
 have g0 : Below w.heap.size w W0 := by rw [hW0]; exact (bl1 w _).alloc (by simp) _
 have z0 : W0.heap.size = w.heap.size + 1 + 1 := by rw [hW0]; simp
 have y0 : W0.cell? ⟨w.heap.size, 0, none⟩ = some (.slice A1 s.1.length c1) := by rw [hW0]; simp [go_sem]
 have y1 : W0.cell? ⟨w.heap.size, 1, none⟩ = some (.slice A2 s.2.1.length c2) := by rw [hW0]; simp [go_sem]
 have y2 : W0.cell? ⟨w.heap.size, 2, none⟩ = some (.slice A3 s.2.2.length c3) := by rw [hW0]; simp [go_sem]
 have y3 : W0.cell? ⟨w.heap.size + 1, 0, none⟩ = some (.slice X1 q.1.length d1) := by rw [hW0]; simp [go_sem]
 have y4 : W0.cell? ⟨w.heap.size + 1, 1, none⟩ = some (.slice X2 q.2.length d2) := by rw [hW0]; simp [go_sem]
 have HW0 := hid hW0
 have G0 := hid g0; have Y0 := hid y0; have Y1 := hid y1; have Y2 := hid y2; have Y3 := hid y3; have Y4 := hid y4
 have HSM := hid (zbz _ s W0 (hv0.on g0) hl)
 have HCN := hid (fun W (hb : Below W0.heap.size W0 W) => zd4 _ _ s q.1 W ((hv0.on g0).on hb) hl (zm.on (zm.on g1 g0) hb))
 have H1 := hid (zam.on h1 g0)
 have HQ2 := hid (zag.on g2 g0)
 have hno : mayS s = false -> mayQ s q = 11 := fun h => by unfold mayQ; rw [h]; rfl
 have hyes : mayS s = true -> mayQ s q = if (zap s q.1 && decide (q.2.length <= 3)) && q.2.all (zcb s) then 0 else 16 := fun h => zpC h q
 generalize mayS s = bS at *
 generalize zap s q.1 = bC at *
 generalize mayQ s q = res at *
 have HNO := hid hno; have HYES := hid hyes
 clear hW0 g0 y0 y1 y2 y3 y4 h1 h2 h3 g1 g2 hv0 hx0 hno hyes
 go_enter Tryz.func20, Tryz.ntmps20
 go_wp2_with fail
 rw [<- HW0.out]
 refine HSM.out.mono ?_
 rintro e w1 ⟨rfl, hb1⟩
 have HB1 := hid hb1; clear hb1
 cases bS
 ·have HN := hid (HNO.out rfl)
  go_wp2
  go_ret
  exact ⟨by rw [HN.out]; rfl, G0.out.trans (HB1.out.mono (by omega))⟩
 ·have HR := hid (HYES.out rfl)
  have k0 := zc HB1.out (by omega) Y0.out
  have k1 := zc HB1.out (by omega) Y1.out
  have k2 := zc HB1.out (by omega) Y2.out
  have k3 := zc HB1.out (by omega) Y3.out
  go_wp2_with fail
  refine (HCN.out _ HB1.out).mono ?_
  rintro e w2 ⟨rfl, hb2⟩
  have HB2 := hid (HB1.out.trans (hb2.mono HB1.out.size)); clear hb2 k0 k1 k2 k3
  have k4 := zc HB2.out (by omega) Y4.out
  cases bC
  ·have HN := hid (show res = 16 by rw [HR.out]; rfl)
   go_wp2
   go_ret
   exact ⟨by rw [HN.out]; rfl, G0.out.trans (HB2.out.mono (by omega))⟩
  ·by_cases h3 : q.2.length <= 3
   case neg =>
    have d6 : decide ((3 : Int) < (q.2.length : Int)) = true := by rw [decide_eq_true_eq]; omega
    have d6' : decide (3 < q.2.length) = true := by rw [decide_eq_true_eq]; omega
    have HN := hid (show res = 16 by rw [HR.out, decide_eq_false h3]; rfl)
    go_wp2
    go_ret
    exact ⟨by rw [HN.out]; rfl, G0.out.trans (HB2.out.mono (by omega))⟩
   case pos =>
   have d6 : decide ((3 : Int) < (q.2.length : Int)) = false := by rw [decide_eq_false_iff_not]; omega
   have d6' : decide (3 < q.2.length) = false := by rw [decide_eq_false_iff_not]; omega
   have hres : res = if q.2.all (zcb s) then 0 else 16 := by rw [HR.out, decide_eq_true h3]; rfl
   have HR2 := hid hres; clear hres HR HYES HNO
   go_wp2
   go_loopw [7] (fun i wr => RqRel s q W0 i wr) (fun i _ => q.2.length - (intOf i).toNat)
   case atStart => exact ⟨0, by omega, rfl, fun j h h' => by omega, HB2.out⟩
   case round =>
    obtain ⟨k, hk, rfl, hall, hb⟩ := hrel
    have hs := hb.size
    have HB := hid hb; have HALL := hid hall
    have k4 := zc hb (by omega) Y4.out
    clear hb hall
    by_cases hlt : k < q.2.length
    ·obtain ⟨b, off, AM, cM, rfl, hbl, q0, q1, q2, i1, i2, hms⟩ := zbG (zag.stays HQ2.out HB.out) hlt
     have hno := fun h => zfw (p := zcb s) hlt h
     have hyes : zcb s q.2[k] = true -> ∀ j (h : j < q.2.length), j < k + 1 -> zcb s q.2[j] = true := fun h j hj hjk => by
      by_cases e : j = k
      ·subst e; exact h
      ·exact HALL.out j hj (by omega)
     generalize q.2[k] = f at *
     obtain ⟨d, lv, ms⟩ := f
     simp only at q0 q1 q2 hms i1 i2
     obtain ⟨n, hn⟩ : ∃ n : Nat, ∀ (dn : Nat), d = (dn : Int) -> ∀ h : dn < s.1.length, s.1[dn].2.length = n := by
      by_cases h : d.toNat < s.1.length
      ·exact ⟨s.1[d.toNat].2.length, fun dn e _ => by subst e; rfl⟩
      ·exact ⟨0, fun dn e h' => by subst e; exact absurd h' h⟩
     have hways := zm1 s d lv ms n hn
     have hdims : ∀ dn : Nat, d = (dn : Int) -> dn < s.1.length -> ∃ b2 o2 AL cL, A1 = some ⟨b2, o2, none⟩ /\ b2 < wr.heap.size /\ wr.cell? ⟨b2, o2 + dn * 2 + 1, none⟩ = some (.slice AL n cL) /\ n <= cL := fun dn e h => by
      obtain ⟨b2, o2, AL, cL, rfl, hbl, -, hc2, hlv, -⟩ := zfh H1.out h
      have hcap := hlv.cap
      have hc2' := zc HB.out hbl hc2
      rw [hn dn e h] at hc2' hcap
      exact ⟨b2, o2, AL, cL, rfl, by omega, hc2', hcap.1⟩
     obtain ⟨hcM, hmM⟩ := hms.cap
     have HMS := hid hms
     have hml : ms.all (fun m => mayB m && decide ((m.length : Int) = lv)) = ms.all (fun m => mayB m && decide ((m.length : Int) = lv)) := rfl
     generalize zcb s (d, lv, ms) = okb at *
     have HNOF := hid hno; have HYESF := hid hyes; have HDM := hid hdims
     clear hno hyes hms hn hdims hml
     obtain ⟨Wf, hWf⟩ : ∃ W, W = wr.alloc (.cells #[.int .i64 d, .int .i64 lv, .slice AM ms.length cM] 83) := ⟨_, rfl⟩
     have gf : Below wr.heap.size wr Wf := by rw [hWf]; exact bl1 _ _
     have zf : Wf.heap.size = wr.heap.size + 1 := by rw [hWf]; simp
     have f0 : Wf.cell? ⟨wr.heap.size, 0, none⟩ = some (.int .i64 d) := by rw [hWf]; simp [go_sem]
     have f1 : Wf.cell? ⟨wr.heap.size, 1, none⟩ = some (.int .i64 lv) := by rw [hWf]; simp [go_sem]
     have f2 : Wf.cell? ⟨wr.heap.size, 2, none⟩ = some (.slice AM ms.length cM) := by rw [hWf]; simp [go_sem]
     have HWf := hid hWf; have GF := hid gf; have F1 := hid f1; have F2 := hid f2
     have l0 := zc (HB.out.trans (gf.mono hs)) (by omega) Y0.out
     have GW := hid (HB.out.trans (gf.mono hs))
     generalize hmn : ms.length = nm at *
     clear hWf gf
     rcases hways with ⟨a1, rfl⟩ | ⟨dn, rfl, a1, rfl⟩ | ⟨dn, rfl, a1, a2, rfl⟩ | ⟨dn, rfl, a1, a2, a3, rfl⟩ | ⟨dn, rfl, a1, a2, a3, a4, rfl⟩ | ⟨dn, rfl, a1, a2, a3, a4, a5, rfl⟩ | ⟨dn, rfl, a1, a2, a3, a4, a5, hok⟩
     ·have t1 : decide (d < 0) = true := decide_eq_true a1
      have HN := hid (show res = 16 by rw [HR2.out, HNOF.out (by first | rfl | trivial)]; rfl)
      clear a1
      go_wp2
      rw [<- HWf.out]
      go_quiet (fail)
      go_wp2
      go_ret
      exact ⟨by rw [HN.out]; rfl, G0.out.trans ((zn GW.out _).mono (by omega))⟩
     ·have t0 : decide ((dn : Int) < 0) = false := by rw [decide_eq_false_iff_not]; omega
      have t1 : decide (s.1.length <= dn) = true := decide_eq_true a1
      have HN := hid (show res = 16 by rw [HR2.out, HNOF.out (by first | rfl | trivial)]; rfl)
      clear a1
      go_wp2
      rw [<- HWf.out]
      go_quiet (fail)
      go_wp2
      go_ret
      exact ⟨by rw [HN.out]; rfl, G0.out.trans ((zn GW.out _).mono (by omega))⟩
     ·have t0 : decide ((dn : Int) < 0) = false := by rw [decide_eq_false_iff_not]; omega
      have t1 : decide (s.1.length <= dn) = false := by rw [decide_eq_false_iff_not]; omega
      have t2 : decide (lv < 1) = true := decide_eq_true a2
      have HN := hid (show res = 16 by rw [HR2.out, HNOF.out (by first | rfl | trivial)]; rfl)
      clear a1 a2
      go_wp2
      rw [<- HWf.out]
      go_quiet (fail)
      go_wp2
      go_ret
      exact ⟨by rw [HN.out]; rfl, G0.out.trans ((zn GW.out _).mono (by omega))⟩
     ·have t0 : decide ((dn : Int) < 0) = false := by rw [decide_eq_false_iff_not]; omega
      obtain ⟨b2, o2, AL, cL, rfl, hb2, hlc, hnc⟩ := HDM.out dn rfl a1
      have hlc' := zc GF.out hb2 hlc
      have t1 : decide (s.1.length <= dn) = false := by rw [decide_eq_false_iff_not]; omega
      have t2 : decide (lv < 1) = false := by rw [decide_eq_false_iff_not]; omega
      have t3 : decide ((n : Int) < lv) = true := decide_eq_true a3
      have HN := hid (show res = 16 by rw [HR2.out, HNOF.out (by first | rfl | trivial)]; rfl)
      clear a2 a3 hlc
      go_wp2
      rw [<- HWf.out]
      go_quiet (fail)
      go_wp2
      go_ret
      exact ⟨by rw [HN.out]; rfl, G0.out.trans ((zn GW.out _).mono (by omega))⟩
     ·have t0 : decide ((dn : Int) < 0) = false := by rw [decide_eq_false_iff_not]; omega
      obtain ⟨b2, o2, AL, cL, rfl, hb2, hlc, hnc⟩ := HDM.out dn rfl a1
      have hlc' := zc GF.out hb2 hlc
      have t1 : decide (s.1.length <= dn) = false := by rw [decide_eq_false_iff_not]; omega
      have t2 : decide (lv < 1) = false := by rw [decide_eq_false_iff_not]; omega
      have t3 : decide ((n : Int) < lv) = false := by rw [decide_eq_false_iff_not]; omega
      have t4 : decide ((nm : Int) < 1) = true := by rw [decide_eq_true_eq]; omega
      have t4' : decide (nm < 1) = true := by rw [decide_eq_true_eq]; omega
      have HN := hid (show res = 16 by rw [HR2.out, HNOF.out (by first | rfl | trivial)]; rfl)
      clear a2 a3 a4 hlc
      go_wp2
      rw [<- HWf.out]
      go_quiet (fail)
      go_wp2
      go_ret
      exact ⟨by rw [HN.out]; rfl, G0.out.trans ((zn GW.out _).mono (by omega))⟩
     ·have t0 : decide ((dn : Int) < 0) = false := by rw [decide_eq_false_iff_not]; omega
      obtain ⟨b2, o2, AL, cL, rfl, hb2, hlc, hnc⟩ := HDM.out dn rfl a1
      have hlc' := zc GF.out hb2 hlc
      have t1 : decide (s.1.length <= dn) = false := by rw [decide_eq_false_iff_not]; omega
      have t2 : decide (lv < 1) = false := by rw [decide_eq_false_iff_not]; omega
      have t3 : decide ((n : Int) < lv) = false := by rw [decide_eq_false_iff_not]; omega
      have t4 : decide ((nm : Int) < 1) = false := by rw [decide_eq_false_iff_not]; omega
      have t4' : decide (nm < 1) = false := by rw [decide_eq_false_iff_not]; omega
      have t5 : decide ((6 : Int) < (nm : Int)) = true := by rw [decide_eq_true_eq]; omega
      have t5' : decide (6 < nm) = true := by rw [decide_eq_true_eq]; omega
      have HN := hid (show res = 16 by rw [HR2.out, HNOF.out (by first | rfl | trivial)]; rfl)
      clear a2 a3 a4 a5 hlc
      go_wp2
      rw [<- HWf.out]
      go_quiet (fail)
      go_wp2
      go_ret
      exact ⟨by rw [HN.out]; rfl, G0.out.trans ((zn GW.out _).mono (by omega))⟩
     ·have t0 : decide ((dn : Int) < 0) = false := by rw [decide_eq_false_iff_not]; omega
      obtain ⟨b2, o2, AL, cL, rfl, hb2, hlc, hnc⟩ := HDM.out dn rfl a1
      have hlc' := zc GF.out hb2 hlc
      have t1 : decide (s.1.length <= dn) = false := by rw [decide_eq_false_iff_not]; omega
      have t2 : decide (lv < 1) = false := by rw [decide_eq_false_iff_not]; omega
      have t3 : decide ((n : Int) < lv) = false := by rw [decide_eq_false_iff_not]; omega
      have t4 : decide ((nm : Int) < 1) = false := by rw [decide_eq_false_iff_not]; omega
      have t4' : decide (nm < 1) = false := by rw [decide_eq_false_iff_not]; omega
      have t5 : decide ((6 : Int) < (nm : Int)) = false := by rw [decide_eq_false_iff_not]; omega
      have t5' : decide (6 < nm) = false := by rw [decide_eq_false_iff_not]; omega
      clear a2 a3 a4 a5 hlc
      subst hok
      have HMF := hid (zB.on (zB.more HMS.out hs) GF.out)
      obtain ⟨wo, rfl⟩ : ∃ wo : World, wo = wr := ⟨_, rfl⟩
      go_wp2
      rw [<- HWf.out]
      go_quiet (fail)
      go_wp2
      have HMN := hid hmn
      go_loopw [9] (fun i wq => RqIn ms lv Wf i wq) (fun i _ => nm - (intOf i).toNat)
      case atStart => exact ⟨0, by omega, rfl, fun j h h' => by omega, zn (Below.refl _ _) _⟩
      case round =>
       clear f0 f1 f2 l0 hlc'
       obtain ⟨j, hj, rfl, hall, hb⟩ := hrel
       have hs3 := hb.size
       have HB3 := hid hb; have HALL3 := hid hall
       have m1 := zc hb (by omega) F1.out
       have m2 := zc hb (by omega) F2.out
       clear hb hall
       by_cases hjl : j < nm
       ·have hjl' : j < ms.length := by have := HMN.out; omega
        obtain ⟨b3, o3, AQ, cQ, rfl, hb3, hcq, hqq⟩ := zbt (zB.on HMF.out HB3.out) hjl'
        have hstep : (mayB ms[j] && decide ((ms[j].length : Int) = lv)) = true -> ∀ i (h : i < ms.length), i < j + 1 -> (mayB ms[i] && decide ((ms[i].length : Int) = lv)) = true := fun h i hi hij => by
             by_cases e : i = j
             ·subst e; exact h
             ·exact HALL3.out i hi (by omega)
        have hbad : (mayB ms[j] && decide ((ms[j].length : Int) = lv)) = false -> ms.all (fun m => mayB m && decide ((m.length : Int) = lv)) = false := fun h => zfw (p := fun m => mayB m && decide ((m.length : Int) = lv)) hjl' h
        generalize ms[j] = m at *
        have HMY := hid (zci (.slice AQ m.length cQ) m wr (zbP hqq).1)
        generalize mayB m = bm at *
        generalize m.length = ml at *
        have HST := hid hstep; have HBD := hid hbad
        have HG := hid hcq
        have G1 := hid m1; have G2 := hid m2
        clear hqq hstep hbad
        go_wp2_with fail
        refine HMY.out.mono ?_
        rintro e w4 ⟨rfl, hq4⟩
        have m1 := (hq4.cell _).trans G1.out
        have m2 := (hq4.cell _).trans G2.out
        have m3 := (hq4.cell _).trans HG.out
        have B4 := hid (HB3.out.trans (hq4.below _))
        clear hq4
        have hw3 : bm = false \/ (bm = true /\ (ml : Int) ≠ lv) \/ (bm = true /\ (ml : Int) = lv) := by cases bm <;> by_cases h : (ml : Int) = lv <;> simp [h]
        rcases hw3 with rfl | ⟨rfl, hne⟩ | ⟨rfl, heq⟩
        ·have HN := hid (show res = 16 by rw [HR2.out, HNOF.out (HBD.out rfl)]; rfl)
         go_wp2
         go_quiet (fail)
         go_wp2
         go_ret
         exact ⟨by rw [HN.out]; rfl, G0.out.trans ((zn (GW.out.trans (B4.out.mono (by omega))) _).mono (by omega))⟩
        ·have t7 : ((ml : Int) != lv) = true := by simpa using hne
         have HN := hid (show res = 16 by rw [HR2.out, HNOF.out (HBD.out (by rw [decide_eq_false hne]; rfl))]; rfl)
         clear hne
         go_wp2
         go_quiet (fail)
         go_wp2
         go_ret
         exact ⟨by rw [HN.out]; rfl, G0.out.trans ((zn (GW.out.trans (B4.out.mono (by omega))) _).mono (by omega))⟩
        ·have t7 : ((ml : Int) != lv) = false := by simpa using heq
         have HS := hid (HST.out (by rw [decide_eq_true heq]; rfl))
         clear heq
         go_wp2
         go_quiet (fail)
         go_wp2
         go_roundw
         case rel => exact ⟨j + 1, by have := HMN.out; omega, by go_num, HS.out, zn B4.out _⟩
         case measure => simp [intOf]; omega
       ·have hal := zdp (p := fun m => mayB m && decide ((m.length : Int) = lv)) (l := ms) (fun i hi => HALL3.out i hi (by have := HMN.out; omega))
        have HY := hid (HYESF.out hal)
        clear hal
        go_wp2
        go_roundw
        case rel => exact ⟨k + 1, by omega, by go_num, HY.out, GW.out.trans (HB3.out.mono (by omega))⟩
        case measure => simp [intOf]; omega
    ·have hall := zdp (p := zcb s) (l := q.2) (fun j hj => HALL.out j hj (by omega))
     have HN := hid (show res = 0 by rw [HR2.out, hall]; rfl)
     clear hall
     go_wp2
     go_ret
     exact ⟨by rw [HN.out]; rfl, G0.out.trans (HB.out.mono (by omega))⟩
def zej (fs : List zaS) (i : Nat) (n : Int) : Int := fs.foldl (fun n f => if f.1 = (i : Int) /\ n < f.2.1 then f.2.1 else n) n
theorem zl6 (fs : List zaS) (l : List Int) (i : Nat) (hi : i < l.length) (h0 : ∀ f ∈ fs, 0 <= f.1) : (fs.foldl zaR l).getD i 0 = zej fs i (l.getD i 0) := by
 induction fs generalizing l with
 | nil => rfl
 | cons f fs ih =>
   rw [List.foldl_cons, ih _ (by rw [zcQ]; exact hi) (fun g hg => h0 g (List.mem_cons_of_mem _ hg))]
   unfold zej
   rw [List.foldl_cons]
   congr 1
   have hf := h0 f List.mem_cons_self
   unfold zaR
   by_cases he : f.1.toNat = i
   ·rw [he, List.getD_eq_getElem?_getD (l := l.set _ _), List.getElem?_set_self hi]
    have : f.1 = (i : Int) := by omega
    simp only [this, true_and, Option.getD_some]
    split <;> omega
   ·rw [List.getD_eq_getElem?_getD (l := l.set _ _), List.getElem?_set_ne he, <- List.getD_eq_getElem?_getD]
    have : f.1 ≠ (i : Int) := by omega
    simp [this]
theorem zl8 {fs : List zaS} {k : Nat} (hk : k < fs.length) (i : Nat) (n : Int) : zej (fs.take (k + 1)) i n = if fs[k].1 = (i : Int) /\ zej (fs.take k) i n < fs[k].2.1 then fs[k].2.1 else zej (fs.take k) i n := by
 unfold zej
 rw [List.take_succ_eq_append_getElem hk, List.foldl_append]; rfl
def RnRel (q : zX) (W0 : World) (out i : Value) (wr : World) : Prop := ∃ k : Nat, k <= q.1.length /\ i = .int .i64 k /\ wr.ownsRow W0.heap.size 3 1 out k (zk ((zaP q).take k)) /\ Below W0.heap.size W0 wr
def RnIn (q : zX) (i : Nat) (n : Int) (wo : World) (s5 s6 : Value) (wr : World) : Prop := ∃ j : Nat, j <= q.2.length /\ s6 = .int .i64 j /\ s5 = .int .i64 (zej (q.2.take j) i n) /\ Qu wo wr
set_option maxRecDepth 100000 in
set_option maxHeartbeats 1600000 in
theorem zjp (v : Value) (q : zX) (w : World) (hv : zaH w w.heap.size v q) (hq : q.1.length <= 1000) (h0 : ∀ f ∈ q.2, 0 <= f.1) :
  Calls Tryz.prog 21 #[v] w (zfL (zaP q) w) := by
 obtain ⟨i0, hi, hz0, hz1, hz2⟩ := info_parts zaE
 obtain ⟨A1, c1, A2, c2, rfl, h1, h2⟩ := hv
 obtain ⟨hc1, hm1⟩ := h1.cap
 obtain ⟨hc2, hm2⟩ := h2.cap
 obtain ⟨W0, hW0⟩ : ∃ W, W = w.alloc (.cells #[.slice A1 q.1.length c1, .slice A2 q.2.length c2] 30) := ⟨_, rfl⟩
 have g0 : Below w.heap.size w W0 := by rw [hW0]; exact bl1 _ _
 have z0 : W0.heap.size = w.heap.size + 1 := by rw [hW0]; simp
 have y0 : W0.cell? ⟨w.heap.size, 0, none⟩ = some (.slice A1 q.1.length c1) := by rw [hW0]; simp [go_sem]
 have y1 : W0.cell? ⟨w.heap.size, 1, none⟩ = some (.slice A2 q.2.length c2) := by rw [hW0]; simp [go_sem]
 have HW0 := hid hW0
 have G0 := hid g0; have Y0 := hid y0; have Y1 := hid y1
 have H1 := hid (zm.on h1 g0)
 have H2 := hid (zag.on h2 g0)
 have hnl : (zaP q).length = q.1.length := zdg _ _
 have HNA := hid (fun (i : Nat) (hi : i < q.1.length) => show (zaP q).getD i 0 = zej q.2 i (q.1.getD i 0) from zl6 q.2 q.1 i hi h0)
 have HNL := hid hnl
 clear hW0 g0 y0 y1 h1 h2 hnl h0
 go_enter Tryz.func21, Tryz.ntmps21
 go_wp2
 rw [<- HW0.out]
 go_loopw [3, 4] (fun out i wr => RnRel q W0 out i wr) (fun _ i _ => q.1.length - (intOf i).toNat)
 case atStart => exact ⟨0, by omega, rfl, World.ownsRow_nil _ _ _ _, Below.refl _ _⟩
 case round =>
  obtain ⟨k, hk, rfl, hown, hb⟩ := hrel
  have hs := hb.size
  have HB := hid hb; have HOW := hid hown
  have y0 := zc hb (by omega) Y0.out
  have y1 := zc hb (by omega) Y1.out
  have Y1r := hid y1
  clear hb hown
  by_cases hlt : k < q.1.length
  ·obtain ⟨b, off, rfl, hbl, hcell, hii⟩ := zb4 H1.out hlt
   have hcw := zc HB.out hbl hcell
   have hna := HNA.out k hlt
   have e1 : (zaP q).take (k + 1) = (zaP q).take k ++ [(zaP q).getD k 0] := by
    have := HNL.out
    rw [List.take_succ_eq_append_getElem (by omega), List.getD_eq_getElem?_getD, List.getElem?_eq_getElem (show k < (zaP q).length by omega)]; rfl
   rw [hna] at e1
   generalize q.1.getD k 0 = x0 at *
   have E1 := hid e1
   clear e1 hcell hii hna
   obtain ⟨wo, rfl⟩ : ∃ wo : World, wo = wr := ⟨_, rfl⟩
   go_wp2
   go_loopw [5, 6] (fun s5 s6 wr => RnIn q k x0 wo s5 s6 wr) (fun _ s6 _ => q.2.length - (intOf s6).toNat)
   case atStart => exact ⟨0, by omega, rfl, rfl, Qu.refl _⟩
   case round =>
    clear y0 y1 hcw
    obtain ⟨j, hj, rfl, rfl, hqu⟩ := hrel
    have HQU := hid hqu
    have y1 : wr.cell? ⟨w.heap.size, 1, none⟩ = _ := (hqu.cell _).trans Y1r.out
    clear hqu
    by_cases hjl : j < q.2.length
    ·obtain ⟨b2, o2, AM, cM, rfl, hbl2, q0, q1, q2, i1, i2, hms⟩ := zbG H2.out hjl
     have q0' : wr.cell? ⟨b2, o2 + j * 3, none⟩ = _ := (HQU.out.cell _).trans (zc HB.out hbl2 q0)
     have q1' : wr.cell? ⟨b2, o2 + j * 3 + 1, none⟩ = _ := (HQU.out.cell _).trans (zc HB.out hbl2 q1)
     have e2 := zl8 hjl k x0
     generalize zej (q.2.take j) k x0 = n0 at *
     generalize q.2[j].1 = d at *
     generalize q.2[j].2.1 = lv at *
     have E2 := hid e2
     clear e2 q0 q1 q2 i1 i2 hms
     have hways : (d ≠ (k : Int)) \/ (d = (k : Int) /\ ¬ n0 < lv) \/ (d = (k : Int) /\ n0 < lv) := by omega
     rcases hways with a | ⟨a, a'⟩ | ⟨a, a'⟩
     ·have t1 : (d == (k : Int)) = false := by rw [beq_eq_false_iff_ne]; exact a
      have HN := hid (show zej (q.2.take (j + 1)) k x0 = n0 by rw [E2.out, if_neg (fun h => a h.1)])
      clear a
      go_wp2
      go_roundw
      case rel => exact ⟨j + 1, by omega, by go_num, by rw [HN.out], HQU.out⟩
      case measure => simp [intOf]; omega
     ·have t1 : (d == (k : Int)) = true := by rw [beq_iff_eq]; exact a
      have t2 : decide (n0 < lv) = false := decide_eq_false a'
      have HN := hid (show zej (q.2.take (j + 1)) k x0 = n0 by rw [E2.out, if_neg (fun h => a' h.2)])
      clear a a'
      go_wp2
      go_roundw
      case rel => exact ⟨j + 1, by omega, by go_num, by rw [HN.out], HQU.out⟩
      case measure => simp [intOf]; omega
     ·have t1 : (d == (k : Int)) = true := by rw [beq_iff_eq]; exact a
      have t2 : decide (n0 < lv) = true := decide_eq_true a'
      have HN := hid (show zej (q.2.take (j + 1)) k x0 = lv by rw [E2.out, if_pos ⟨a, a'⟩])
      clear a a'
      go_wp2
      go_roundw
      case rel => exact ⟨j + 1, by omega, by go_num, by rw [HN.out], HQU.out⟩
      case measure => simp [intOf]; omega
    ·obtain rfl : j = q.2.length := by omega
     rw [List.take_of_length_le (by omega)]
     have B9 := hid (HB.out.trans ((HQU.out.below _).mono hs))
     have HOW9 := hid (zx HOW.out (HQU.out.below _))
     go_wp2_with (at_builtin; refine zr ?_)
     refine zar ?_
     refine zav (.tmp 50) (.tmp 52) 27 27 rfl rfl W0.heap.size 3 i0 (.int .i64 0) 1 8 Tryz.underlying27 hi hz0 hz1 hz2 rfl (by decide) _ k (zk ((zaP q).take k)) rfl (HOW9.out.alloc _) (.slice (some ⟨wr.heap.size, 0, none⟩) 1 1) 1 (zk [zej q.2 k x0]) rfl (Src.ofSlice _ Tryz.underlying27 _ 1 1 _ rfl (zG _ _ _ rfl) (by simp [zk]; rfl)) (by first | omega | (simp only [maxLen]; omega)) (by first | omega | (simp only [maxLen]; omega)) (by simp; have := B9.out.size; omega) ?_
     intro v' w' hown' hg' hb'
     have hr : RnRel q W0 v' (.int .i64 ((k : Int) + 1)) w' := ⟨k + 1, by omega, by go_num, by rw [E1.out, za0]; exact hown', ((B9.out.alloc B9.out.size _).trans hb')⟩
     have HR := hid hr
     clear hr hown' hg' hb'
     go_wp2
     go_roundw
     case rel => exact HR.out
     case measure => simp [intOf]; omega
  ·obtain rfl : k = q.1.length := by omega
   have hfin : wr.ownsRow w.heap.size 3 1 u3 (zaP q).length (zk (zaP q)) := by
    have := HOW.out
    rw [List.take_of_length_le (by rw [HNL.out]; omega)] at this
    rw [HNL.out]
    exact zw this (by omega)
   have HF := hid hfin
   clear hfin HOW
   go_wp2
   go_ret
   exact ⟨_, rfl, HF.out, G0.out.trans (HB.out.mono (by omega))⟩
end Go.Proofs.YtgoapnkdcfcjgaaGreat
