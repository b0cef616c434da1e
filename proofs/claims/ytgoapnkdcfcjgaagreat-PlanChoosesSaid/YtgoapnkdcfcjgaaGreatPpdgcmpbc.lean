/- 4 texts of this claim, in build order. -/
import Derived.Test.YtgoapnkdcfcjgaaGreatPommbaifj
import Derived.Test.YtgoapnkdcfcjgaaGreatPlmoakpjd
import Derived.BigQuiet
import Derived.Test.YtgoapnkdcfcjgaaGreatPibnphadk
import Derived.Test.YtgoapnkdcfcjgaaGreatPbngnclea
import Derived.Test.YtgoapnkdcfcjgaaGreatPldpedafh
import Derived.Deep.QuietTactic
import Derived.Test.YtgoapnkdcfcjgaaGreatPpmcefhdi
set_option linter.unusedVariables false
set_option linter.unusedSimpArgs false
namespace Go.Proofs.YtgoapnkdcfcjgaaGreat
open Go.ChangeShapes Go.WideShapes Go.ChangeAt Go.RowKit
theorem zok (n : Int) (w : World) : Calls Tryz.prog 137 #[.int .i64 n, .int .i64 2305843009213693952] w (za5 (.bool (valB n)) w) := by
 unfold valB
 by_cases h : -2305843009213693952 <= n
 ·have d1 : decide (-2305843009213693952 <= n) = true := decide_eq_true h
  rw [d1, Bool.true_and]
  go_enter Tryz.func137, Tryz.ntmps137
  go_wp2
  go_ret
  exact ⟨rfl, Qu.refl _⟩
 ·have d1 : decide (-2305843009213693952 <= n) = false := decide_eq_false h
  rw [d1, Bool.false_and]
  go_enter Tryz.func137, Tryz.ntmps137
  go_wp2
  go_ret
  exact ⟨rfl, Qu.refl _⟩
def RvRel {α : Type} (p : α -> Bool) (l : List α) (w : World) (i : Value) (wr : World) : Prop := ∃ k : Nat, k <= l.length /\ i = .int .i64 k /\ (∀ j (h : j < l.length), j < k -> p l[j] = true) /\ Qu w wr
set_option maxRecDepth 100000 in
set_option maxHeartbeats 800000 in
theorem zgW (v : Value) (l : List Int) (w : World) (hv : zC w w.heap.size [v] l) :
  Calls Tryz.prog 113 #[.int .i64 l.length, v] w (za5 (.bool (l.all valB)) w) := by
 obtain ⟨A, c, e, hc, hm⟩ := hv.open_
 simp only [List.cons.injEq, and_true] at e
 subst e
 have HV := hid hv
 have t0 : ((l.length : Int) != (l.length : Int)) = false := by simp
 clear hv
 go_enter Tryz.func113, Tryz.ntmps113
 go_wp2
 go_loopw [5] (fun i wr => RvRel valB l w i wr) (fun i _ => l.length - (intOf i).toNat)
 case atStart => exact ⟨0, by omega, rfl, fun j h h' => by omega, Qu.refl _⟩
 case round =>
  obtain ⟨k, hk, rfl, hall, hq⟩ := hrel
  have HQ := hid hq; have HALL := hid hall
  clear hq hall
  by_cases hlt : k < l.length
  ·obtain ⟨b, off, rfl, hbl, hcell, -⟩ := zbW HV.out hlt
   replace hcell : wr.cell? ⟨b, off + k, none⟩ = _ := (HQ.out.cell _).trans hcell
   have hst := zhs (p := valB) HALL.out hlt
   have hno : valB l[k] = false -> l.all valB = false := zfw (p := valB) hlt
   generalize l[k] = n at *
   have HI := hid (zok n wr)
   generalize valB n = bn at *
   have HST := hid hst; have HNO := hid hno
   clear hst hno
   go_wp2_with fail
   refine HI.out.mono ?_
   rintro e w1 ⟨rfl, hq1⟩
   have HQ1 := hid (HQ.out.trans hq1); clear hq1
   cases bn
   ·have HN := hid (HNO.out (by first | rfl | trivial))
    go_wp2
    go_ret
    exact ⟨by rw [HN.out]; rfl, HQ1.out⟩
   ·have HS := hid (HST.out (by first | rfl | trivial))
    go_wp2
    go_roundw
    case rel => exact ⟨k + 1, by omega, by go_num, HS.out, HQ1.out⟩
    case measure => simp [intOf]; omega
  ·have HN := hid (zdp (p := valB) (l := l) (fun j hj => HALL.out j hj (by omega)))
   go_wp2
   go_ret
   exact ⟨by rw [HN.out]; rfl, HQ.out⟩
theorem ziW (f : zq) : zbl f = (f.2.all valB && decide (f.2.length <= 2) && decide (f.1.length <= 3) && f.1.all mayB) := by
 unfold zbl
 rw [zfj, zfj]
 cases f.1.all mayB <;> cases f.2.all valB <;> cases decide (f.1.length <= 3) <;> cases decide (f.2.length <= 2) <;> rfl
set_option maxRecDepth 100000 in
set_option maxHeartbeats 1600000 in
theorem zf4 (v : Value) (f : zq) (w : World) (hv : zdu w w.heap.size v f) :
  Calls Tryz.prog 75 #[v] w (zY (.bool (zbl f)) w) := by
 obtain ⟨A1, c1, A2, c2, rfl, h1, h2⟩ := hv
 obtain ⟨hc1, hm1⟩ := h1.cap
 obtain ⟨hc2, hm2⟩ := h2.cap
 obtain ⟨W0, hW0⟩ : ∃ W, W = w.alloc (.cells #[.slice A1 f.1.length c1, .slice A2 f.2.length c2] 60) := ⟨_, rfl⟩
 have g0 : Below w.heap.size w W0 := by rw [hW0]; exact bl1 _ _
 have z0 : W0.heap.size = w.heap.size + 1 := by rw [hW0]; simp
 have y0 : W0.cell? ⟨w.heap.size, 0, none⟩ = some (.slice A1 f.1.length c1) := by rw [hW0]; simp [go_sem]
 have y1 : W0.cell? ⟨w.heap.size, 1, none⟩ = some (.slice A2 f.2.length c2) := by rw [hW0]; simp [go_sem]
 have HW0 := hid hW0
 have G0 := hid g0; have Y0 := hid y0; have Y1 := hid y1
 have H1 := hid (zB.on h1 g0)
 have HVS := hid (zgW _ f.2 W0 (zm.on h2 g0))
 have hres := ziW f
 generalize zbl f = res at *
 generalize f.2.all valB = bV at *
 generalize hn2 : f.2.length = n2 at *
 generalize hn1 : f.1.length = n1 at *
 have HRES := hid hres
 have HN1 := hid hn1
 clear hW0 g0 h1 h2 hres
 go_enter Tryz.func75, Tryz.ntmps75
 go_wp2_with fail
 rw [<- HW0.out]
 refine HVS.out.mono ?_
 rintro e w1 ⟨rfl, hq1⟩
 have HQ1 := hid hq1
 replace y0 : w1.cell? ⟨w.heap.size, 0, none⟩ = _ := (hq1.cell _).trans Y0.out
 replace y1 : w1.cell? ⟨w.heap.size, 1, none⟩ = _ := (hq1.cell _).trans Y1.out
 clear hq1
 cases bV
 ·have HN := hid (show res = false by rw [HRES.out]; rfl)
  go_wp2
  go_ret
  exact ⟨by rw [HN.out]; rfl, G0.out.trans (HQ1.out.below _)⟩
 ·by_cases l2 : 2 < n2
  ·have t1 : decide (2 < n2) = true := decide_eq_true l2
   have t1' : decide ((2 : Int) < (n2 : Int)) = true := by rw [decide_eq_true_eq]; omega
   have HN := hid (show res = false by rw [HRES.out, decide_eq_false (show ¬ n2 <= 2 by omega)]; rfl)
   clear l2
   go_wp2
   go_ret
   exact ⟨by rw [HN.out]; rfl, G0.out.trans (HQ1.out.below _)⟩
  have t1 : decide (2 < n2) = false := decide_eq_false l2
  have t1' : decide ((2 : Int) < (n2 : Int)) = false := by rw [decide_eq_false_iff_not]; omega
  by_cases l1 : 3 < n1
  ·have t2 : decide (3 < n1) = true := decide_eq_true l1
   have t2' : decide ((3 : Int) < (n1 : Int)) = true := by rw [decide_eq_true_eq]; omega
   have HN := hid (show res = false by rw [HRES.out, decide_eq_false (show ¬ n1 <= 3 by omega)]; simp)
   clear l2 l1
   go_wp2
   go_ret
   exact ⟨by rw [HN.out]; rfl, G0.out.trans (HQ1.out.below _)⟩
  have t2 : decide (3 < n1) = false := decide_eq_false l1
  have t2' : decide ((3 : Int) < (n1 : Int)) = false := by rw [decide_eq_false_iff_not]; omega
  have HR := hid (show res = f.1.all mayB by rw [HRES.out, decide_eq_true (show n1 <= 3 by omega), decide_eq_true (show n2 <= 2 by omega)]; simp)
  clear l2 l1
  go_wp2
  go_loopw [4] (fun i wr => RvRel mayB f.1 W0 i wr) (fun i _ => n1 - (intOf i).toNat)
  case atStart => exact ⟨0, by omega, rfl, fun j h h' => by omega, HQ1.out⟩
  case round =>
   clear y0 y1
   obtain ⟨k, hk, rfl, hall, hq⟩ := hrel
   have HQ := hid hq; have HALL := hid hall
   have y0 : wr.cell? ⟨w.heap.size, 0, none⟩ = _ := (hq.cell _).trans Y0.out
   clear hq hall
   by_cases hlt : k < n1
   ·have hlt' : k < f.1.length := by have := HN1.out; omega
    obtain ⟨b3, o3, AQ, cQ, rfl, hb3, hcq, hqq⟩ := zbt H1.out hlt'
    replace hcq : wr.cell? ⟨b3, o3 + k, none⟩ = _ := (HQ.out.cell _).trans hcq
    have hqs := (zbP (zQ.on hqq (HQ.out.below _))).1
    have hst := zhs (p := mayB) HALL.out hlt'
    have hno : mayB f.1[k] = false -> f.1.all mayB = false := zfw (p := mayB) hlt'
    generalize f.1[k] = m at *
    have HMY := hid (zci (.slice AQ m.length cQ) m wr hqs)
    generalize mayB m = bm at *
    have HST := hid hst; have HNO := hid hno
    clear hst hno hqq hqs
    go_wp2_with fail
    refine HMY.out.mono ?_
    rintro e w4 ⟨rfl, hq4⟩
    have HQ4 := hid (HQ.out.trans hq4)
    clear hq4
    cases bm
    ·have HN := hid (show res = false by rw [HR.out, HNO.out (by first | rfl | trivial)])
     go_wp2
     go_ret
     exact ⟨by rw [HN.out]; rfl, G0.out.trans (HQ4.out.below _)⟩
    ·have HS := hid (HST.out (by first | rfl | trivial))
     go_wp2
     go_roundw
     case rel => exact ⟨k + 1, by have := HN1.out; omega, by go_num, HS.out, HQ4.out⟩
     case measure => simp [intOf]; omega
   ·have HN := hid (show res = true by rw [HR.out]; exact zdp (p := mayB) (l := f.1) (fun i hi => HALL.out i hi (by have := HN1.out; omega)))
    go_wp2
    go_ret
    exact ⟨by rw [HN.out]; rfl, G0.out.trans (HQ.out.below _)⟩
def RmB (s : ze) (l : List zq) (W0 : World) (i : Value) (wr : World) : Prop := ∃ k : Nat, k <= l.length /\ i = .int .i64 k /\ (∀ j (h : j < l.length), j < k -> zaC s l[j] = true) /\ Below W0.heap.size W0 wr
def RmI (s : ze) (f : zq) (W0 : World) (i : Value) (wr : World) : Prop := ∃ k : Nat, k <= f.1.length /\ i = .int .i64 k /\ (∀ j, j < k -> zc6 s f j = true) /\ Below W0.heap.size W0 wr
set_option maxRecDepth 100000 in
set_option maxHeartbeats 3200000 in
theorem ziK (v x : Value) (s : ze) (l : List zq) (w : World) (hv : zD w w.heap.size v s) (hl : s.1.length <= 1000) (hx : zj 2 za7 w w.heap.size [x] l) (hSM : ∀ W, zD W W.heap.size v s -> Calls Tryz.prog 36 #[v] W (zY (.bool (mayS s)) W)) :
  Calls Tryz.prog 49 #[v, x] w (zY (.int .i64 (zbe s l)) w) := by
 have hv0 := hv
 obtain ⟨A1, c1, A2, c2, A3, c3, rfl, h1, h2, h3⟩ := hv
 obtain ⟨hc1, hm1⟩ := h1.cap
 obtain ⟨X, d, e, hc, hm⟩ := hx.open_
 simp only [List.cons.injEq, and_true] at e
 subst e
 obtain ⟨W0, hW0⟩ : ∃ W, W = w.alloc (.cells #[.slice A1 s.1.length c1, .slice A2 s.2.1.length c2, .slice A3 s.2.2.length c3] 26) := ⟨_, rfl⟩
 have g0 : Below w.heap.size w W0 := by rw [hW0]; exact bl1 _ _
 have z0 : W0.heap.size = w.heap.size + 1 := by rw [hW0]; simp
 have y0 : W0.cell? ⟨w.heap.size, 0, none⟩ = some (.slice A1 s.1.length c1) := by rw [hW0]; simp [go_sem]
 have y1 : W0.cell? ⟨w.heap.size, 1, none⟩ = some (.slice A2 s.2.1.length c2) := by rw [hW0]; simp [go_sem]
 have y2 : W0.cell? ⟨w.heap.size, 2, none⟩ = some (.slice A3 s.2.2.length c3) := by rw [hW0]; simp [go_sem]
 have HW0 := hid hW0
 have G0 := hid g0; have Y0 := hid y0; have Y1 := hid y1
 have HSM := hid (hSM W0 (hv0.on g0))
 have HX := hid (zab.on hx g0)
 have H1 := hid (zam.on h1 g0)
 have hres : zbe s l = if !mayS s then 11 else if l.length = 0 \/ 8 < l.length then 13 else if l.any (fun f => !zaC s f) then 12 else 0 := rfl
 have hany : (l.any fun f => !zaC s f) = !(l.all (zaC s)) := by rw [<- zfj, Bool.not_not]
 rw [hany] at hres
 generalize zbe s l = res at *
 generalize mayS s = bS at *
 have HRES := hid hres
 clear hW0 g0 y0 y1 h1 h2 h3 hv0 hx hres hany hSM
 go_enter Tryz.func49, Tryz.ntmps49
 go_wp2_with fail
 rw [<- HW0.out]
 refine HSM.out.mono ?_
 rintro e w1 ⟨rfl, hb1⟩
 have HB1 := hid hb1; clear hb1
 cases bS
 ·have HN := hid (show res = 11 by rw [HRES.out]; rfl)
  go_wp2
  go_ret
  exact ⟨by rw [HN.out]; rfl, G0.out.trans (HB1.out.mono (by omega))⟩
 ·by_cases l0 : l.length < 1
  ·have t1 : decide (l.length < 1) = true := decide_eq_true l0
   have t1' : decide ((l.length : Int) < 1) = true := by rw [decide_eq_true_eq]; omega
   have HN := hid (show res = 13 by rw [HRES.out, if_neg (show ¬ (!true) = true by simp), if_pos (.inl (by omega))])
   clear l0
   go_wp2
   go_ret
   exact ⟨by rw [HN.out]; rfl, G0.out.trans (HB1.out.mono (by omega))⟩
  have t1 : decide (l.length < 1) = false := decide_eq_false l0
  have t1' : decide ((l.length : Int) < 1) = false := by rw [decide_eq_false_iff_not]; omega
  by_cases l8 : 8 < l.length
  ·have t2 : decide ((8 : Int) < (l.length : Int)) = true := by rw [decide_eq_true_eq]; omega
   have t2' : decide (8 < l.length) = true := decide_eq_true l8
   have HN := hid (show res = 13 by rw [HRES.out, if_neg (show ¬ (!true) = true by simp), if_pos (.inr l8)])
   clear l8 l0
   go_wp2
   go_ret
   exact ⟨by rw [HN.out]; rfl, G0.out.trans (HB1.out.mono (by omega))⟩
  have t2 : decide ((8 : Int) < (l.length : Int)) = false := by rw [decide_eq_false_iff_not]; omega
  have t2' : decide (8 < l.length) = false := decide_eq_false l8
  have HR := hid (show res = if !(l.all (zaC s)) then 12 else 0 by rw [HRES.out, if_neg (show ¬ (!true) = true by simp), if_neg (by omega)])
  clear l8 l0 HRES
  go_wp2
  go_loopw [6] (fun i wr => RmB s l W0 i wr) (fun i _ => l.length - (intOf i).toNat)
  case atStart => exact ⟨0, by omega, rfl, fun j h h' => by omega, HB1.out⟩
  case round =>
   obtain ⟨k, hk, rfl, hall, hb⟩ := hrel
   have hs := hb.size
   have HB := hid hb; have HALL := hid hall
   clear hb hall
   by_cases hlt : k < l.length
   ·obtain ⟨b, off, AP, cP, AV, cV, rfl, hbl, q0, q1, r0, r1⟩ := zbD (zab.stays HX.out HB.out) hlt
    have hst := zhs (p := zaC s) HALL.out hlt
    have hno : zaC s l[k] = false -> l.all (zaC s) = false := zfw (p := zaC s) hlt
    generalize l[k] = f at *
    obtain ⟨hcP, hmP⟩ := r0.cap
    have hfb : zaC s f = ((zbl f && decide (f.1.length = s.1.length) && decide (f.2.length = s.2.1.length)) && (List.range f.1.length).all (zc6 s f)) := rfl
    obtain ⟨Wf, hWf⟩ : ∃ W, W = wr.alloc (.cells #[.slice AP f.1.length cP, .slice AV f.2.length cV] 60) := ⟨_, rfl⟩
    have gf : Below wr.heap.size wr Wf := by rw [hWf]; exact bl1 _ _
    have zf : Wf.heap.size = wr.heap.size + 1 := by rw [hWf]; simp
    have f0 : Wf.cell? ⟨wr.heap.size, 0, none⟩ = some (.slice AP f.1.length cP) := by rw [hWf]; simp [go_sem]
    have f1 : Wf.cell? ⟨wr.heap.size, 1, none⟩ = some (.slice AV f.2.length cV) := by rw [hWf]; simp [go_sem]
    have HPF := hid (zf4 _ f Wf ⟨AP, cP, AV, cV, rfl, zB.on (zB.more r0 hs) gf, zm.on (zm.more r1 hs) gf⟩)
    have HR0 := hid (zB.on (zB.more r0 hs) gf)
    have f0i := f0; have f1i := f1
    rw [hWf] at f0i f1i
    have HWf := hid hWf; have GF := hid gf; have F0 := hid f0; have F1 := hid f1
    have GW := hid (HB.out.trans (gf.mono hs))
    generalize zbl f = bP at *
    generalize zaC s f = okb at *
    have HST := hid hst; have HNO := hid hno; have HFB := hid hfb
    clear hWf gf hst hno hfb r0 r1 f0 f1
    go_wp2_with fail
    rw [<- HWf.out]
    refine HPF.out.mono ?_
    rintro e w2 ⟨rfl, hb2⟩
    have B2 := hid hb2
    have GW2 := hid (GW.out.trans (hb2.mono (by omega)))
    have m0 := zc hb2 (by omega) F0.out
    have m1 := zc hb2 (by omega) F1.out
    have k0 := zc GW2.out (by omega) Y0.out
    have k1 := zc GW2.out (by omega) Y1.out
    clear hb2 f0i f1i
    cases bP
    ·have HN := hid (show res = 12 by rw [HR.out, HNO.out (by rw [HFB.out]; rfl)]; rfl)
     go_wp2
     go_ret
     exact ⟨by rw [HN.out]; rfl, G0.out.trans (GW2.out.mono (by omega))⟩
    ·by_cases l1 : f.1.length = s.1.length
     case neg =>
      have s1 : ((f.1.length : Int) != (s.1.length : Int)) = true := by simp; omega
      have HN := hid (show res = 12 by rw [HR.out, HNO.out (by rw [HFB.out, decide_eq_false l1]; rfl)]; rfl)
      clear l1
      go_wp2
      go_ret
      exact ⟨by rw [HN.out]; rfl, G0.out.trans (GW2.out.mono (by omega))⟩
     case pos =>
     have s1 : ((f.1.length : Int) != (s.1.length : Int)) = false := by simp [l1]
     by_cases l2 : f.2.length = s.2.1.length
     case neg =>
      have s2 : ((f.2.length : Int) != (s.2.1.length : Int)) = true := by simp; omega
      have HN := hid (show res = 12 by rw [HR.out, HNO.out (by rw [HFB.out, decide_eq_false l2]; simp)]; rfl)
      clear l1 l2
      go_wp2
      go_ret
      exact ⟨by rw [HN.out]; rfl, G0.out.trans (GW2.out.mono (by omega))⟩
     case pos =>
     have s2 : ((f.2.length : Int) != (s.2.1.length : Int)) = false := by simp [l2]
     have HO := hid (show okb = (List.range f.1.length).all (zc6 s f) by rw [HFB.out, decide_eq_true l1, decide_eq_true l2]; simp)
     have HL := hid l1
     clear l1 l2
     obtain ⟨wo, rfl⟩ : ∃ wo : World, wo = wr := ⟨_, rfl⟩
     go_wp2
     go_loopw [8] (fun i wq => RmI s f Wf i wq) (fun i _ => f.1.length - (intOf i).toNat)
     case atStart => exact ⟨0, by omega, rfl, fun j h => by omega, B2.out⟩
     case round =>
      clear m0 m1 k0 k1 q0 q1
      obtain ⟨j, hj, rfl, hall, hb⟩ := hrel
      have HB3 := hid hb; have HALL3 := hid hall
      have m0 := zc hb (by omega) F0.out
      have GW3 := hid (GW.out.trans (hb.mono (by omega)))
      have k0 := zc GW3.out (by omega) Y0.out
      clear hb hall
      by_cases hjl : j < f.1.length
      ·have hjl2 : j < s.1.length := by have := HL.out; omega
       obtain ⟨b1, o1, AQ, cQ, rfl, hb1, hc1', -⟩ := zbt HR0.out hjl
       obtain ⟨b2, o2, AL, cL, rfl, hb2, -, hc2', -, -⟩ := zfh H1.out hjl2
       have p1 := zc HB3.out hb1 hc1'
       have p2 := zc GW3.out hb2 hc2'
       have hst : zc6 s f j = true -> ∀ i, i < j + 1 -> zc6 s f i = true := fun h i hi => by
            by_cases e : i = j
            ·subst e; exact h
            ·exact HALL3.out i (by omega)
       have hno : zc6 s f j = false -> (List.range f.1.length).all (zc6 s f) = false := fun h => zkQ hjl h
       rw [zkJ hjl hjl2] at hst hno
       generalize f.1[j].length = n1 at *
       generalize s.1[j].2.length = n2 at *
       have HST3 := hid hst; have HNO3 := hid hno
       clear hst hno hc1' hc2'
       by_cases he : n1 = n2
       ·have t3 : ((n1 : Int) != (n2 : Int)) = false := by simp [he]
        have HS := hid (HST3.out (decide_eq_true he))
        clear he
        go_wp2
        go_quiet (fail)
        go_wp2
        go_roundw
        case rel => exact ⟨j + 1, by omega, by go_num, HS.out, zn HB3.out _⟩
        case measure => simp [intOf]; omega
       ·have t3 : ((n1 : Int) != (n2 : Int)) = true := by simp; omega
        have HN := hid (show res = 12 by rw [HR.out, HNO.out (by rw [HO.out, HNO3.out (decide_eq_false he)])]; rfl)
        clear he
        go_wp2
        go_quiet (fail)
        go_wp2
        go_ret
        exact ⟨by rw [HN.out]; rfl, G0.out.trans ((zn GW3.out _).mono (by omega))⟩
      ·have HY := hid (HST.out (by rw [HO.out]; exact ziI.2 (fun i hi => HALL3.out i (by omega))))
       go_wp2
       go_roundw
       case rel => exact ⟨k + 1, by omega, by go_num, HY.out, GW3.out⟩
       case measure => simp [intOf]; omega
   ·have HN := hid (show res = 0 by rw [HR.out, zdp (p := zaC s) (l := l) (fun j hj => HALL.out j hj (by omega))]; rfl)
    go_wp2
    go_ret
    exact ⟨by rw [HN.out]; rfl, G0.out.trans (HB.out.mono (by omega))⟩
end Go.Proofs.YtgoapnkdcfcjgaaGreat
namespace Go.Proofs.YtgoapnkdcfcjgaaGreat
open Go.ChangeShapes Go.WideShapes Go.ChangeAt Go.RowKit Go.Deep
set_option maxHeartbeats 1600000 in
theorem zhm (v x : Value) (l r : List Int) (w : World) (hv : zC w w.heap.size [v] l) (hx : zC w w.heap.size [x] r) :
  Calls Tryz.prog 23 #[v, x] w (za5 (.bool (zak l r)) w) := by
 obtain ⟨A1, c1, e, hc1, hm1⟩ := hv.open_
 simp only [List.cons.injEq, and_true] at e
 subst e
 obtain ⟨A2, c2, e, hc2, hm2⟩ := hx.open_
 simp only [List.cons.injEq, and_true] at e
 subst e
 have S1 := hid hv; have S2 := hid hx; clear hv hx
 go_enter Tryz.func23, Tryz.ntmps23
 by_cases hl : l.length = r.length
 ·have HL := hid hl
  have hci := zel hl
  have HCI := hid hci
  have u0 : ((l.length : Int) != (r.length : Int)) = false := by simp [hl]
  clear hl hci
  go_wp2
  go_loopw [5] (fun i wr => zqf l r w i wr) (fun i _ => l.length - (intOf i).toNat)
  case atStart => exact ⟨0, by omega, rfl, fun j hj => by omega, Qu.refl _⟩
  case round =>
   obtain ⟨k, hk, rfl, hsame, hq⟩ := hrel
   have HS := hid hsame; clear hsame
   by_cases hlt : k < l.length
   ·have hlt' : k < r.length := by have := HL.out; omega
    obtain ⟨b1, o1, rfl, hb1, hx1, hi1⟩ := zb4 S1.out hlt
    obtain ⟨b2, o2, rfl, hb2, hx2, hi2⟩ := zb4 S2.out hlt'
    have g1 : wr.cell? ⟨b1, o1 + k, none⟩ = _ := (hq.cell _).trans hx1
    have g2 : wr.cell? ⟨b2, o2 + k, none⟩ = _ := (hq.cell _).trans hx2
    clear hx1 hx2 hi1 hi2
    have hstep : r.getD k 0 <= l.getD k 0 -> ∀ j, j < k + 1 -> r.getD j 0 <= l.getD j 0 := fun h j hj => by
     by_cases e : j = k
     ·subst e; exact h
     ·exact HS.out j (by omega)
    have hno : ¬ r.getD k 0 <= l.getD k 0 -> zak l r = false := fun h => by
     rw [Bool.eq_false_iff]; exact fun h' => h (HCI.out.1 h' k hlt)
    generalize l.getD k 0 = p1 at *
    generalize r.getD k 0 = p2 at *
    by_cases he : p2 <= p1
    ·have HS' := hid (hstep he)
     have t2 : decide (p1 < p2) = false := by rw [decide_eq_false_iff_not]; omega
     clear hstep hno
     go_wp2
     go_quiet (fail)
     go_wp2
     go_roundw
     case rel => exact ⟨k + 1, by omega, by go_num, HS'.out, hq.drewN _⟩
     case measure => simp [intOf]; omega
    ·have HN := hid (hno he)
     have t2 : decide (p1 < p2) = true := by rw [decide_eq_true_eq]; omega
     clear hstep hno
     go_wp2
     go_quiet (fail)
     go_wp2
     go_ret
     exact ⟨by rw [HN.out]; rfl, hq.drewN _⟩
   ·have HN := hid (HCI.out.2 (fun j hj => HS.out j (by omega)))
    go_wp2
    go_ret
    exact ⟨by rw [HN.out]; rfl, hq⟩
 ·have u0 : ((l.length : Int) != (r.length : Int)) = true := by simp; omega
  have hn : zak l r = false := by unfold zak; rw [decide_eq_false hl]; rfl
  have HN := hid hn
  clear hl hn
  go_wp2
  go_ret
  exact ⟨by rw [HN.out]; rfl, Qu.refl _⟩
end Go.Proofs.YtgoapnkdcfcjgaaGreat
namespace Go.Proofs.YtgoapnkdcfcjgaaGreat
open Go.ChangeShapes Go.WideShapes Go.ChangeAt Go.RowKit
theorem znO {w : World} {B : Nat} {A : Option Addr} {n c : Nat} {l : List (List Int)} (h : zj 1 zC w B [.slice A n c] l) :
  ∃ us : List Value, us.length = l.length /\ Sl w B (.slice A n c) us /\ (∀ u ∈ us, u.oneCell' = true) /\ ∀ i (hi : i < l.length) (hu : i < us.length), zC w B [us[i]] l[i] := by
 obtain ⟨A', c', e, h1, h2, h3⟩ := id h
 simp only [List.cons.injEq, and_true] at e
 injection e with e1 e2 e3
 subst e1; subst e2; subst e3
 have hx : ∀ i : Nat, ∃ u : Value, ∀ (hi : i < l.length), ∃ b off, A = some ⟨b, off, none⟩ /\ b < B /\ w.cell? ⟨b, off + i, none⟩ = some u /\ u.oneCell' = true /\ zC w B [u] l[i] := fun i => by
  by_cases hi : i < l.length
  ·obtain ⟨b, off, Ak, ck, e, hb, hc, hr⟩ := zdb h hi
   exact ⟨_, fun _ => ⟨b, off, e, hb, hc, rfl, hr⟩⟩
  ·exact ⟨.bool false, fun hi' => absurd hi' hi⟩
 refine ⟨(List.range l.length).map fun i => (hx i).choose, by simp, ?_, ?_, ?_⟩
 ·refine ⟨A, c, by simp, by simpa using h1, h2, fun h0 => ?_⟩
  have h0' : 0 < l.length := by simpa using h0
  obtain ⟨b, off, e, hb, -⟩ := (hx 0).choose_spec h0'
  refine ⟨b, off, e, hb, fun j u hu => ?_⟩
  have hj : j < l.length := by have := (List.getElem?_eq_some_iff.1 hu).1; simpa using this
  obtain ⟨b', off', e', -, hc, -⟩ := (hx j).choose_spec hj
  rw [e] at e'
  injection e' with e'
  injection e' with e1 e2
  subst e1; subst e2
  rw [List.getElem?_map, List.getElem?_range hj] at hu
  injection hu with hu
  rw [<- hu]; exact hc
 ·intro u hu
  obtain ⟨i, hi, rfl⟩ := List.mem_map.1 hu
  exact ((hx i).choose_spec (List.mem_range.1 hi)).choose_spec.choose_spec.2.2.2.1
 ·intro i hi hu
  rw [List.getElem_map, List.getElem_range]
  exact ((hx i).choose_spec hi).choose_spec.choose_spec.2.2.2.2
def RVwP (M : List (List Int)) (w : World) (e : Ending) (w' : World) : Prop := ∃ v, e = .returned v /\ zj 1 zC w' w'.heap.size [v] M /\ Below w.heap.size w w'
set_option maxRecDepth 100000 in
set_option maxHeartbeats 1600000 in
theorem zcB (v : Value) (s : ze) (w : World) (hv : zD w w.heap.size v s) (hl : s.1.length <= 1000) (hl3 : s.2.2.length <= 1000) :
  Calls Tryz.prog 22 #[v] w (RVwP (zh s) w) := by
 obtain ⟨i0, hi, hz0, hz1, hz2⟩ := info_parts zcN
 have hv0 := hv
 obtain ⟨A1, c1, A2, c2, A3, c3, rfl, h1, h2', h3⟩ := hv
 obtain ⟨W1, hW1⟩ : ∃ W, W = w.alloc (.cells #[.slice A1 s.1.length c1, .slice A2 s.2.1.length c2, .slice A3 s.2.2.length c3] 26) := ⟨_, rfl⟩
 obtain ⟨H, hH⟩ : ∃ H, H = w.heap.size := ⟨_, rfl⟩
 have g1 : Below H w W1 := by rw [hW1, hH]; exact bl1 _ _
 have z1 : W1.heap.size = H + 1 := by rw [hW1, hH]; simp
 have q0 : W1.cell? ⟨H, 0, none⟩ = some (.slice A1 s.1.length c1) := by rw [hW1, hH]; simp [go_sem]
 have q1 : W1.cell? ⟨H, 1, none⟩ = some (.slice A2 s.2.1.length c2) := by rw [hW1, hH]; simp [go_sem]
 have q2 : W1.cell? ⟨H, 2, none⟩ = some (.slice A3 s.2.2.length c3) := by rw [hW1, hH]; simp [go_sem]
 rw [<- hH] at h3 hv0
 have HB := hid (zfJ _ s W1 ((hv0.below g1).more (by omega)) hl)
 obtain ⟨us, hul, hus, hu1, hur⟩ := znO h3
 have hin : ∀ x ∈ zV s, za4 x := fun x hx => by
  obtain ⟨d, hd, rfl⟩ := List.mem_map.1 hx
  obtain ⟨k, hk, rfl⟩ := List.mem_iff_getElem.1 hd
  obtain ⟨b, off, -, -, es, -, -, hr⟩ := h1.at_ hk
  obtain ⟨-, -, hlv⟩ := hr
  obtain ⟨AL, cL, -, g1, g2⟩ := hlv.open_
  exact ⟨by omega, by omega⟩
 unfold zh RVwP
 rw [<- hH]
 generalize zV s = bx at *
 have HUS := hid hus; have HU1 := hid hu1; have HUR := hid hur; have HUL := hid hul; have HIN := hid hin; have HW1 := hid hW1; have G1 := hid g1; have HH := hid hH; have Z1 := hid z1
 clear h1 h2' h3 hv0 hW1 g1 hH z1 hus hu1 hur hin
 generalize s.2.2 = vs at *
 generalize s.1.length = n1 at *
 generalize s.2.1.length = n2 at *
 clear hul
 go_enter Tryz.func22, Tryz.ntmps22
 go_upto_region 1 with (fail)
 rw [<- HW1.out, <- HH.out]
 go_wp2_with fail
 (with_reducible refine HB.out.mono ?_)
 rintro e w2 ⟨r, rfl, hr, hb2⟩
 obtain ⟨Ar, cr, rfl, -, -, -⟩ := zl hr
 have z2 := hb2.size
 have q2 := zc hb2 (show H < W1.heap.size by rw [Z1.out]; omega) q2
 have B2 := hid (G1.out.trans (hb2.mono (by rw [Z1.out]; omega)))
 have Z2 := hid (show H < w2.heap.size by have := Z1.out; omega)
 have HR := hid (zw hr (show H <= W1.heap.size by rw [Z1.out]; omega))
 have q3 := zv (o := .cells #[.slice Ar bx.length cr] 27) Z2.out q2
 have hown1 : (w2.alloc (.cells #[.slice Ar bx.length cr] 27)).ownsRow H 27 1 (.slice (some ⟨w2.heap.size, 0, none⟩) 1 1) 1 [.slice Ar bx.length cr] := World.ownsRow_lit w2 #[.slice Ar bx.length cr] 1 (Nat.le_of_lt Z2.out) (by simp [maxLen]) rfl
 have hb2a : Below H w (w2.alloc (.cells #[.slice Ar bx.length cr] 27)) := B2.out.alloc (Nat.le_of_lt Z2.out) _
 have hsrc := zfG (P := Tryz.prog) (w2.alloc (.cells #[.slice Ar bx.length cr] 27)) Tryz.underlying24 (HUS.out.below hb2a) HU1.out
 rw [HUL.out] at hsrc
 have HO1 := hid hown1; have HBA := hid hb2a
 clear hr hb2 q0 q1 z2 q2 hown1 hb2a
 go_wp2_with (at_builtin; refine zr ?_)
 refine zar ?_
 refine zav (.tmp 7) (.tmp 9) 24 24 rfl rfl H 27 i0 (.slice none 0 0) 1 24 Tryz.underlying24 hi hz0 hz1 hz2 rfl (by decide) _ 1 _ rfl HO1.out (.slice A3 vs.length c3) vs.length us rfl hsrc (by simp only [maxLen]; omega) (by omega) (by rw [World.size_alloc]; have := Z2.out; omega) ?_
 intro v' w3 ho' hg' hb3
 have hk : zac 3 H (w2.alloc (.cells #[.slice Ar bx.length cr] 27)) w3 := zac.of_grown hg' HO1.out (by decide)
 have hrow := zad (HR.out.alloc (.cells #[.slice Ar bx.length cr] 27)) hk
 have hB := HBA.out.trans hb3
 obtain ⟨A, c, rfl, h1, h2, h3⟩ := zaa ho'
 have hrd : zj 1 zC w3 w3.heap.size [.slice A (1 + vs.length) c] (bx :: vs) := by
  refine ⟨A, c, by rw [List.length_cons, Nat.add_comm], by rw [List.length_cons]; omega, h2, fun _ => ?_⟩
  obtain ⟨g, rfl, -, hgs, -, hce⟩ := h3 (by omega)
  refine ⟨g, 0, rfl, hgs, fun i x hx => ?_⟩
  have hil := (List.getElem?_eq_some_iff.1 hx).1
  rw [List.length_cons] at hil
  cases i with
  | zero =>
    simp only [List.getElem?_cons_zero, Option.some.injEq] at hx
    subst hx
    refine ⟨[.slice Ar bx.length cr], rfl, fun j u hu => ?_, zaA rfl hrow HIN.out⟩
    obtain rfl : j = 0 := by have := (List.getElem?_eq_some_iff.1 hu).1; simp at this; omega
    simp at hu; subst hu
    rw [hce 0 (by omega)]; rfl
  | succ i =>
    have hi2 : i < vs.length := by omega
    rw [List.getElem?_cons_succ, List.getElem?_eq_getElem hi2, Option.some.injEq] at hx
    subst hx
    have hu2 : i < us.length := by rw [HUL.out]; exact hi2
    refine ⟨[us[i]], rfl, fun j u hu => ?_, zm.more (zm.stays (HUR.out i hi2 hu2) hB) (by have := hB.size; have := HH.out; omega)⟩
    obtain rfl : j = 0 := by have := (List.getElem?_eq_some_iff.1 hu).1; simp at this; omega
    simp at hu; subst hu
    rw [Nat.zero_add, Nat.mul_one, Nat.add_zero, hce (i + 1) (by omega), List.getElem?_append_right (by simp)]
    simp [hu2]
 have HRD := hid hrd; have HBB := hid hB
 clear ho' hg' hb3 hk hrow hB h1 h2 h3 hrd q3
 go_wp2
 go_ret
 exact ⟨_, rfl, HRD.out, HBB.out⟩
end Go.Proofs.YtgoapnkdcfcjgaaGreat
