/- 4 texts of this claim, in build order. -/
import Derived.Test.YtgoapnkdcfcjgaaGreatPldpedafh
import Derived.Test.YtgoapnkdcfcjgaaGreatPangingkh
import Derived.BigQuiet
import Derived.Test.YtgoapnkdcfcjgaaGreatPgedadcce
import Derived.Test.YtgoapnkdcfcjgaaGreatPplomcpim
import Derived.Test.YtgoapnkdcfcjgaaGreatPmnamfpem
set_option linter.unusedVariables false
set_option linter.unusedSimpArgs false
namespace Go.Proofs.YtgoapnkdcfcjgaaGreat
open Go.ChangeShapes Go.WideShapes Go.ChangeAt Go.RowKit
set_option maxRecDepth 100000 in
theorem zla (v : Value) (p : List ByteArray) (lv : Int) (b : Nat) (w : World) (hc : w.cell? ⟨b, 1, none⟩ = some (.int .i64 lv)) (hv : zO w w.heap.size [v] p) :
  Calls Tryz.prog 55 #[v, .pointer (some ⟨b, 0, none⟩)] w (zY (.bool (decide ((p.length : Int) ≠ lv))) w) := by
 obtain ⟨A1, c1, e, hc1, hm1⟩ := hv.open_
 simp only [List.cons.injEq, and_true] at e
 subst e
 have hr : ((p.length : Int) != lv) = decide ((p.length : Int) ≠ lv) := by rw [Bool.eq_iff_iff]; simp
 generalize decide ((p.length : Int) ≠ lv) = r at *
 clear hv
 go_enter Tryz.func55, Tryz.ntmps55
 go_wp2
 go_ret
 exact ⟨by first | rfl | (rw [<- hr]; rfl), Below.refl _ _⟩
theorem zgZ : zbg 55 := za8 Tryz.func55 (by kernel_rfl) rfl
theorem zpS (s : ze) (f : zaS) (d : Nat) (hd : f.1 = (d : Int)) (n : Nat) (hn : ∀ h : d < s.1.length, s.1[d].2.length = n) :
  (s.1.length <= d /\ okF s f = false) \/ (d < s.1.length /\ f.2.1 < 1 /\ okF s f = false) \/ (d < s.1.length /\ 1 <= f.2.1 /\ (n : Int) < f.2.1 /\ okF s f = false) \/ (d < s.1.length /\ 1 <= f.2.1 /\ f.2.1 <= (n : Int) /\ f.2.2.length = 0 /\ okF s f = false) \/
  (d < s.1.length /\ 1 <= f.2.1 /\ f.2.1 <= (n : Int) /\ 0 < f.2.2.length /\ okF s f = !(f.2.2.any fun p => decide ((p.length : Int) ≠ f.2.1))) := by
 obtain ⟨fd, lv, ms⟩ := f
 simp only at hd ⊢
 subst hd
 unfold okF
 by_cases h1 : d < s.1.length
 ·have hgd : zbu s (d : Int) = (n : Int) := by unfold zbu; rw [Int.toNat_natCast, List.getD_eq_getElem?_getD, List.getElem?_eq_getElem h1]; exact congrArg Nat.cast (hn h1)
  simp only [hgd]
  have e1 : decide ((d : Int) < (s.1.length : Int)) = true := by rw [decide_eq_true_eq]; omega
  rw [e1]
  by_cases h2 : 1 <= lv
  ·by_cases h3 : lv <= (n : Int)
   ·by_cases h4 : ms.length = 0
    ·refine .inr (.inr (.inr (.inl ⟨h1, h2, h3, h4, ?_⟩)))
     rw [List.length_eq_zero_iff] at h4
     simp [h4]
    ·refine .inr (.inr (.inr (.inr ⟨h1, h2, h3, by omega, ?_⟩)))
     have : ms ≠ [] := fun e => h4 (by rw [e]; rfl)
     simp [h2, h3, this]
   ·exact .inr (.inr (.inl ⟨h1, h2, by omega, by simp [h3]⟩))
  ·exact .inr (.inl ⟨h1, by omega, by simp [h2]⟩)
 ·refine .inl ⟨by omega, ?_⟩
  have e1 : decide ((d : Int) < (s.1.length : Int)) = false := by rw [decide_eq_false_iff_not]; omega
  rw [e1]; rfl
def MqRel (s : ze) (q : zX) (W0 : World) (i : Value) (wr : World) : Prop := ∃ k : Nat, k <= q.2.length /\ i = .int .i64 k /\ (∀ j (h : j < q.2.length), j < k -> okF s q.2[j] = true) /\ Below W0.heap.size W0 wr
theorem zhG {q : zX} (h : zbC q = true) {k : Nat} (hk : k < q.2.length) : 0 <= q.2[k].1 /\ q.2[k].1 <= 2 := by
 unfold zbC at h
 rw [Bool.and_eq_true] at h
 have := List.all_eq_true.1 h.2 _ (List.getElem_mem hk)
 unfold zby at this
 rw [Bool.and_eq_true, Bool.and_eq_true, Bool.and_eq_true] at this
 have := this.1.1.1
 unfold inQ at this
 simpa using this
set_option maxRecDepth 100000 in
set_option maxHeartbeats 1600000 in
theorem zpW (v x : Value) (s : ze) (q : zX) (w : World) (hv : zD w w.heap.size v s) (hx : zaH w w.heap.size x q) (hl : s.1.length <= 1000) :
  Calls Tryz.prog 33 #[v, x] w (zY (.int .i64 (mayQ s q)) w) := by
 have hv0 := hv; have hx0 := hx
 obtain ⟨A1, c1, A2, c2, A3, c3, rfl, h1, h2, h3⟩ := hv
 obtain ⟨X1, d1, X2, d2, rfl, g1, g2⟩ := hx
 obtain ⟨hc1, hm1⟩ := h1.cap
 obtain ⟨hd2, hn2⟩ := g2.cap
 obtain ⟨W0, hW0⟩ : ∃ W, W = (w.alloc (.cells #[.slice A1 s.1.length c1, .slice A2 s.2.1.length c2, .slice A3 s.2.2.length c3] 26)).alloc (.cells #[.slice X1 q.1.length d1, .slice X2 q.2.length d2] 30) := ⟨_, rfl⟩
 have g0 : Below w.heap.size w W0 := by rw [hW0]; exact (bl1 w _).alloc (by simp) _
 have z0 : W0.heap.size = w.heap.size + 1 + 1 := by rw [hW0]; simp
 have y0 : W0.cell? ⟨w.heap.size, 0, none⟩ = some (.slice A1 s.1.length c1) := by rw [hW0]; simp [go_sem]
 have y1 : W0.cell? ⟨w.heap.size, 1, none⟩ = some (.slice A2 s.2.1.length c2) := by rw [hW0]; simp [go_sem]
 have y2 : W0.cell? ⟨w.heap.size, 2, none⟩ = some (.slice A3 s.2.2.length c3) := by rw [hW0]; simp [go_sem]
 have y3 : W0.cell? ⟨w.heap.size + 1, 0, none⟩ = some (.slice X1 q.1.length d1) := by rw [hW0]; simp [go_sem]
 have y4 : W0.cell? ⟨w.heap.size + 1, 1, none⟩ = some (.slice X2 q.2.length d2) := by rw [hW0]; simp [go_sem]
 have HW0 := hid hW0
 have G0 := hid g0; have Y0 := hid y0; have Y1 := hid y1; have Y2 := hid y2; have Y3 := hid y3; have Y4 := hid y4
 have HSM := hid (zbF _ s W0 (hv0.on g0) hl)
 have HPL := hid (fun W (hb : Below W0.heap.size W0 W) => znz _ q W ((hx0.on g0).on hb))
 have HCN := hid (fun W (hb : Below W0.heap.size W0 W) => zgv _ _ s q.1 W ((hv0.on g0).on hb) hl (zm.on (zm.on g1 g0) hb))
 have H1 := hid (zam.on h1 g0)
 have HQ2 := hid (zag.on g2 g0)
 have hmq : mayQ s q = if !mayS s then 11 else if !(zbC q && zap s q.1) then 16 else if q.2.all (okF s) then 0 else 16 := rfl
 have hpd : zbC q = true -> ∀ k (h : k < q.2.length), 0 <= q.2[k].1 /\ q.2[k].1 <= 2 := fun h k hk => zhG h hk
 generalize mayS s = bS at *
 generalize zbC q = bP at *
 generalize zap s q.1 = bC at *
 generalize mayQ s q = res at *
 have HRES := hid hmq; have HPD := hid hpd
 clear hW0 g0 y0 y1 y2 y3 y4 h1 h2 h3 g1 g2 hv0 hx0 hmq hpd
 go_enter Tryz.func33, Tryz.ntmps33
 go_wp2_with fail
 rw [<- HW0.out]
 refine HSM.out.mono ?_
 rintro e w1 ⟨rfl, hb1⟩
 have HB1 := hid hb1; clear hb1
 have k3 := zc HB1.out (by omega) Y3.out
 have k4 := zc HB1.out (by omega) Y4.out
 cases bS
 ·go_wp2
  go_ret
  exact ⟨by rw [HRES.out]; rfl, G0.out.trans (HB1.out.mono (by omega))⟩
 ·go_wp2_with fail
  refine (HPL.out _ HB1.out).mono ?_
  rintro e w2 ⟨rfl, hb2⟩
  have HB2 := hid (HB1.out.trans (hb2.mono HB1.out.size)); clear hb2 k3 k4
  have k0 := zc HB2.out (by omega) Y0.out
  have k1 := zc HB2.out (by omega) Y1.out
  have k2 := zc HB2.out (by omega) Y2.out
  have k3 := zc HB2.out (by omega) Y3.out
  cases bP
  ·go_wp2
   go_ret
   exact ⟨by rw [HRES.out]; rfl, G0.out.trans (HB2.out.mono (by omega))⟩
  ·go_wp2_with fail
   refine (HCN.out _ HB2.out).mono ?_
   rintro e w3 ⟨rfl, hb3⟩
   have HB3 := hid (HB2.out.trans (hb3.mono HB2.out.size)); clear hb3 k0 k1 k2 k3
   have k4 := zc HB3.out (by omega) Y4.out
   cases bC
   ·go_wp2
    go_ret
    exact ⟨by rw [HRES.out]; rfl, G0.out.trans (HB3.out.mono (by omega))⟩
   ·have hres : res = if q.2.all (okF s) then 0 else 16 := HRES.out
    have HR := hid hres; clear hres HRES
    go_wp2
    go_loopw [23] (fun i wr => MqRel s q W0 i wr) (fun i _ => q.2.length - (intOf i).toNat)
    case atStart => exact ⟨0, by omega, rfl, fun j h h' => by omega, HB3.out⟩
    case round =>
     obtain ⟨k, hk, rfl, hall, hb⟩ := hrel
     have hs := hb.size
     have HB := hid hb; have HALL := hid hall
     clear hb hall
     by_cases hlt : k < q.2.length
     ·obtain ⟨b, off, AM, cM, rfl, hbl, q0, q1, q2, i1, i2, hms⟩ := zbG (zag.stays HQ2.out HB.out) hlt
      have hno := fun h => zfw (p := okF s) hlt h
      have hyes : okF s q.2[k] = true -> ∀ j (h : j < q.2.length), j < k + 1 -> okF s q.2[j] = true := fun h j hj hjk => by
       by_cases e : j = k
       ·subst e; exact h
       ·exact HALL.out j hj (by omega)
      have hdim := HPD.out (by first | rfl | trivial) k hlt
      generalize q.2[k] = f at *
      obtain ⟨d, hd⟩ : ∃ d : Nat, f.1 = (d : Int) := ⟨f.1.toNat, by omega⟩
      obtain ⟨n, hn⟩ : ∃ n : Nat, ∀ h : d < s.1.length, s.1[d].2.length = n := by
       by_cases h : d < s.1.length
       ·exact ⟨s.1[d].2.length, fun _ => rfl⟩
       ·exact ⟨0, fun h' => absurd h' h⟩
      have hways := zpS s f d hd n hn
      obtain ⟨fd, lv, ms⟩ := f
      simp only at hd hways q0 q1 q2 hms i1 i2
      subst hd
      have hdims : d < s.1.length -> ∃ b2 o2 AL cL, A1 = some ⟨b2, o2, none⟩ /\ b2 < wr.heap.size /\ wr.cell? ⟨b2, o2 + d * 2 + 1, none⟩ = some (.slice AL n cL) /\ n <= cL := fun h => by
       obtain ⟨b2, o2, rfl, hbl, es, hel, hcell, hr⟩ := (zam.stays H1.out HB.out).at_ h
       obtain ⟨hl1, ⟨ex, -⟩, hlv⟩ := hr
       obtain ⟨AL, cL, eL, hL1, hL2⟩ := hlv.open_
       obtain rfl : es = [.string s.1[d].1, .slice AL s.1[d].2.length cL] := by
        rw [<- List.take_append_drop 1 es, ex, eL]; rfl
       rw [hn h] at hcell hL1
       exact ⟨b2, o2, AL, cL, rfl, by omega, hcell 1 _ rfl, hL1⟩
      obtain ⟨hcM, hmM⟩ := hms.cap
      generalize ms.length = nm at *
      have HMS := hid hms
      generalize okF s ((d : Int), lv, ms) = okb at *
      have HNO := hid hno; have HYES := hid hyes; have HDM := hid hdims
      clear hno hyes hms hn hdims
      obtain ⟨Wf, hWf⟩ : ∃ W, W = wr.alloc (.cells #[.int .i64 (d : Int), .int .i64 lv, .slice AM nm cM] 83) := ⟨_, rfl⟩
      have gf : Below wr.heap.size wr Wf := by rw [hWf]; exact bl1 _ _
      have zf : Wf.heap.size = wr.heap.size + 1 := by rw [hWf]; simp
      have f0 : Wf.cell? ⟨wr.heap.size, 0, none⟩ = some (.int .i64 (d : Int)) := by rw [hWf]; simp [go_sem]
      have f1 : Wf.cell? ⟨wr.heap.size, 1, none⟩ = some (.int .i64 lv) := by rw [hWf]; simp [go_sem]
      have f2 : Wf.cell? ⟨wr.heap.size, 2, none⟩ = some (.slice AM nm cM) := by rw [hWf]; simp [go_sem]
      have HWf := hid hWf; have GF := hid gf; have F1 := hid f1; have F2 := hid f2
      have l0 := zc (HB.out.trans (gf.mono hs)) (by omega) Y0.out
      have GW := hid (HB.out.trans (gf.mono hs))
      clear hWf gf
      rcases hways with ⟨c1', rfl⟩ | ⟨c1', c2', rfl⟩ | ⟨c1', c2', c3', rfl⟩ | ⟨c1', c2', c3', c4', rfl⟩ | ⟨c1', c2', c3', c4', hok⟩
      ·have t1 : decide (s.1.length <= d) = true := by rw [decide_eq_true_eq]; omega
       go_wp2
       rw [<- HWf.out]
       go_quiet (fail)
       go_wp2
       go_ret
       exact ⟨by rw [HR.out, HNO.out (by first | rfl | trivial)]; rfl, G0.out.trans ((zn GW.out _).mono (by omega))⟩
      ·have t1 : decide (s.1.length <= d) = false := by rw [decide_eq_false_iff_not]; omega
       have t2 : decide (lv < 1) = true := by rw [decide_eq_true_eq]; omega
       clear c2' c1'
       go_wp2
       rw [<- HWf.out]
       go_quiet (fail)
       go_wp2
       go_ret
       exact ⟨by rw [HR.out, HNO.out (by first | rfl | trivial)]; rfl, G0.out.trans ((zn GW.out _).mono (by omega))⟩
      ·obtain ⟨b2, o2, AL, cL, rfl, hb2, hlc, hnc⟩ := HDM.out c1'
       have hlc' := zc GF.out hb2 hlc
       have t1 : decide (s.1.length <= d) = false := by rw [decide_eq_false_iff_not]; omega
       have t2 : decide (lv < 1) = false := by rw [decide_eq_false_iff_not]; omega
       have t3 : decide ((n : Int) < lv) = true := by rw [decide_eq_true_eq]; omega
       clear c2' c3'
       have t5 : decide ((d : Int) < (s.1.length : Int)) = true := by rw [decide_eq_true_eq]; omega
       clear hlc
       go_wp2
       rw [<- HWf.out]
       go_quiet (fail)
       go_wp2
       go_ret
       exact ⟨by rw [HR.out, HNO.out (by first | rfl | trivial)]; rfl, G0.out.trans ((zn GW.out _).mono (by omega))⟩
      ·obtain ⟨b2, o2, AL, cL, rfl, hb2, hlc, hnc⟩ := HDM.out c1'
       have hlc' := zc GF.out hb2 hlc
       have t1 : decide (s.1.length <= d) = false := by rw [decide_eq_false_iff_not]; omega
       have t2 : decide (lv < 1) = false := by rw [decide_eq_false_iff_not]; omega
       have t3 : decide ((n : Int) < lv) = false := by rw [decide_eq_false_iff_not]; omega
       have t5 : decide ((d : Int) < (s.1.length : Int)) = true := by rw [decide_eq_true_eq]; omega
       have t4 : ((nm : Int) == 0) = true := by rw [beq_iff_eq]; omega
       clear c2' c3' c4'
       clear hlc
       go_wp2
       rw [<- HWf.out]
       go_quiet (fail)
       go_wp2
       go_ret
       exact ⟨by rw [HR.out, HNO.out (by first | rfl | trivial)]; rfl, G0.out.trans ((zn GW.out _).mono (by omega))⟩
      ·obtain ⟨b2, o2, AL, cL, rfl, hb2, hlc, hnc⟩ := HDM.out c1'
       have hlc' := zc GF.out hb2 hlc
       have t1 : decide (s.1.length <= d) = false := by rw [decide_eq_false_iff_not]; omega
       have t2 : decide (lv < 1) = false := by rw [decide_eq_false_iff_not]; omega
       have t3 : decide ((n : Int) < lv) = false := by rw [decide_eq_false_iff_not]; omega
       have t5 : decide ((d : Int) < (s.1.length : Int)) = true := by rw [decide_eq_true_eq]; omega
       have t4 : ((nm : Int) == 0) = false := by rw [beq_eq_false_iff_ne]; omega
       clear c2' c3' c4'
       have HAS := hid (fun (W : World) (hb : Below Wf.heap.size Wf W) => zhe 55 #[.pointer (some ⟨wr.heap.size, 0, none⟩)] (fun p => decide ((p.length : Int) ≠ lv)) (.slice AM nm cM) ms W (zB.on (zB.on (zB.more HMS.out hs) GF.out) hb) zB zgZ (fun x u W' hx hr' hb' =>
        zla u x lv wr.heap.size W' (zc (hb.trans (hb'.mono hb.size)) (by omega) F1.out) hr'))
       generalize (ms.any fun p => decide ((p.length : Int) ≠ lv)) = bz at *
       subst hok
       clear hlc
       go_wp2
       rw [<- HWf.out]
       go_quiet (fail)
       go_wp2_with fail
       refine (HAS.out _ (zn (Below.refl _ _) _)).mono ?_
       rintro e w4 ⟨rfl, hb4⟩
       have B4 := hid ((zn (Below.refl Wf.heap.size Wf) nq).trans (hb4.mono (zkD (Nat.le_refl _))))
       clear hb4
       cases bz
       ·go_wp2
        go_roundw
        case rel => exact ⟨k + 1, by omega, by go_num, HYES.out (by first | rfl | trivial), GW.out.trans (B4.out.mono (by omega))⟩
        case measure => simp [intOf]; omega
       ·go_wp2
        go_ret
        exact ⟨by rw [HR.out, HNO.out (by first | rfl | trivial)]; rfl, G0.out.trans ((GW.out.trans (B4.out.mono (by omega))).mono (by omega))⟩
     ·have hall := zdp (p := okF s) (l := q.2) (fun j hj => HALL.out j hj (by omega))
      have HALL' := hid hall; clear hall
      go_wp2
      go_ret
      exact ⟨by rw [HR.out, HALL'.out]; rfl, G0.out.trans (HB.out.mono (by omega))⟩
theorem zeP {s : ze} {q : zX} (h : mayQ s q = 0) : mayS s = true /\ zbC q = true /\ zap s q.1 = true /\ q.2.all (okF s) = true := by
 unfold mayQ at h
 cases h1 : mayS s
 ·rw [h1] at h; simp at h
 ·cases h2 : zbC q
  ·rw [h1, h2] at h; simp at h
  ·cases h3 : zap s q.1
   ·rw [h1, h2, h3] at h; simp at h
   ·cases h4 : q.2.all (okF s)
    ·rw [h1, h2, h3, h4] at h; simp at h
    ·exact ⟨rfl, rfl, rfl, rfl⟩
theorem zd9 {s : ze} {v : List Int} (h : zap s v = true) : v.length = s.1.length := by
 unfold zap zak at h
 rw [Bool.and_eq_true, Bool.and_eq_true] at h
 have := of_decide_eq_true h.1.1
 simp [zV] at this
 omega
theorem zkI {s : ze} {q : zX} (h : mayQ s q = 0) : ∀ f ∈ q.2, 0 <= f.1 /\ f.1 < (q.1.length : Int) := by
 obtain ⟨-, h2, h3, h4⟩ := zeP h
 intro f hf
 obtain ⟨k, hk, rfl⟩ := List.mem_iff_getElem.1 hf
 have h5 := zhG h2 hk
 have h6 := List.all_eq_true.1 h4 _ hf
 unfold okF at h6
 rw [Bool.and_eq_true, Bool.and_eq_true, Bool.and_eq_true, Bool.and_eq_true] at h6
 have h7 := of_decide_eq_true h6.1.1.1.1
 rw [zd9 h3]
 exact ⟨h5.1, h7⟩
theorem zcQ (l : List Int) (f : zaS) : (zaR l f).length = l.length := by unfold zaR; rw [List.length_set]
theorem zdg (fs : List zaS) (l : List Int) : (fs.foldl zaR l).length = l.length := by
 induction fs generalizing l with
 | nil => rfl
 | cons f fs ih => rw [List.foldl_cons, ih, zcQ]
theorem zq1 {w : World} {base g c i : Nat} {l : List Int} (h : w.ownsRow base 3 1 (.slice (some ⟨g, 0, none⟩) l.length c) l.length (zk l)) (hi : i < l.length) (x : Int) :
  w.cell? ⟨g, i, none⟩ = some (.int .i64 (l.getD i 0)) /\ w.frozen? ⟨g, i, none⟩ = false /\ (w.setCell ⟨g, i, none⟩ (.int .i64 x)).ownsRow base 3 1 (.slice (some ⟨g, 0, none⟩) l.length c) l.length (zk (l.set i x)) := by
 have hcell := h.cellAt (g := g) i (by omega)
 have hxs : (zk l)[i]? = some (.int .i64 (l.getD i 0)) := by simp [zk, List.getElem?_eq_getElem hi]
 refine ⟨hcell.trans hxs, h.frozenAt i, ?_⟩
 have := (h.stored i (.int .i64 x)).1
 rwa [show (zk l).set i (.int .i64 x) = zk (l.set i x) by unfold zk; rw [List.map_set]] at this
theorem zpf {w : World} {base base' n : Nat} {e : TypeId} {sz : Nat} {v : Value} {xs : List Value} (h : w.ownsRow base e sz v n xs) (hb : base' <= base) : w.ownsRow base' e sz v n xs := by
 obtain ⟨h1, h2⟩ := h
 refine ⟨h1, ?_⟩
 rcases h2 with h2 | ⟨g, cap, cur, rfl, hbg, r⟩
 ·exact .inl h2
 ·exact .inr ⟨g, cap, cur, rfl, by omega, r⟩
def NdRel (q : zX) (r : Value) (w1 : World) (i : Value) (wr : World) : Prop :=
 ∃ k : Nat, k <= q.2.length /\ i = .int .i64 k /\ wr.ownsRow w1.heap.size 3 1 r q.1.length (zk ((q.2.take k).foldl zaR q.1)) /\ Below w1.heap.size w1 wr
def NeedP (res : Int) (l : List Int) (w : World) (e : Ending) (w' : World) : Prop :=
 (res = 0 /\ ∃ r, e = .returned (.tuple #[r, .int .i64 0]) /\ w'.ownsRow w.heap.size 3 1 r l.length (zk l) /\ Below w.heap.size w w') \/
 (res ≠ 0 /\ e = .returned (.tuple #[.slice none 0 0, .int .i64 res]) /\ Below w.heap.size w w')
set_option maxRecDepth 100000 in
set_option maxHeartbeats 3200000 in
theorem zpK (v x : Value) (s : ze) (q : zX) (w : World) (hv : zD w w.heap.size v s) (hx : zaH w w.heap.size x q) (hl : s.1.length <= 1000) (hq : q.1.length <= 1000) :
  Calls Tryz.prog 17 #[v, x] w (NeedP (mayQ s q) (zaP q) w) := by
 have hv0 := hv; have hx0 := hx
 obtain ⟨A1, c1, A2, c2, A3, c3, rfl, -, -, -⟩ := hv
 obtain ⟨X1, d1, X2, d2, rfl, g1, g2⟩ := hx
 obtain ⟨hd2, hn2⟩ := g2.cap
 obtain ⟨W0, hW0⟩ : ∃ W, W = (w.alloc (.cells #[.slice A1 s.1.length c1, .slice A2 s.2.1.length c2, .slice A3 s.2.2.length c3] 26)).alloc (.cells #[.slice X1 q.1.length d1, .slice X2 q.2.length d2] 30) := ⟨_, rfl⟩
 have g0 : Below w.heap.size w W0 := by rw [hW0]; exact (bl1 w _).alloc (by simp) _
 have z0 : W0.heap.size = w.heap.size + 1 + 1 := by rw [hW0]; simp
 have y3 : W0.cell? ⟨w.heap.size + 1, 0, none⟩ = some (.slice X1 q.1.length d1) := by rw [hW0]; simp [go_sem]
 have y4 : W0.cell? ⟨w.heap.size + 1, 1, none⟩ = some (.slice X2 q.2.length d2) := by rw [hW0]; simp [go_sem]
 have HW0 := hid hW0
 have G0 := hid g0; have Y3 := hid y3; have Y4 := hid y4
 have HMQ := hid (zpW _ _ s q W0 (hv0.on g0) (hx0.on g0) hl)
 have HCL := hid (fun W (hb : Below W0.heap.size W0 W) => zeg _ q.1 W (zm.on (zm.on g1 g0) hb) (by omega))
 have HQ2 := hid (zag.on g2 g0)
 have HND := hid (fun h => zkI (s := s) (q := q) h)
 generalize mayQ s q = res at *
 clear hW0 g0 y3 y4 g1 g2 hv0 hx0
 go_enter Tryz.func17, Tryz.ntmps17
 go_wp2_with fail
 rw [<- HW0.out]
 refine HMQ.out.mono ?_
 rintro e w1 ⟨rfl, hb1⟩
 have HB1 := hid hb1; clear hb1
 have z1 := HB1.out.size
 have k3 := zc HB1.out (by omega) Y3.out
 have k4 := zc HB1.out (by omega) Y4.out
 by_cases hres : res = 0
 ·subst hres
  go_wp2_with fail
  refine (HCL.out _ HB1.out).mono ?_
  rintro e w2 ⟨r, rfl, hr2, hb2⟩
  obtain ⟨A, c, rfl, hc, hcm, -⟩ := zl hr2
  unfold maxLen at hcm
  have HR2 := hid hr2; have HB2 := hid hb2
  have z2 := hb2.size
  clear hr2 hb2 k3 k4
  have k4 := zc (HB1.out.trans (HB2.out.mono z1)) (by omega) Y4.out
  go_wp2
  go_loopw [22] (fun i wr => NdRel q (.slice A q.1.length c) w1 i wr) (fun i _ => q.2.length - (intOf i).toNat)
  case atStart => exact ⟨0, by omega, rfl, HR2.out, HB2.out⟩
  case round =>
   obtain ⟨k, hk, rfl, hown, hb⟩ := hrel
   have hs := hb.size
   have HB := hid hb; have HOW := hid hown
   clear hb hown
   by_cases hlt : k < q.2.length
   ·have GB := hid (HB1.out.trans (HB.out.mono z1))
    obtain ⟨b, off, AM, cM, rfl, hbl, q0, q1, q2, i1, i2, hms⟩ := zbG (zag.stays HQ2.out GB.out) hlt
    have hdim := HND.out (by first | rfl | trivial) _ (List.getElem_mem hlt)
    have e1 : (q.2.take (k + 1)).foldl zaR q.1 = zaR ((q.2.take k).foldl zaR q.1) q.2[k] := by rw [List.take_succ_eq_append_getElem hlt, List.foldl_append]; rfl
    have hll := zdg (q.2.take k) q.1
    generalize q.2[k] = f at *
    obtain ⟨fd, lv, ms⟩ := f
    simp only at hdim q0 q1 q2 hms i1 i2
    obtain ⟨d, rfl⟩ : ∃ d : Nat, fd = (d : Int) := ⟨fd.toNat, by omega⟩
    have hd : d < q.1.length := by omega
    have hset : zaR ((q.2.take k).foldl zaR q.1) ((d : Int), lv, ms) = ((q.2.take k).foldl zaR q.1).set d (max (((q.2.take k).foldl zaR q.1).getD d 0) lv) := by unfold zaR; simp
    rw [hset] at e1
    generalize hL : (q.2.take k).foldl zaR q.1 = L at *
    have hown := HOW.out
    obtain ⟨A', c', e, -, -, h3⟩ := zl hown
    injection e with e1' _ e3'
    subst e1'; subst e3'
    obtain ⟨g, rfl, hg1, hg2, -⟩ := h3 (by omega)
    rw [<- hll] at hown
    obtain ⟨Wf, hWf⟩ : ∃ W, W = wr.alloc (.cells #[.int .i64 (d : Int), .int .i64 lv, .slice AM ms.length cM] 83) := ⟨_, rfl⟩
    have gfb : Below wr.heap.size wr Wf := by rw [hWf]; exact bl1 _ _
    have zf : Wf.heap.size = wr.heap.size + 1 := by rw [hWf]; simp
    have f0 : Wf.cell? ⟨wr.heap.size, 0, none⟩ = some (.int .i64 (d : Int)) := by rw [hWf]; simp [go_sem]
    have f1 : Wf.cell? ⟨wr.heap.size, 1, none⟩ = some (.int .i64 lv) := by rw [hWf]; simp [go_sem]
    have hownf : Wf.ownsRow w1.heap.size 3 1 (.slice (some ⟨g, 0, none⟩) L.length c) L.length (zk L) := by rw [hWf]; exact hown.alloc _
    obtain ⟨f2, f3, gs⟩ := zq1 hownf (by omega : d < L.length) (max (L.getD d 0) lv)
    have hnx : NdRel q (.slice (some ⟨g, 0, none⟩) q.1.length c) w1 (.int .i64 ((k : Int) + 1)) ((Wf.setCell ⟨g, d, none⟩ (.int .i64 (max (L.getD d 0) lv))).drew) := by
     refine ⟨k + 1, by omega, by go_num, ?_, ?_⟩
     ·rw [e1, <- hll]
      exact zo gs (fun _ _ => rfl)
     ·exact (((HB.out.trans (gfb.mono hs)).setCell (by show w1.heap.size <= g; omega) _).drew)
    generalize hmx : max (L.getD d 0) lv = mx at *
    generalize L.getD d 0 = x0 at *
    have HWf := hid hWf; have GFB := hid gfb; have HNX := hid hnx
    have m1 := Nat.ne_of_gt hg2; have m2 := Nat.ne_of_lt hg2
    clear hWf gfb gs hown hownf h3 hset hms i1 i2 hnx
    have hmw : (x0 < lv /\ lv = mx) \/ (lv <= x0 /\ x0 = mx) := by omega
    rcases hmw with ⟨h, rfl⟩ | ⟨h, rfl⟩
    all_goals
     go_wp2
     rw [<- HWf.out]
     go_region_with (fail)
     all_goals
      go_wp2
      go_roundw
      case rel => exact HNX.out
      case measure => simp [intOf]; omega
   ·have hfin : wr.ownsRow w1.heap.size 3 1 (.slice A q.1.length c) (zaP q).length (zk (zaP q)) := by
     have := HOW.out
     rw [List.take_of_length_le (by omega)] at this
     unfold zaP
     rwa [zdg]
    have HF := hid (zpf hfin (show w.heap.size <= w1.heap.size by have := G0.out.size; omega))
    clear hfin HOW
    go_wp2
    go_ret2
    exact .inl ⟨rfl, _, rfl, HF.out, G0.out.trans ((HB1.out.trans (HB.out.mono z1)).mono (by omega))⟩
 ·have t1 : (res != 0) = true := by simpa using hres
  go_wp2
  go_ret2
  exact .inr ⟨hres, rfl, G0.out.trans (HB1.out.mono (by omega))⟩
set_option maxRecDepth 100000 in
set_option maxHeartbeats 800000 in
theorem zeD (v x : Value) (l r : List Int) (w : World) (hv : zC w w.heap.size [v] l) (hx : zC w w.heap.size [x] r) :
  Calls Tryz.prog 11 #[v, x] w (za5 (.bool (decide (l = r))) w) := by
 obtain ⟨A1, c1, e, hc1, hm1⟩ := hv.open_
 simp only [List.cons.injEq, and_true] at e
 subst e
 obtain ⟨A2, c2, e, hc2, hm2⟩ := hx.open_
 simp only [List.cons.injEq, and_true] at e
 subst e
 have S1 := hid hv; have S2 := hid hx; clear hv hx
 have hdec : l ≠ r -> decide (l = r) = false := fun h => decide_eq_false h
 have hyes : l = r -> decide (l = r) = true := fun h => decide_eq_true h
 generalize decide (l = r) = res at *
 have HD := hid hdec; have HY := hid hyes; clear hdec hyes
 go_enter Tryz.func11, Tryz.ntmps11
 by_cases hl : l.length = r.length
 ·have HL := hid hl
  have u0 : ((l.length : Int) != (r.length : Int)) = false := by simp [hl]
  clear hl
  go_wp2
  go_loopw [5] (fun i wr => zj6 l r w i wr) (fun i _ => l.length - (intOf i).toNat)
  case atStart => exact ⟨0, by omega, rfl, rfl, Qu.refl _⟩
  case round =>
   obtain ⟨k, hk, rfl, hsame, hq⟩ := hrel
   have HS := hid hsame; clear hsame
   by_cases hlt : k < l.length
   ·have hlt' : k < r.length := by have := HL.out; omega
    obtain ⟨b1, o1, rfl, hb1, hx1, -⟩ := zbW S1.out hlt
    obtain ⟨b2, o2, rfl, hb2, hx2, -⟩ := zbW S2.out hlt'
    have g1 : wr.cell? ⟨b1, o1 + k, none⟩ = _ := (hq.cell _).trans hx1
    have g2 : wr.cell? ⟨b2, o2 + k, none⟩ = _ := (hq.cell _).trans hx2
    clear hx1 hx2
    have e1 : l.take (k + 1) = l.take k ++ [l[k]] := List.take_succ_eq_append_getElem hlt
    have e2 : r.take (k + 1) = r.take k ++ [r[k]] := List.take_succ_eq_append_getElem hlt'
    have hgn : l[k] ≠ r[k] -> l ≠ r := fun h h' => h (by subst h'; rfl)
    generalize l[k] = p1 at *
    generalize r[k] = p2 at *
    by_cases he : p1 = p2
    ·subst he
     have hs' : l.take (k + 1) = r.take (k + 1) := by rw [e1, e2, HS.out]
     have t2 : (p1 != p1) = false := by simp
     have HS' := hid hs'; clear e1 e2 hs' hgn
     go_wp2
     go_quiet (fail)
     go_wp2
     go_roundw
     case rel => exact ⟨k + 1, by omega, by go_num, HS'.out, hq.drewN _⟩
     case measure => simp [intOf]; omega
    ·have hn := HD.out (hgn he)
     have t2 : (p1 != p2) = true := by simpa using he
     have HN := hid hn; clear e1 e2 hgn hn he
     go_wp2
     go_quiet (fail)
     go_wp2
     go_ret
     exact ⟨by rw [HN.out]; rfl, hq.drewN _⟩
   ·have he1 : l = r := by
     have := HS.out
     rwa [List.take_of_length_le (by omega), List.take_of_length_le (by have := HL.out; omega)] at this
    have hn := HY.out he1
    have HN := hid hn; clear he1 HS hn
    go_wp2
    go_ret
    exact ⟨by rw [HN.out]; rfl, hq⟩
 ·have u0 : ((l.length : Int) != (r.length : Int)) = true := by simp; omega
  have hn := HD.out (fun e => hl (by rw [e]))
  have HN := hid hn
  clear hl hn
  go_wp2
  go_ret
  exact ⟨by rw [HN.out]; rfl, Qu.refl _⟩
end Go.Proofs.YtgoapnkdcfcjgaaGreat

