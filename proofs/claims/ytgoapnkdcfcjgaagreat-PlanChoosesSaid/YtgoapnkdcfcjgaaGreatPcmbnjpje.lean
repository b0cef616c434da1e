/- 3 texts of this claim, in build order. -/
import Derived.Test.YtgoapnkdcfcjgaaGreatPejkbepdi
import Derived.Test.YtgoapnkdcfcjgaaGreatPmkcmjhip
set_option linter.unusedVariables false
set_option linter.unusedSimpArgs false
namespace Go.Proofs.YtgoapnkdcfcjgaaGreat
open Go.ChangeShapes Go.WideShapes Go.ChangeAt Go.RowKit Go.Deep
def latK (s : ze) (bs : List (List zq)) : Nat -> LatX
 | 0 => lat0 s
 | k + 1 => (zao (latK s bs k) (bs.getD k [])).1
def refK (s : ze) (bs : List (List zq)) : Nat -> List zq × List PlR
 | 0 => ([], List.replicate s.1.length [])
 | k + 1 => (zbo s (refK s bs k).1 (refK s bs k).2 (bs.getD k [])).1
theorem zkR (s : ze) (v : Nat) : ((lat0 s).cs.getD v []).length = 0 := by
 unfold lat0
 simp only
 rw [List.getD_eq_getElem?_getD, List.getElem?_map]
 cases (zh s)[v]? <;> rfl
theorem zhi {s : ze} (h : mayS s = true) (bs : List (List zq)) (k : Nat) : zfi (latK s bs k) /\ (latK s bs k).s = s /\ ∀ v, ((latK s bs k).cs.getD v []).length <= 8 * k := by
 induction k with
 | zero => exact ⟨zhl h, rfl, fun v => by show ((lat0 s).cs.getD v []).length <= _; rw [zkR]; omega⟩
 | succ k ih =>
   obtain ⟨a1, a2, a3⟩ := ih
   obtain ⟨b1, b2, b3⟩ := zdP a1 (bs.getD k [])
   exact ⟨b1, b2.trans a2, fun v => by have := b3 v; have := a3 v; show ((zao (latK s bs k) (bs.getD k [])).1.cs.getD v []).length <= _; omega⟩
theorem zjL (s : ze) (bs : List (List zq)) (k : Nat) : OkR s (refK s bs k).1 (refK s bs k).2 /\ (refK s bs k).1.length <= 8 * k := by
 induction k with
 | zero => exact ⟨⟨by simp [refK], fun pl hpl => by rw [List.eq_of_mem_replicate hpl]; exact Nat.zero_le _, fun f hf => by simp [refK] at hf⟩, by simp [refK]⟩
 | succ k ih =>
   obtain ⟨b1, b2⟩ := zn0 ih.1 (bs.getD k [])
   exact ⟨b1, by have := ih.2; show (zbo s (refK s bs k).1 (refK s bs k).2 (bs.getD k [])).1.1.length <= _; omega⟩
def ziT (s : ze) (bs : List (List zq)) (H H1 p b : Nat) (k : Nat) (W0 w : World) : Prop :=
 ∃ Y O rp, LatW w H1 p Y (latK s bs k) /\ R11W w H b O s (refK s bs k).1 (refK s bs k).2 rp /\ (∀ g, LatO p Y (latK s bs k).ds.length g -> H <= g /\ ¬ O g) /\ Below H W0 w
theorem ziT.stepA {s : ze} {bs : List (List zq)} {H H1 p b k : Nat} {Y Y' : Lay} {O : Nat -> Prop} {rp : Nat -> Nat} {W0 w w1 : World} (hm : mayS s = true) (hk : k < bs.length) (hr : R11W w H b O s (refK s bs k).1 (refK s bs k).2 rp) (hl0 : LatW w H1 p Y (latK s bs k)) (hd : ∀ g, LatO p Y (latK s bs k).ds.length g -> H <= g /\ ¬ O g) (hb : Below H W0 w) (hH : H <= w.heap.size)
  (hl : LatW w1 H1 p Y' (zao (latK s bs k) bs[k]).1) (hc : Chg (LatO p Y (latK s bs k).ds.length) w w1) (ho : ∀ g, LatO p Y' (latK s bs k).ds.length g -> LatO p Y (latK s bs k).ds.length g \/ w.heap.size <= g) :
  LatW w1 H1 p Y' (latK s bs (k + 1)) /\ (latK s bs (k + 1)).ds.length = (latK s bs k).ds.length /\ R11W w1 H b O s (refK s bs k).1 (refK s bs k).2 rp /\ (∀ g, LatO p Y' (latK s bs (k + 1)).ds.length g -> H <= g /\ ¬ O g) /\ Below H W0 w1 := by
 have e : bs.getD k [] = bs[k] := by rw [List.getD_eq_getElem?_getD, List.getElem?_eq_getElem hk]; rfl
 have e2 : latK s bs (k + 1) = (zao (latK s bs k) bs[k]).1 := by show (zao (latK s bs k) (bs.getD k [])).1 = _; rw [e]
 obtain ⟨a1, a2, -⟩ := zhi hm bs k
 obtain ⟨b1, b2, -⟩ := zhi hm bs (k + 1)
 have e3 : (latK s bs (k + 1)).ds.length = (latK s bs k).ds.length := by rw [a1.dlen, b1.dlen, a2, b2]
 have hb1 : Below H w w1 := hc.below hH (fun g hg => (hd g hg).1)
 refine ⟨by rw [e2]; exact hl, e3, hr.kept hb1 (fun g hg => hc.block g (hr.ol g hg).2 (fun h => (hd g h).2 hg)), fun g hg => ?_, hb.trans hb1⟩
 rw [e3] at hg
 rcases ho g hg with h | h
 ·exact hd g h
 ·exact ⟨by omega, fun h' => by have := (hr.ol g h').2; omega⟩
theorem ziT.stepB {s : ze} {bs : List (List zq)} {H H1 p b k : Nat} {Y : Lay} {O O' : Nat -> Prop} {rp rp' : Nat -> Nat} {W0 w1 w2 : World} (hk : k < bs.length) (hr0 : R11W w1 H b O s (refK s bs k).1 (refK s bs k).2 rp) (hl : LatW w1 H1 p Y (latK s bs (k + 1))) (hd : ∀ g, LatO p Y (latK s bs (k + 1)).ds.length g -> H <= g /\ ¬ O g) (hb : Below H W0 w1) (hH : H <= w1.heap.size)
  (hr : R11W w2 H b O' s (zbo s (refK s bs k).1 (refK s bs k).2 bs[k]).1.1 (zbo s (refK s bs k).1 (refK s bs k).2 bs[k]).1.2 rp') (hc : Chg (fun g => g = b) w1 w2) (ho : ∀ g, O' g -> O g \/ w1.heap.size <= g) :
  ziT s bs H H1 p b (k + 1) W0 w2 := by
 have e : bs.getD k [] = bs[k] := by rw [List.getD_eq_getElem?_getD, List.getElem?_eq_getElem hk]; rfl
 have e2 : refK s bs (k + 1) = (zbo s (refK s bs k).1 (refK s bs k).2 bs[k]).1 := by show (zbo s (refK s bs k).1 (refK s bs k).2 (bs.getD k [])).1 = _; rw [e]
 have hb1 : Below H w1 w2 := hc.below hH (fun g hg => by subst hg; exact (hr0.ol _ hr0.ob).1)
 refine ⟨Y, O', rp', hl.chg hc (fun g hg h => ?_), by rw [e2]; exact hr, fun g hg => ⟨(hd g hg).1, fun h => ?_⟩, hb.trans hb1⟩
 ·subst hg
  exact (hd _ h).2 hr0.ob
 ·rcases ho g h with h | h
  ·exact (hd g hg).2 h
  ·have := zct hl hg; omega
def NewNo (w : World) (e : Ending) (w' : World) : Prop := e = .returned (.tuple #[.pointer none, .int .i64 11]) /\ Below w.heap.size w w'
set_option maxRecDepth 100000 in
theorem zqQ (v : Value) (s : ze) (w : World) (hv : zD w w.heap.size v s) (hl : s.1.length <= 1000) (hm : mayS s = false) : Calls Tryz.prog 24 #[v] w (NewNo w) := by
 have hv0 := hv
 obtain ⟨A1, c1, A2, c2, A3, c3, rfl, -, -, -⟩ := hv
 obtain ⟨W1, hW1⟩ : ∃ W, W = w.alloc (.cells #[.slice A1 s.1.length c1, .slice A2 s.2.1.length c2, .slice A3 s.2.2.length c3] 26) := ⟨_, rfl⟩
 have g1 : Below w.heap.size w W1 := by rw [hW1]; exact bl1 _ _
 have q0 : W1.cell? ⟨w.heap.size, 0, none⟩ = some (.slice A1 s.1.length c1) := by rw [hW1]; simp [go_sem]
 have q1 : W1.cell? ⟨w.heap.size, 1, none⟩ = some (.slice A2 s.2.1.length c2) := by rw [hW1]; simp [go_sem]
 have q2 : W1.cell? ⟨w.heap.size, 2, none⟩ = some (.slice A3 s.2.2.length c3) := by rw [hW1]; simp [go_sem]
 have hmay := zbF _ s W1 (hv0.on g1) hl
 rw [hm] at hmay
 have HMAY := hid hmay; have HW1 := hid hW1; have G1 := hid g1
 clear hW1 g1 hmay hv0
 go_enter Tryz.func24, Tryz.ntmps24
 go_upto_region 1 with (fail)
 rw [<- HW1.out]
 go_wp2_with fail
 (with_reducible refine HMAY.out.mono ?_)
 rintro e w2 ⟨rfl, hb2⟩
 have B2 := hid (G1.out.trans (hb2.mono G1.out.size))
 clear hb2
 go_wp2
 go_ret2
 exact ⟨rfl, B2.out⟩
def BothP (s : ze) (bs : List (List zq)) (w : World) (e : Ending) (w' : World) : Prop :=
 (mayS s = false /\ e = .returned (.tuple #[.pointer none, .pointer none]) /\ Below w.heap.size w w') \/
 (mayS s = true /\ ∃ H1 p b, e = .returned (.tuple #[.pointer (some ⟨p, 0, none⟩), .pointer (some ⟨b, 0, none⟩)]) /\ ziT s bs w.heap.size H1 p b (min bs.length 8) w w')
def BhRel (s : ze) (bs : List (List zq)) (H H1 p b : Nat) (W0 : World) (i : Value) (wr : World) : Prop :=
 ∃ k : Nat, k <= bs.length /\ k <= 8 /\ i = .int .i64 k /\ ziT s bs H H1 p b k W0 wr
set_option maxRecDepth 100000 in
set_option maxHeartbeats 3200000 in
theorem zlb (x xl : Value) (s : ze) (bs : List (List zq)) (w : World) (hv : zD w w.heap.size x s) (hb : zj 1 (zj 2 za7) w w.heap.size [xl] bs) (hl : s.1.length <= 1000) :
  Calls Tryz.prog 13 #[x, xl] w (BothP s bs w) := by
 have hv0 := hv
 obtain ⟨A1, c1, A2, c2, A3, c3, rfl, -, -, -⟩ := hv
 obtain ⟨AB, cB, e, hcB, hmB⟩ := hb.open_
 simp only [List.cons.injEq, and_true] at e
 subst e
 obtain ⟨H, hH⟩ : ∃ H, H = w.heap.size := ⟨_, rfl⟩
 obtain ⟨W0, hW0⟩ : ∃ W, W = w.alloc (.cells #[.slice A1 s.1.length c1, .slice A2 s.2.1.length c2, .slice A3 s.2.2.length c3] 26) := ⟨_, rfl⟩
 have g0 : Below H w W0 := by rw [hW0, hH]; exact bl1 _ _
 have z0 : W0.heap.size = H + 1 := by rw [hW0, hH]; simp
 have y0 : W0.cell? ⟨H, 0, none⟩ = some (.slice A1 s.1.length c1) := by rw [hW0, hH]; simp [go_sem]
 have y1 : W0.cell? ⟨H, 1, none⟩ = some (.slice A2 s.2.1.length c2) := by rw [hW0, hH]; simp [go_sem]
 have y2 : W0.cell? ⟨H, 2, none⟩ = some (.slice A3 s.2.2.length c3) := by rw [hW0, hH]; simp [go_sem]
 rw [<- hH] at hv0 hb
 have hvW : zD W0 W0.heap.size _ s := (hv0.below g0).more (by omega)
 unfold BothP
 rw [<- hH]
 have HV0 := hid hv0; have HBS := hid hb; have HW0 := hid hW0; have G0 := hid g0; have HH := hid hH
 clear hW0 g0 hv0 hb hH
 have hnew2 : ∀ W, Below H w W -> H <= W.heap.size -> Calls Tryz.prog 26 #[.agg #[.slice A1 s.1.length c1, .slice A2 s.2.1.length c2, .slice A3 s.2.2.length c3]] W (R11NP H s W) := fun W hW hz => zlK H _ s W (HV0.out.below hW) hz hl
 have HN2 := hid hnew2
 clear hnew2
 cases hm : mayS s
 case false =>
  have HN := hid (zqQ _ s W0 hvW hl hm)
  have HM := hid hm
  clear hm hvW
  go_enter Tryz.func13, Tryz.ntmps13
  go_upto_region 1 with (fail)
  rw [<- HW0.out, <- HH.out]
  go_wp2_with fail
  (with_reducible refine HN.out.mono ?_)
  rintro e w1 ⟨rfl, hb1⟩
  have z1 := hb1.size
  have B1 := hid (G0.out.trans (hb1.mono (by omega)))
  have y0 := zc hb1 (by omega) y0
  have y1 := zc hb1 (by omega) y1
  have y2 := zc hb1 (by omega) y2
  clear hb1
  go_wp2_with fail
  (with_reducible refine (HN2.out _ B1.out (by omega)).mono ?_)
  rintro e w2 hp
  rcases hp with ⟨-, rfl, hb2⟩ | ⟨h, -⟩
  ·have B2 := hid (B1.out.trans (hb2.mono (by omega)))
   clear hb2
   go_wp2
   go_ret2
   exact .inl ⟨by first | exact HM.out | trivial, rfl, B2.out⟩
  ·rw [HM.out] at h; cases h
 case true =>
  have HN := hid (zkF _ s W0 hvW hm)
  have HM := hid hm
  clear hm hvW
  go_enter Tryz.func13, Tryz.ntmps13
  go_upto_region 1 with (fail)
  rw [<- HW0.out, <- HH.out]
  go_wp2_with fail
  (with_reducible refine HN.out.mono ?_)
  rintro e w1 ⟨p, Y, rfl, hlw, hyr, hb1⟩
  have z1 := hb1.size
  have B1 := hid (G0.out.trans (hb1.mono (by omega)))
  have y0 := zc hb1 (by omega) y0
  have y1 := zc hb1 (by omega) y1
  have y2 := zc hb1 (by omega) y2
  have HLW := hid hlw; have HYR := hid hyr
  clear hb1 hlw hyr
  go_wp2_with fail
  (with_reducible refine (HN2.out _ B1.out (by omega)).mono ?_)
  rintro e w2 hp
  rcases hp with ⟨h, -⟩ | ⟨-, b, rp, rfl, hr, hb2⟩
  ·rw [HM.out] at h; cases h
  ·have hrel : BhRel s bs H W0.heap.size p b w (.int .i64 0) w2 := by
    refine ⟨0, by omega, by omega, rfl, Y, _, rp, HLW.out.chg (Chg.of_below (D := fun _ => False) hb2) (fun g hg => hg.elim), hr, fun g hg => ?_, B1.out.trans (hb2.mono (by omega))⟩
    have h1 := zct HLW.out hg
    refine ⟨?_, fun h => by omega⟩
    rcases hg with hg | hg | hg
    ·have := HYR.out g hg; omega
    ·have := (HLW.out.ds.lt g hg).1; omega
    ·have := (zcj HLW.out hg).1; omega
   have HREL := hid hrel
   clear hrel hr hb2 y0 y1 y2
   go_wp2
   go_loopw [10] (fun i wr => BhRel s bs H W0.heap.size p b w i wr) (fun i _ => bs.length - (intOf i).toNat)
   case atStart => exact HREL.out
   case round =>
    obtain ⟨k, hk, hk8, rfl, Y, O, rp, hlw, hr, hd, hb⟩ := hrel
    have hsb := hb.size
    have hHr : H <= wr.heap.size := by have := HH.out; omega
    by_cases hlt : k < bs.length /\ k < 8
    ·obtain ⟨hlt, hl8⟩ := hlt
     obtain ⟨bB, oB, rfl, hbB, es, hel, hcell, hrd⟩ := HBS.out.at_ hlt
     obtain ⟨AF, cF, e, hcF, hmF⟩ := hrd.open_
     subst e
     have HX := hid (show w.cell? ⟨bB, oB + k, none⟩ = some (.slice AF bs[k].length cF) by have := hcell 0 _ rfl; simpa using this)
     have x0 := zc hb hbB HX.out
     have hfw := zab.stays hrd hb
     obtain ⟨a1, a2, a3⟩ := zhi HM.out bs k
     obtain ⟨k1, k2⟩ := zjL s bs k
     have HAA := hid (zgj W0.heap.size p Y (latK s bs k) (.slice AF bs[k].length cF) bs[k] (fun g => g < H) wr hlw a1 (fun v => by have := a3 v; omega) (zde.of_rd hfw (by omega)) (fun g hg => ⟨by omega, fun h => by have := (hd g h).1; omega⟩))
     have HSA := hid (fun w1 Y' hl hc ho => ziT.stepA (w1 := w1) (Y' := Y') HM.out hlt hr hlw hd hb (by omega) hl hc ho)
     have HRB := hid (fun w1 (hw1 : Below H w w1) (hr1 : R11W w1 H b O s (refK s bs k).1 (refK s bs k).2 rp) => zip H b O s _ _ rp (.slice AF bs[k].length cF) bs[k] w1 hr1 k1 (by omega) hl (zab.stays hrd hw1) (by have := hw1.size; have := HH.out; omega))
     have hbl := (hr.ol b hr.ob).2
     clear hcell hrd hfw a1 a2 a3 k1 k2 hr hlw hd hb
     have hbB' := hbB
     go_wp2_with fail
     refine HAA.out.mono ?_
     rintro e w3 ⟨Y', rfl, hl3, hc3, ho3⟩
     obtain ⟨b1, b2, b3, b4, b5⟩ := HSA.out _ _ hl3 hc3 ho3
     have hx3 : w3.cell? ⟨bB, oB + k, none⟩ = some (.slice AF bs[k].length cF) := zc b5 hbB HX.out
     clear hl3 hc3 ho3
     have HSB := hid (fun w2 O' rp' hr hc ho => ziT.stepB (w2 := w2) (O' := O') (rp' := rp') hlt b3 b1 b4 b5 (by have := b5.size; have := HH.out; omega) hr hc ho)
     have HRC := hid (HRB.out w3 b5 b3)
     clear b1 b2 b3 b4 b5 x0
     go_wp2_with fail
     refine HRC.out.mono ?_
     rintro e w4 ⟨O', rp', rfl, hr4, hc4, ho4⟩
     have HR4 := hid (HSB.out w4 O' rp' hr4 hc4 ho4)
     clear hr4 hc4 ho4
     go_wp2
     go_roundw
     case rel => exact ⟨k + 1, by omega, by omega, by go_num, HR4.out⟩
     case measure => simp [intOf]; omega
    ·have HEND := hid (show ziT s bs H W0.heap.size p b (min bs.length 8) w wr from (show k = min bs.length 8 by omega) ▸ ⟨Y, O, rp, hlw, hr, hd, hb⟩)
     clear hlw hr hd hb
     by_cases hlt2 : k < bs.length
     ·obtain rfl : k = 8 := by omega
      go_wp2
      go_ret2
      exact .inr ⟨by first | exact HM.out | trivial, _, _, _, rfl, HEND.out⟩
     ·obtain rfl : k = bs.length := by omega
      go_wp2
      go_ret2
      exact .inr ⟨by first | exact HM.out | trivial, _, _, _, rfl, HEND.out⟩
theorem zlt {s : ze} (hm : mayS s = true) : ∀ x ∈ zh s, x.length = s.1.length := fun x hx => by
 unfold zh at hx
 rcases List.mem_cons.1 hx with rfl | hx
 ·simp [zV]
 ·exact (zaj hm).2 x hx
set_option maxRecDepth 100000 in
set_option maxHeartbeats 3200000 in
theorem zjd (H b : Nat) (O : Nat -> Prop) (s : ze) (Ls : List zq) (pls : List PlR) (rp : Nat -> Nat) (v : Nat) (w : World) (h : R11W w H b O s Ls pls rp) (hm : mayS s = true) (hall : ∀ f ∈ Ls, f.1.length = s.1.length /\ ∀ p ∈ f.1, p.length <= 1000) (hl : Ls.length <= 500) (hv : v < (zh s).length) (hH : H <= w.heap.size) :
  Calls Tryz.prog 31 #[.pointer (some ⟨b, 0, none⟩), .int .i64 (v : Int)] w (RowsP (zan s.2.1.length Ls ((zh s).getD v []) Ls.length) w) := by
 obtain ⟨⟨hd1, hd3⟩, ⟨hn1, hn2⟩, hdl⟩ := zaz hm
 obtain ⟨hv6, hvl⟩ := zaj hm
 have hlX := zlt hm
 have hvn : (zh s).length <= 7 := by unfold zh; rw [List.length_cons]; omega
 obtain ⟨ob, ol, -, ⟨S1, S2, S3, s0, s1, s2, hsv⟩, ⟨Lv, l3, hfac, hlo⟩, -⟩ := h
 obtain ⟨A1, c1, A2, c2, A3, c3, e, -, -, -⟩ := id hsv
 simp only [Value.agg.injEq, Array.mk.injEq, List.cons.injEq, and_true] at e
 obtain ⟨rfl, rfl, rfl⟩ := e
 have hbl := (ol b ob).2
 obtain ⟨AL, cL, rfl⟩ := zu (show w.ownsRow H 60 2 Lv Ls.length _ from hfac.choose_spec.2.1)
 have HVW := hid (zcB _ s w (hsv.more hH) (by omega) (by omega))
 have HFAC := hid hfac; have HLX := hid hlX; have HALL := hid hall
 have HLL := hid (fun g hg => (ol g (hlo g hg).1).2)
 generalize hrr : zan (s.2.1.length : Int) Ls ((zh s).getD v []) Ls.length = rr
 have HRR := hid hrr
 clear hrr hsv hfac hlo ol hlX hall hvl hdl
 go_enter Tryz.func31, Tryz.ntmps31
 go_wp2_with fail
 refine HVW.out.mono ?_
 rintro e w4 ⟨vv, rfl, hvv, hb4⟩
 obtain ⟨AV, cV, e, hcV, hmV⟩ := hvv.open_
 simp only [List.cons.injEq, and_true] at e
 subst e
 have hs4 := hb4.size
 have HB4 := hid hb4
 have s0 := zc hb4 (by omega) s0
 have s1 := zc hb4 (by omega) s1
 have s2 := zc hb4 (by omega) s2
 have l3 := zc hb4 (by omega) l3
 obtain ⟨bV, oV, Ak, ck, rfl, hbV, xv, hrd⟩ := zdb hvv hv
 have hgd : (zh s).getD v [] = (zh s)[v] := by rw [List.getD_eq_getElem?_getD, List.getElem?_eq_getElem hv]; rfl
 have hln := HLX.out _ (List.getElem_mem hv)
 have hrr := HRR.out
 rw [hgd] at hrr
 have HROWS := hid (fun W (hq : Qu w4 W) => hrr ▸ zeY A1 A2 A3 s.1.length s.2.1.length s.2.2.length c1 c2 c3 (.slice AL Ls.length cL) (.slice Ak (zh s)[v].length ck) Ls (zh s)[v] W
  (zc8.rd (H := H) (HFAC.out.kept ((HB4.out.mono hH).trans (hq.below _)) (fun g hg => (HB4.out.trans (hq.below _)).block g (HLL.out g hg))) (by have := (hq.below w4.heap.size).size; omega))
  (zm.on hrd (hq.below _)) (fun f hf => ⟨by rw [(HALL.out f hf).1, hln]; exact Nat.le_refl _, (HALL.out f hf).2⟩) (by omega) (by omega) (by omega))
 have h0 : ¬ ((v : Int) < 0) := by omega
 have h1 : ¬ (((zh s).length : Int) <= (v : Int)) := by omega
 clear hgd hrr hrd hln hvv hb4
 go_wp2
 go_region_law (first
  | (go_simp; go_at_call 51; refine (HROWS.out _ ⟨1, rfl⟩).mono ?_; rintro e w6 ⟨o6, rfl, ho6, hb6⟩; have HO6 := hid ho6; have HB6 := hid (HB4.out.trans ((Below.refl w.heap.size w4).drew.trans (hb6.mono (by show w.heap.size <= w4.heap.size; omega)))); clear hb6 ho6))
 all_goals
  go_wp2
  go_ret2
  exact ⟨o6, rfl, HO6.out, HB6.out⟩
end Go.Proofs.YtgoapnkdcfcjgaaGreat
