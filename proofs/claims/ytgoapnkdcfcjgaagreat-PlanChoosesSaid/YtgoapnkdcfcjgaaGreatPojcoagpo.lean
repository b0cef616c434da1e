/- 2 texts of this claim, in build order. -/
import Derived.Test.YtgoapnkdcfcjgaaGreatPjdonnbib
import Derived.Test.YtgoapnkdcfcjgaaGreatPplomcpim
import Derived.Test.YtgoapnkdcfcjgaaGreatPbgdpfjdh
import Derived.Test.YtgoapnkdcfcjgaaGreatPibnphadk
import Derived.Test.YtgoapnkdcfcjgaaGreatPgedadcce
set_option linter.unusedVariables false
set_option linter.unusedSimpArgs false
namespace Go.Proofs.YtgoapnkdcfcjgaaGreat
open Go.ChangeShapes Go.WideShapes Go.ChangeAt Go.RowKit
theorem Chg.of_grownR {w w' : World} {row : Option Nat} {K : Nat} (hg : w.grownBy w' row) (hb : Below K w w') : Chg (fun g => row = some g) w w' :=
 ⟨hb.os, hb.tape, hb.output, hb.size, fun k hk hd => hg.block k hk (fun e => hd e.symm)⟩
def zbZ (w w' : World) (r : Nat) : Prop := ∃ v0 v1, w.cell? ⟨r, 1, none⟩ = some v0 /\ w'.cell? ⟨r, 1, none⟩ = some v1 /\ (v1.ownBlock = v0.ownBlock \/ ∀ g, v1.ownBlock = some g -> w.heap.size <= g) /\ Chg (fun k => k = r \/ v0.ownBlock = some k) w w'
theorem zbZ.same {w w' : World} {R : Nat -> Prop} {r : Nat} {L : Int} {pl : List (List ByteArray)} (h : RefW w R r L pl) (hb : Below w.heap.size w w') : zbZ w w' r := by
 obtain ⟨h1, h2, -, -, v, vs, E, h5, -⟩ := h
 exact ⟨v, v, h5, zc hb (h2 r h1) h5, .inl rfl, Chg.of_below hb⟩
theorem zbZ.grow {w wo w5 w7 : World} {K r : Nat} {vL v5 : Value} {R : Nat -> Prop} {L : Int} {pl : List (List ByteArray)} (h : RefW w R r L pl) (hb : Below w.heap.size w wo) (c : wo.cell? ⟨r, 1, none⟩ = some vL)
  (hg : wo.grownBy w5 vL.ownBlock) (hb5 : Below K wo w5) (c5 : w5.cell? ⟨r, 1, none⟩ = some vL) (hat : v5.ownBlock = vL.ownBlock \/ v5.ownBlock = some wo.heap.size)
  (hb7 : Below (w5.setCell ⟨r, 1, none⟩ v5).heap.size (w5.setCell ⟨r, 1, none⟩ v5) w7) : zbZ w w7 r := by
 obtain ⟨h1, h2, -, -, v, vs, E, h5, -⟩ := h
 have hr := h2 r h1
 have e := zc hb hr h5
 rw [c] at e
 injection e with e
 subst e
 have hs := hb.size; have hs5 := hg.size
 have hsz : (w5.setCell ⟨r, 1, none⟩ v5).heap.size = w5.heap.size := by simp [World.setCell]
 refine ⟨vL, v5, h5, zc hb7 (by rw [hsz]; omega) (zt c5), ?_, ?_⟩
 ·rcases hat with h | h
  ·exact .inl h
  ·refine .inr (fun g hg' => ?_)
   rw [h] at hg'; injection hg' with hg'; omega
 ·exact ((((Chg.of_below hb).same ((Chg.of_grownR hg hb5).mono (fun g hg => .inr hg))).same (Chg.upd (Upd.setCell r 1 w5 v5) (.inl rfl))).same (Chg.of_below hb7))
def zcI (R : Nat -> Prop) (r : Nat) (L : Int) (res : List (List ByteArray) × List Nat × Int) (w : World) (e : Ending) (w' : World) : Prop :=
 ∃ v R', e = .returned (.tuple #[v, .int .i64 res.2.2]) /\ Sl w' w'.heap.size v (zc5 res.2.1) /\ Grow w R R' /\ RefW w' R' r L res.1 /\ Chg R w w' /\ zbZ w w' r
set_option maxRecDepth 100000 in
set_option maxHeartbeats 1600000 in
theorem zlH (R : Nat -> Prop) (r : Nat) (L : Int) (pl : List (List ByteArray)) (v : Value) (p : List ByteArray) (w : World) (h : RefW w R r L pl) (hpl : pl.length <= 1000) (hv : Sl w w.heap.size v (zL p)) (hno : mayB p = false \/ (p.length : Int) ≠ L) :
  Calls Tryz.prog 50 #[.pointer (some ⟨r, 0, none⟩), v] w (zcI R r L (addR pl L p) w) := by
 have hr : addR pl L p = (pl, [], 10) := if_pos hno
 rw [hr]; clear hr
 have HM := hid (zci v p w hv)
 obtain ⟨A, c, rfl, hc1, hc2⟩ := hv.formS
 have hcL := h.2.2.2.1
 have HH := hid h; clear h hv
 go_enter Tryz.func50, Tryz.ntmps50
 go_wp2_with fail
 refine HM.out.mono ?_
 rintro e w1 ⟨rfl, hq1⟩
 have HQ1 := hid hq1; clear hq1
 have hcL1 : w1.cell? ⟨r, 0, none⟩ = _ := (HQ1.out.cell _).trans hcL
 cases hmb : mayB p with
 | false =>
   clear hno hmb
   go_wp2
   go_ret2
   exact ⟨.slice none 0 0, R, rfl, zfk, Grow.refl _ _, HH.out.below (HQ1.out.below _), Chg.of_qu HQ1.out, zbZ.same HH.out (HQ1.out.below _)⟩
 | true =>
   have hL : (p.length : Int) ≠ L := by
    rcases hno with h | h
    ·rw [hmb] at h; cases h
    ·exact h
   have t0 : ((p.length : Int) != L) = true := by rw [bne_iff_ne]; exact hL
   clear hno hmb hL
   go_wp2
   go_ret2
   exact ⟨.slice none 0 0, R, rfl, zfk, Grow.refl _ _, HH.out.below (HQ1.out.below _), Chg.of_qu HQ1.out, zbZ.same HH.out (HQ1.out.below _)⟩
set_option maxRecDepth 100000 in
set_option maxHeartbeats 1600000 in
theorem zjM (R : Nat -> Prop) (r : Nat) (L : Int) (pl : List (List ByteArray)) (v : Value) (p : List ByteArray) (w : World) (h : RefW w R r L pl) (hpl : pl.length <= 1000) (hvE : SlE w (fun g => ¬ R g) v (zL p)) (hmb : mayB p = true) (hL : (p.length : Int) = L) :
  Calls Tryz.prog 50 #[.pointer (some ⟨r, 0, none⟩), v] w (zcI R r L (addR pl L p) w) := by
 obtain ⟨i0, hi, hz0, hz1, hz2⟩ := info_parts zpm
 have hv := hvE.sl
 obtain ⟨i1, hi1, hy0, hy1, hy2⟩ := info_parts zol
 have hr : addR pl L p = if 40 < pl.length + (zcw pl p).length then (pl, [], 15) else (pl ++ zcw pl p, outR (pl ++ zcw pl p) p, 0) := if_neg (by rw [hmb]; simp [hL])
 have hp3 : p.length <= 3 := by unfold mayB at hmb; simp at hmb; exact hmb.1
 have hm := zci v p w hv
 rw [hmb] at hm
 have HM := hid hm; clear hm
 obtain ⟨A, c, rfl, hc1, hc2⟩ := hv.formS
 have hcL := h.2.2.2.1
 have hrl := h.2.1 r h.1
 have t0 : ((p.length : Int) != L) = false := by rw [bne_eq_false_iff_eq]; exact hL
 have HH := hid h; have HV := hid hv; have HVE := hid hvE.lt; clear hvE; have HR := hid hr; clear h hv hr hmb hL
 unfold maxLen at hc2
 go_enter Tryz.func50, Tryz.ntmps50
 go_wp2_with fail
 refine HM.out.mono ?_
 rintro e w1 ⟨rfl, hq1⟩
 have HQ1 := hid hq1; clear hq1
 have hcL1 : w1.cell? ⟨r, 0, none⟩ = _ := (HQ1.out.cell _).trans hcL
 go_wp2
 have HH1 := hid (HH.out.below (HQ1.out.below _))
 have HV1 := hid (Sl.qu' HV.out HQ1.out)
 have hz1' : w1.heap.size = w.heap.size := Qu.size HQ1.out
 go_loopw [7, 8, 9] (fun v i _ wr => zqT pl p w v i wr) (fun _ i _ _ => p.length + 1 - (intOf i).toNat)
 case atStart => exact ⟨0, [], rfl, by omega, World.ownsRow_nil _ _ _ _, ⟨rfl, by simp, by simp [zfx]⟩, HQ1.out.below _⟩
 case round =>
  obtain ⟨k, vs, rfl, hk, hown, hrows, hb⟩ := hrel
  have HOW := hid hown; have HRO := hid hrows; have HB := hid hb; clear hown hrows hb
  by_cases hlt : k < p.length
  ·have hsh := Sl.head (k + 1) HV.out (by omega)
   rw [<- zgf] at hsh
   have hf := zfR R r L pl _ _ wr (HH.out.below HB.out) hpl ((hsh.below HB.out).more HB.out.size)
   have hms := zl0 pl p k
   have hml := zhC pl p k
   have hcl := zen pl (p.take (k + 1))
   have htl : (p.take (k + 1)).length = k + 1 := by rw [List.length_take]; omega
   generalize code pl (p.take (k + 1)) = m at *
   have HF := hid hf; have HMS := hid hms; have HSH := hid hsh; clear hf hms hsh
   go_wp2_with fail
   refine HF.out.mono ?_
   rintro e w2 ⟨rfl, hq2⟩
   have HQ2 := hid hq2; clear hq2
   have hs2 : w2.heap.size = wr.heap.size := Qu.size HQ2.out
   by_cases hm0 : m = 0
   ·have hms := HMS.out
    rw [if_pos hm0] at hms
    have t1 : ((m : Int) == 0) = true := by simp [hm0]
    have HMS2 := hid hms; clear hms hm0
    have HTL := hid htl; clear htl
    go_wp2_with (at_builtin; refine zr ?_)
    refine zar ?_
    refine zav (.tmp 37) (.tmp 40) 23 23 rfl rfl w2.heap.size 9 i0 (.string ByteArray.empty) 1 16 Tryz.underlying23 hi hz0 hz1 hz2 rfl (by omega) _ 0 [] rfl (World.ownsRow_nil _ _ _ _) _ (k + 1) (zL (p.take (k + 1))) rfl (by
     have := zfG w2 Tryz.underlying23 ((HSH.out.below HB.out).qu' HQ2.out) (zn3 _)
     rwa [zat, HTL.out] at this) (by simp [maxLen]; omega) (by omega) (Nat.le_refl _) ?_
    intro v3 w3 ho3 hg3 hb3
    rw [Nat.zero_add, List.nil_append] at ho3
    obtain ⟨A3, c3, rfl, -, -, -⟩ := zl ho3
    have HO3 := hid ho3; have HB3 := hid hb3; clear ho3 hg3 hb3
    have hsz3 := HB3.out.size
    have ho7 : w3.ownsRow w.heap.size 23 1 u7 (zfx pl p k).length vs := zo HOW.out (fun g hg => by
     have := (HOW.out.lt g hg).2
     exact (HB3.out.block g (by omega)).trans ((HQ2.out.below wr.heap.size).block g this))
    have HO7 := hid ho7; clear ho7
    have hsB := HB.out.size
    go_wp2_with (at_builtin; refine zr ?_)
    refine zar ?_
    refine zN (.tmp 42) (.tmp 44) 58 58 rfl rfl w.heap.size 23 i1 (.slice none 0 0) 1 24 Tryz.underlying58 hi1 hy0 hy1 hy2 rfl (by omega) u7 _ _ rfl (HO7.out.alloc _) (.slice (some ⟨w3.heap.size, 0, none⟩) 1 1) 1 [.slice A3 (k + 1) c3] rfl (Src.ofSlice _ Tryz.underlying58 _ 1 1 _ rfl (cell_one_new _ _ _) (by simp; rfl)) (by unfold maxLen; omega) (by omega) (by simp; omega) ?_
    intro v4 w4 ho4 hg4 hb4 hat4
    obtain ⟨hrows4, hbel4⟩ := zmG rfl HOW.out HRO.out HB.out HQ2.out ⟨hsz3, HO3.out⟩ rfl HB3.out hg4 hat4
    have HO4 := hid ho4; have HR4 := hid hrows4; have HB4 := hid hbel4; clear ho4 hg4 hb4 hat4 hrows4 hbel4
    go_wp2
    go_roundw
    case rel =>
     refine ⟨k + 1, vs ++ [.slice A3 (k + 1) c3], by go_num, by omega, ?_, ?_, HB4.out⟩
     ·rw [HMS2.out, List.length_append, List.length_singleton]; exact HO4.out
     ·rw [HMS2.out]; exact HR4.out
    case measure => simp [intOf]; omega
   ·have hms := HMS.out
    rw [if_neg hm0] at hms
    have t1 : ((m : Int) == 0) = false := by rw [beq_eq_false_iff_ne]; omega
    have HMS2 := hid hms; clear hms hm0 htl
    go_wp2
    go_roundw
    case rel =>
     refine ⟨k + 1, vs, by go_num, by omega, ?_, ?_, HB.out.trans (HQ2.out.below _)⟩
     ·rw [HMS2.out]; exact zo HOW.out (fun g hg => (HQ2.out.below wr.heap.size).block g (HOW.out.lt g hg).2)
     ·rw [HMS2.out]; exact HRO.out.kept (HQ2.out.below _)
    case measure => simp [intOf]; omega
  ·obtain rfl : k = p.length := by omega
   have hmr : zfx pl p p.length = zcw pl p := rfl
   have hml := zhC pl p p.length
   rw [hmr] at hml
   have HOW' : Hid (wr.ownsRow w.heap.size 23 1 u7 (zcw pl p).length vs) := HOW
   have HRO' : Hid (zfI wr w.heap.size u7 vs (zcw pl p)) := HRO
   clear HOW HRO hmr
   generalize zcw pl p = ms at *
   obtain ⟨k1, k2, k3, k4, vL, vsL, E, k5, k6, k7, k8, k9⟩ := HH.out.below HB.out
   have HK6 := hid k6
   obtain ⟨AL, cL, rfl, hcL1', hcL2', -⟩ := zl k6
   have HK := hid (And.intro k3 (And.intro k4 (And.intro k5 (And.intro k7 (And.intro k8 k9))))); clear k6 k7 k8 k9 k4
   have k3a := k3 1 (by omega); clear k3 k2
   obtain ⟨Am, cm, rfl, hcm1, hcm2, -⟩ := zl HOW'.out
   unfold maxLen at hcL2' hcm2
   by_cases hgt : 40 < pl.length + ms.length
   ·have hr := HR.out
    rw [if_pos hgt] at hr
    have HR2 := hid hr; clear hr
    have t1 : decide ((40 : Int) < (pl.length : Int) + (ms.length : Int)) = true := by rw [decide_eq_true_eq]; omega
    go_wp2
    go_ret2
    exact ⟨.slice none 0 0, R, by rw [HR2.out]; rfl, by rw [HR2.out]; exact zfk, Grow.refl _ _, by rw [HR2.out]; exact HH.out.below HB.out, Chg.of_below HB.out, zbZ.same HH.out HB.out⟩
   ·have hr := HR.out
    rw [if_neg hgt] at hr
    have HR2 := hid hr; clear hr
    have t1 : decide ((40 : Int) < (pl.length : Int) + (ms.length : Int)) = false := by rw [decide_eq_false_iff_not]; omega
    obtain ⟨i2, hi2, hx0, hx1, hx2⟩ := info_parts zaE
    have hvl : vs.length = ms.length := HRO'.out.1
    go_wp2_with (at_builtin; refine zr ?_)
    refine zar ?_
    refine zN (.tmp 59) (.tmp 60) 58 58 rfl rfl 0 23 i1 (.slice none 0 0) 1 24 Tryz.underlying58 hi1 hy0 hy1 hy2 rfl (by omega) (.slice AL pl.length cL) pl.length vsL rfl HK6.out (.slice Am ms.length cm) ms.length vs rfl (by
     have := zfG wr Tryz.underlying58 (Sl.of_own HOW'.out) HRO'.out.2.1
     rwa [hvl] at this) (by unfold maxLen; omega) (by omega) (by omega) ?_
    intro v5 w5 ho5 hg5 hb5 hat5
    obtain ⟨A5, c5', rfl, -, -, -⟩ := zl ho5
    obtain ⟨q3, q4, q5, q7, q8, q9⟩ := HK.out
    obtain ⟨c5, f5, hrw5, hchg5⟩ := zpp rfl HH.out.1 HH.out.2.1 HB.out q3 q4 q5 HK6.out q7 q8 q9 HRO'.out ho5 hg5 hat5
    have f51 := f5 1 (by omega)
    have HRT := hid (fun w7 (hb7 : Below (w5.setCell ⟨r, 1, none⟩ (.slice A5 (pl.length + ms.length) c5')).heap.size (w5.setCell ⟨r, 1, none⟩ (.slice A5 (pl.length + ms.length) c5')) w7) => zbZ.grow HH.out HB.out k5 hg5 hb5 c5 hat5 hb7)
    have HRW := hid hrw5; have HCH := hid hchg5; have hs5 := hg5.size
    clear ho5 hg5 hb5 hat5 q3 q4 q5 q7 q8 q9 hrw5 hchg5 f5
    go_wp2
    have hz6 : (w5.setCell ⟨r, 1, none⟩ (.slice A5 (pl.length + ms.length) c5')).heap.size = w5.heap.size := by simp [World.setCell]
    obtain ⟨w6, hw6⟩ : ∃ w6, w6 = w5.setCell ⟨r, 1, none⟩ (.slice A5 (pl.length + ms.length) c5') := ⟨_, rfl⟩
    rw [<- hw6] at HRW HCH hz6 HRT ⊢
    clear hw6 c5 f51
    obtain ⟨wo, rfl⟩ : ∃ wo : World, wo = wr := ⟨_, rfl⟩
    have hv6 : SlE w6 (fun g => ¬ R g /\ g < w.heap.size) (.slice A p.length c) (zL p) := HVE.out.kept (HCH.out.kept (fun g hg => ⟨hg.2, hg.1⟩))
    have HV6 := hid hv6.sl; clear hv6
    have hpl2 : (pl ++ ms).length <= 1000 := by rw [List.length_append]; omega
    go_loopw [10, 11] (fun v i wr => zqI (pl ++ ms) p w6 v i wr) (fun _ i _ => p.length + 1 - (intOf i).toNat)
    case atStart => exact ⟨0, rfl, by omega, World.ownsRow_nil _ _ _ _, Below.refl _ _⟩
    case round =>
     obtain ⟨k, rfl, hk, hown, hb⟩ := hrel
     have HOW2 := hid hown; have HB2 := hid hb; clear hown hb
     have hsB2 := HB2.out.size
     by_cases hlt : k < p.length
     ·have hsh := Sl.head (k + 1) HV6.out (by omega)
      rw [<- zgf] at hsh
      have hf := zfR _ r L (pl ++ ms) _ _ wr (HRW.out.below HB2.out) hpl2 ((hsh.below HB2.out).more HB2.out.size)
      have hos := zoc (pl ++ ms) p k
      have hcl := zen (pl ++ ms) (p.take (k + 1))
      generalize code (pl ++ ms) (p.take (k + 1)) = m at *
      have HF := hid hf; have HOS := hid hos; clear hf hos hsh
      go_wp2_with fail
      refine HF.out.mono ?_
      rintro e w7 ⟨rfl, hq7⟩
      have HQ7 := hid hq7; clear hq7
      have hs7 : w7.heap.size = wr.heap.size := Qu.size HQ7.out
      have ho7 : w7.ownsRow w6.heap.size 3 1 u10 k (zc5 (outK (pl ++ ms) p k)) := zo HOW2.out (fun g hg => (HQ7.out.below wr.heap.size).block g (HOW2.out.lt g hg).2)
      have hs7' : w6.heap.size <= w7.heap.size := by omega
      have HO7 := hid ho7; clear ho7 hs7
      go_wp2_with (at_builtin; refine zr ?_)
      refine zar ?_
      refine zav (.tmp 70) (.tmp 76) 27 27 rfl rfl w6.heap.size 3 i2 (.int .i64 0) 1 8 Tryz.underlying27 hi2 hx0 hx1 hx2 rfl (by omega) _ _ _ rfl (HO7.out.alloc _) (.slice (some ⟨w7.heap.size, 0, none⟩) 1 1) 1 [_] rfl (Src.ofSlice _ Tryz.underlying27 _ 1 1 _ rfl (cell_one_new _ _ _) (by simp; rfl)) (by unfold maxLen; omega) (by omega) (by simp; omega) ?_
      intro v8 w8 ho8 hg8 hb8
      have HO8 := hid ho8; have HB8 := hid (((HB2.out.trans (HQ7.out.below _)).alloc (by omega) _).trans hb8); clear ho8 hg8 hb8
      go_wp2
      go_roundw
      case rel => exact ⟨k + 1, by go_num, by omega, by rw [HOS.out]; exact HO8.out, HB8.out⟩
      case measure => simp [intOf]; omega
     ·obtain rfl : k = p.length := by omega
      go_wp2
      go_ret2
      refine ⟨_, _, by rw [HR2.out]; rfl, by rw [HR2.out]; exact Sl.of_own HOW2.out, ?_, by rw [HR2.out]; exact HRW.out.below HB2.out, HCH.out.trans (Chg.of_below (D := R) HB2.out) (fun _ h => .inl h), HRT.out _ HB2.out⟩
      exact ⟨fun _ h => .inl h, fun k hk => hk.elim .inl (fun h => .inr h.1)⟩
theorem zif (R : Nat -> Prop) (r : Nat) (L : Int) (pl : List (List ByteArray)) (v : Value) (p : List ByteArray) (w : World) (h : RefW w R r L pl) (hpl : pl.length <= 1000) (hv : SlE w (fun g => ¬ R g) v (zL p)) :
  Calls Tryz.prog 50 #[.pointer (some ⟨r, 0, none⟩), v] w (zcI R r L (addR pl L p) w) := by
 by_cases hno : mayB p = false \/ (p.length : Int) ≠ L
 ·exact zlH R r L pl v p w h hpl hv.sl hno
 ·refine zjM R r L pl v p w h hpl hv ?_ ?_
  ·cases hm : mayB p with
   | true => rfl
   | false => exact absurd (.inl hm) hno
  ·by_cases hl : (p.length : Int) = L
   ·exact hl
   ·exact absurd (.inr hl) hno
end Go.Proofs.YtgoapnkdcfcjgaaGreat
namespace Go.Proofs.YtgoapnkdcfcjgaaGreat
open Go.ChangeShapes Go.WideShapes Go.ChangeAt Go.RowKit Go.Deep
def zaM (fx : List (Value × Value)) : List Value := fx.flatMap fun x => [x.1, x.2]
def zoG (w : World) (O : Nat -> Prop) (b r : Nat) (L : Int) (pl : List (List ByteArray)) : Prop := ∃ R : Nat -> Prop, RefW w R r L pl /\ ∀ k, R k -> O k /\ k ≠ b
theorem zoG.kept {w w' : World} {O O' : Nat -> Prop} {b r : Nat} {L : Int} {pl : List (List ByteArray)} (h : zoG w O b r L pl) (hk : ∀ k, O k -> k ≠ b -> w'.heap[k]? = w.heap[k]?) (hs : w.heap.size <= w'.heap.size) (ho : ∀ k, O k -> O' k) : zoG w' O' b r L pl := by
 obtain ⟨R, h1, h2⟩ := h
 exact ⟨R, h1.kept (fun k hk' => hk k (h2 k hk').1 (h2 k hk').2) hs, fun k hk' => ⟨ho k (h2 k hk').1, (h2 k hk').2⟩⟩
def zc8 (w : World) (H : Nat) (Lv : Value) (Ls : List zq) : Prop :=
 ∃ fx : List (Value × Value), fx.length = Ls.length /\ w.ownsRow H 60 2 Lv Ls.length (zaM fx) /\
  ∀ j (hj : j < Ls.length), zj 1 zO w H [(fx.getD j (undef, undef)).1] Ls[j].1 /\ zC w H [(fx.getD j (undef, undef)).2] Ls[j].2
theorem zc8.kept {w w' : World} {H : Nat} {Lv : Value} {Ls : List zq} (h : zc8 w H Lv Ls) (hb : Below H w w') (hk : ∀ g, Lv.ownBlock = some g -> w'.heap[g]? = w.heap[g]?) : zc8 w' H Lv Ls := by
 obtain ⟨fx, h1, h2, h3⟩ := h
 exact ⟨fx, h1, zo h2 hk, fun j hj => ⟨zB.stays (h3 j hj).1 hb, zm.stays (h3 j hj).2 hb⟩⟩
structure R11W (w : World) (H b : Nat) (O : Nat -> Prop) (s : ze) (Ls : List zq) (pls : List (List (List ByteArray))) (rp : Nat -> Nat) : Prop where
 ob : O b
 ol : ∀ g, O g -> H <= g /\ g < w.heap.size
 fz : ∀ i, i < 5 -> w.frozen? ⟨b, i, none⟩ = false
 sch : ∃ S1 S2 S3, w.cell? ⟨b, 0, none⟩ = some S1 /\ w.cell? ⟨b, 1, none⟩ = some S2 /\ w.cell? ⟨b, 2, none⟩ = some S3 /\ zD w H (.agg #[S1, S2, S3]) s
 fac : ∃ Lv : Value, w.cell? ⟨b, 3, none⟩ = some Lv /\ zc8 w H Lv Ls /\ ∀ g, Lv.ownBlock = some g -> O g /\ g ≠ b
 dic : ∃ Dv : Value, w.cell? ⟨b, 4, none⟩ = some Dv /\ w.ownsRow H 97 1 Dv pls.length (ptrs rp pls.length) /\ (∀ g, Dv.ownBlock = some g -> O g /\ g ≠ b) /\ ∀ i, i < pls.length -> zoG w O b (rp i) (dimL s i) (pls.getD i [])
theorem R11W.kept {w w' : World} {H b : Nat} {O : Nat -> Prop} {s : ze} {Ls : List zq} {pls : List (List (List ByteArray))} {rp : Nat -> Nat} (h : R11W w H b O s Ls pls rp) (hb : Below H w w') (hk : ∀ g, O g -> w'.heap[g]? = w.heap[g]?) : R11W w' H b O s Ls pls rp := by
 obtain ⟨ob, ol, fz, ⟨S1, S2, S3, s1, s2, s3, s4⟩, ⟨Lv, l1, l2, l3⟩, ⟨Dv, d1, d2, d3, d4⟩⟩ := h
 have kb : Kept O w w' := hk
 exact ⟨ob, fun g hg => ⟨(ol g hg).1, Nat.lt_of_lt_of_le (ol g hg).2 hb.size⟩, fun i hi => kb.frozen ob (fz i hi), ⟨S1, S2, S3, kb.cell ob s1, kb.cell ob s2, kb.cell ob s3, s4.below hb⟩,
  ⟨Lv, kb.cell ob l1, l2.kept hb (fun g hg => hk g (l3 g hg).1), l3⟩, ⟨Dv, kb.cell ob d1, zo d2 (fun g hg => hk g (d3 g hg).1), d3, fun i hi => (d4 i hi).kept (fun g hg _ => hk g hg) hb.size (fun _ h => h)⟩⟩
theorem RefW.new_ {w : World} {r : Nat} {L : Int} {t : TypeId} (hr : w.heap[r]? = some (.cells #[.int .i64 L, .slice none 0 0] t (0, 0))) : RefW w (fun k => k = r) r L [] := by
 have hlt : r < w.heap.size := (Array.getElem?_eq_some_iff.1 hr).1
 refine ⟨rfl, fun k hk => by omega, fun i hi => ?_, ?_, .slice none 0 0, [], fun _ => False, ?_, World.ownsRow_nil _ _ _ _, fun g hg => by simp [Value.ownBlock] at hg, fun k hk => hk.elim, fun i x hx => by simp at hx⟩
 ·simp [World.frozen?, hr]
 ·rw [cell_of_row w r 0 _ t (0, 0) hr]; rfl
 ·rw [cell_of_row w r 1 _ t (0, 0) hr]; rfl
theorem zkd : (Tryz.prog.info? 97).map (fun i => (i.zero, i.size, i.bytes)) = some (some (.pointer none), 1, 8) := by kernel_rfl
def NwR (s : ze) (H b : Nat) (S1 S2 S3 : Value) (W2 : World) (i : Value) (wr : World) : Prop :=
 ∃ (k : Nat) (rp : Nat -> Nat) (Dv : Value), k <= s.1.length /\ i = .int .i64 k /\ b < wr.heap.size /\ (∀ j, j < 5 -> wr.frozen? ⟨b, j, none⟩ = false) /\ wr.cell? ⟨b, 0, none⟩ = some S1 /\ wr.cell? ⟨b, 1, none⟩ = some S2 /\ wr.cell? ⟨b, 2, none⟩ = some S3 /\ wr.cell? ⟨b, 3, none⟩ = some (.slice none 0 0) /\
  wr.cell? ⟨b, 4, none⟩ = some Dv /\ wr.ownsRow (b + 1) 97 1 Dv k (ptrs rp k) /\ (∀ j, j < k -> RefW wr (fun g => g = rp j) (rp j) (dimL s j) [] /\ b < rp j /\ Dv.ownBlock ≠ some (rp j)) /\ Below b W2 wr
def R11NP (H : Nat) (s : ze) (w : World) (e : Ending) (w' : World) : Prop :=
 (mayS s = false /\ e = .returned (.tuple #[.pointer none, .int .i64 11]) /\ Below w.heap.size w w') \/
 (mayS s = true /\ ∃ b rp, e = .returned (.tuple #[.pointer (some ⟨b, 0, none⟩), .int .i64 0]) /\ R11W w' H b (fun g => w.heap.size <= g /\ g < w'.heap.size) s [] (List.replicate s.1.length []) rp /\ Below w.heap.size w w')
set_option maxRecDepth 100000 in
set_option maxHeartbeats 3200000 in
theorem zlK (H : Nat) (v : Value) (s : ze) (w : World) (hvH : zD w H v s) (hH : H <= w.heap.size) (hl : s.1.length <= 1000) : Calls Tryz.prog 26 #[v] w (R11NP H s w) := by
 have hv := hvH.more hH
 have HVH := hid hvH
 clear hvH
 obtain ⟨i0, hi0, hz0, hy0, hx0⟩ := info_parts zkd
 have hv0 := hv
 obtain ⟨A1, c1, A2, c2, A3, c3, rfl, h1, -, -⟩ := hv
 obtain ⟨W0, hW0⟩ : ∃ W, W = w.alloc (.cells #[.slice A1 s.1.length c1, .slice A2 s.2.1.length c2, .slice A3 s.2.2.length c3] 26) := ⟨_, rfl⟩
 have g0 : Below w.heap.size w W0 := by rw [hW0]; exact bl1 _ _
 have z0 : W0.heap.size = w.heap.size + 1 := by rw [hW0]; simp
 have y0 : W0.cell? ⟨w.heap.size, 0, none⟩ = some (.slice A1 s.1.length c1) := by rw [hW0]; simp [go_sem]
 have y1 : W0.cell? ⟨w.heap.size, 1, none⟩ = some (.slice A2 s.2.1.length c2) := by rw [hW0]; simp [go_sem]
 have y2 : W0.cell? ⟨w.heap.size, 2, none⟩ = some (.slice A3 s.2.2.length c3) := by rw [hW0]; simp [go_sem]
 have HMAY := hid (zbz _ s W0 (hv0.on g0) hl)
 have HW0 := hid hW0; have G0 := hid g0; have HV0 := hid hv0; have H1 := hid h1
 clear hW0 g0 hv0 h1
 go_enter Tryz.func26, Tryz.ntmps26
 go_wp2_with fail
 rw [<- HW0.out]
 (with_reducible refine HMAY.out.mono ?_)
 rintro e w1 ⟨rfl, hb1⟩
 have z1 := hb1.size
 have B1 := hid (G0.out.trans (hb1.mono (by omega)))
 have y0 := zc hb1 (by omega) y0
 have y1 := zc hb1 (by omega) y1
 have y2 := zc hb1 (by omega) y2
 clear hb1
 cases hm : mayS s
 case false =>
  have HM := hid hm
  clear hm
  go_wp2
  go_ret2
  exact .inl ⟨HM.out, rfl, B1.out⟩
 case true =>
  have HM := hid hm
  clear hm
  obtain ⟨W2, hW2⟩ : ∃ W, W = w1.alloc (.cells #[.slice A1 s.1.length c1, .slice A2 s.2.1.length c2, .slice A3 s.2.2.length c3, .slice none 0 0, .slice none 0 0] 71) := ⟨_, rfl⟩
  have b2 : Below w1.heap.size w1 W2 := by rw [hW2]; exact bl1 _ _
  have z2 : W2.heap.size = w1.heap.size + 1 := by rw [hW2]; simp
  have HR0 := hid (show NwR s w.heap.size w1.heap.size (.slice A1 s.1.length c1) (.slice A2 s.2.1.length c2) (.slice A3 s.2.2.length c3) W2 (.int .i64 0) W2 from
   ⟨0, fun _ => 0, .slice none 0 0, by omega, rfl, by omega, fun j hj => by rw [hW2]; simp [go_sem], by rw [hW2]; simp [go_sem], by rw [hW2]; simp [go_sem], by rw [hW2]; simp [go_sem], by rw [hW2]; simp [go_sem], by rw [hW2]; simp [go_sem], World.ownsRow_nil _ _ _ _, fun j hj => absurd hj (by omega), Below.refl _ _⟩)
  have HW2 := hid hW2; have B2 := hid b2
  clear hW2 b2
  go_upto_region 5 with (fail)
  rw [<- HW2.out]
  go_wp2
  go_loopw [6] (fun i wr => NwR s w.heap.size w1.heap.size (.slice A1 s.1.length c1) (.slice A2 s.2.1.length c2) (.slice A3 s.2.2.length c3) W2 i wr) (fun i _ => s.1.length - (intOf i).toNat)
  case atStart => exact HR0.out
  case round =>
   obtain ⟨k, rp, Dv, hk, rfl, hbl, hfz, k0, k1, k2, k3, k4, hown, hd, hb⟩ := hrel
   have hsb := hb.size
   obtain ⟨Ad, cd, rfl⟩ := zu hown
   have y0w := zc hb (by omega) (zc B2.out (by omega) y0)
   have HB := hid hb; have HD := hid hd; have HO := hid hown
   by_cases hlt : k < s.1.length
   ·obtain ⟨bd, off, AL, cL, rfl, hbd, -, x1, hlv, -⟩ := zfh H1.out hlt
    obtain ⟨hcl, hml⟩ := hlv.cap
    have x1w := zc hb (by have := B1.out.size; omega) (zc B2.out (by have := B1.out.size; omega) (zc B1.out hbd x1))
    have hdl : dimL s k = ((s.1[k].2.length : Nat) : Int) := by unfold dimL; rw [List.getD_eq_getElem?_getD, List.getElem?_eq_getElem hlt]; rfl
    have HDL := hid hdl
    generalize s.1[k].2.length = ll at *
    have hbn : ∀ g, (Value.slice Ad k cd).ownBlock = some g -> w1.heap.size + 1 <= g := fun g hg => (hown.lt g hg).1
    have HBN := hid hbn
    clear hd hb hlv x1 hdl hbn
    have HOX := hid (zx HO.out (((Below.refl _ wr).alloc (Nat.le_refl _) (.cells #[.int .i64 ll, .slice none 0 0] 99)).alloc (by simp) (.cells #[.pointer (some ⟨wr.heap.size, 0, none⟩)] 97)).drew)
    have HSX := hid (show Src Tryz.prog 1 69 (.slice (some ⟨wr.heap.size + 1, 0, none⟩) 1 1) 1 [.pointer (some ⟨wr.heap.size, 0, none⟩)] ((wr.alloc (.cells #[.int .i64 ll, .slice none 0 0] 99)).alloc (.cells #[.pointer (some ⟨wr.heap.size, 0, none⟩)] 97)).drew from
     Src.ofSlice _ Tryz.underlying69 _ 1 1 _ rfl (show ∀ j u, [Value.pointer (some ⟨wr.heap.size, 0, none⟩)][j]? = some u -> ((wr.alloc (.cells #[.int .i64 ll, .slice none 0 0] 99)).alloc (.cells #[.pointer (some ⟨wr.heap.size, 0, none⟩)] 97)).cell? ((⟨wr.heap.size + 1, 0, none⟩ : Addr).add j) = some u from zG _ _ _ (by simp)) (by simp; rfl))
    go_wp2
    go_region_law (first
     | (refine zcn (.tmp 25) (.tmp 35) 69 69 (by rfl) (by rfl) (w1.heap.size + 1) 97 i0 (.pointer none) 1 8 Tryz.underlying69 hi0 hz0 hy0 hx0 rfl (by omega) (.slice Ad k cd) k (ptrs rp k) (by rfl) HOX.out (.slice (some ⟨wr.heap.size + 1, 0, none⟩) 1 1) 1 [.pointer (some ⟨wr.heap.size, 0, none⟩)] (by rfl) HSX.out (by unfold maxLen; omega) (by omega) (by simp <;> omega) ?_; intro v' w6 ho6 hg6 hb6 hat6; obtain ⟨A9, c9, rfl⟩ := zu ho6; have hX := ((((Below.refl wr.heap.size wr).alloc (Nat.le_refl _) (.cells #[.int .i64 ll, .slice none 0 0] 99)).alloc (by simp) (.cells #[.pointer (some ⟨wr.heap.size, 0, none⟩)] 97)).drew); have HFB := hid (show w6.heap[w1.heap.size]? = wr.heap[w1.heap.size]? from (hg6.block _ (by simp; omega) (fun e => by have := HBN.out _ e.symm; omega)).trans (hX.block _ hbl)); have m4 := (World.cell?_of_block (a := ⟨w1.heap.size, 4, none⟩) HFB.out).trans k4; have mf := (World.frozen?_of_block (a := ⟨w1.heap.size, 4, none⟩) HFB.out).trans (hfz 4 (by omega)); have HO6 := hid ho6; have HG6 := hid hg6; have HB6 := hid hb6; have HA6 := hid hat6; have HX6 := hid hX; clear ho6 hg6 hb6 hat6 hX))
    all_goals
     have hs6 := HG6.out.size
     have hsx : wr.heap.size + 2 <= w6.heap.size := by simpa using hs6
     have hnx : NwR s w.heap.size w1.heap.size (.slice (some ⟨bd, off, none⟩) s.1.length c1) (.slice A2 s.2.1.length c2) (.slice A3 s.2.2.length c3) W2 (.int .i64 ((k : Int) + 1)) (w6.setCell ⟨w1.heap.size, 4, none⟩ (.slice A9 (k + 1) c9)) := by
      have hset : ∀ g, g ≠ w1.heap.size -> (w6.setCell ⟨w1.heap.size, 4, none⟩ (.slice A9 (k + 1) c9)).heap[g]? = w6.heap[g]? := fun g hg => Below.heap_setCell _ _ _ g (by simp; omega)
      have hsz : (w6.setCell ⟨w1.heap.size, 4, none⟩ (.slice A9 (k + 1) c9)).heap.size = w6.heap.size := by simp [World.setCell]
      have hcb := fun i u (hu : wr.cell? ⟨w1.heap.size, i, none⟩ = some u) => (World.cell?_of_block (a := ⟨w1.heap.size, i, none⟩) HFB.out).trans hu
      have hold : ∀ g, g < wr.heap.size -> (Value.slice Ad k cd).ownBlock ≠ some g -> w6.heap[g]? = wr.heap[g]? := fun g hg hn => (HG6.out.block g (by simp; omega) (fun e => hn e.symm)).trans (HX6.out.block g hg)
      refine ⟨k + 1, fun j => if j = k then wr.heap.size else rp j, _, by omega, by go_num, by rw [hsz]; omega, fun j hj => frozen_far ((World.frozen?_of_block (a := ⟨w1.heap.size, j, none⟩) HFB.out).trans (hfz j hj)), zb (by omega) (hcb 0 _ k0), zb (by omega) (hcb 1 _ k1), zb (by omega) (hcb 2 _ k2), zb (by omega) (hcb 3 _ k3), zt m4, ?_, fun j hj => ?_, ?_⟩
      ·rw [zdy, zcV (g := rp) (fun i hi => by simp only [if_neg (show ¬ i = k by omega)]), if_pos rfl]
       exact zo HO6.out (fun g hg => hset g (by have := (HO6.out.lt g hg).1; omega))
      ·by_cases e : j = k
       ·subst e
        simp only [if_pos]
        refine ⟨?_, by omega, fun e => ?_⟩
        ·rw [HDL.out]
         have hx1 : w6.heap[wr.heap.size]? = some (.cells #[.int .i64 ll, .slice none 0 0] 99 (0, 0)) := by
                    rw [HG6.out.block wr.heap.size (by simp; omega) (fun e => by have := (HO.out.lt _ e.symm).2; omega)]
                    exact ((bl1 (wr.alloc (.cells #[.int .i64 ll, .slice none 0 0] 99)) (.cells #[.pointer (some ⟨wr.heap.size, 0, none⟩)] 97)).block wr.heap.size (by simp)).trans (by unfold World.alloc; exact Array.getElem?_push_size)
         exact RefW.new_ ((hset _ (by omega)).trans hx1)
        ·rcases HA6.out with h | h
         ·rw [h] at e; have := (HO.out.lt _ e).2; omega
         ·rw [h] at e; injection e with e; have e' : wr.heap.size + 1 + 1 = wr.heap.size := by simpa using e
          omega
       ·obtain ⟨q1, q2, q3⟩ := HD.out j (by omega)
        have hlt := q1.2.1 _ rfl
        simp only [if_neg e]
        refine ⟨q1.kept (fun g hg => by subst hg; exact (hset _ (by omega)).trans (hold _ hlt q3)) (by rw [hsz]; omega), q2, fun e => ?_⟩
        rcases HA6.out with h | h
        ·exact q3 (h ▸ e)
        ·rw [h] at e; injection e with e; simp at e; omega
      ·have hbX : Below w1.heap.size wr w6 := (HX6.out.mono (by omega)).trans (HB6.out.mono (by omega))
       exact (HB.out.trans hbX).setCell (Nat.le_refl _) _
     have HNX := hid hnx
     clear hnx
     go_wp2
     go_roundw
     case rel => exact HNX.out
     case measure => simp [intOf]; omega
   ·obtain rfl : k = s.1.length := by omega
    clear hd hb
    go_wp2
    go_ret2
    refine .inr ⟨HM.out, w1.heap.size, rp, rfl, ?_, ?_⟩
    ·have hbw : w.heap.size <= w1.heap.size := by omega
     have hbr := B1.out.trans ((B2.out.mono hbw).trans (HB.out.mono hbw))
     refine ⟨⟨by omega, hbl⟩, fun g hg => ⟨by omega, hg.2⟩, hfz, ⟨_, _, _, k0, k1, k2, HVH.out.below (hbr.mono hH)⟩, ⟨.slice none 0 0, k3, ⟨[], rfl, World.ownsRow_nil _ _ _ _, fun j hj => by simp at hj⟩, fun g hg => by simp [Value.ownBlock] at hg⟩, ⟨_, k4, ?_, fun g hg => ?_, fun i hi => ?_⟩⟩
     ·rw [List.length_replicate]; exact zw HO.out (by omega)
     ·have := HO.out.lt g hg
      exact ⟨⟨by omega, this.2⟩, by omega⟩
     ·rw [List.length_replicate] at hi
      obtain ⟨q1, q2, -⟩ := HD.out i hi
      have hl := q1.2.1 _ rfl
      rw [show (List.replicate s.1.length ([] : List (List ByteArray))).getD i [] = [] by rw [List.getD_eq_getElem?_getD]; simp [hi]]
      exact ⟨_, q1, fun k hk => ⟨⟨by omega, by omega⟩, by omega⟩⟩
    ·exact B1.out.trans ((B2.out.mono (by omega)).trans (HB.out.mono (by omega)))
end Go.Proofs.YtgoapnkdcfcjgaaGreat
