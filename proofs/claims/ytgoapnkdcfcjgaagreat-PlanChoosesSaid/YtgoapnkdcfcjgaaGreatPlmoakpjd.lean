/- 3 texts of this claim, in build order. -/
import Derived.Test.YtgoapnkdcfcjgaaGreatPcbimcfdc
import Derived.Test.YtgoapnkdcfcjgaaGreatPcmncjimi
import Derived.Test.YtgoapnkdcfcjgaaGreatPgedadcce
import Derived.Test.YtgoapnkdcfcjgaaGreatPplomcpim
import Derived.Test.YtgoapnkdcfcjgaaGreatPldpedafh
import Derived.Test.YtgoapnkdcfcjgaaGreatPangingkh
set_option linter.unusedVariables false
set_option linter.unusedSimpArgs false
namespace Go.Proofs.YtgoapnkdcfcjgaaGreat
open Go.ChangeShapes Go.WideShapes Go.ChangeAt Go.RowKit Go.Deep
def CpyLP (l : LatX) (w : World) (e : Ending) (w' : World) : Prop :=
 ∃ p Y, e = .returned (.pointer (some ⟨p, 0, none⟩)) /\ LatW w' w.heap.size p Y l /\ (∀ g, Y.R g -> w.heap.size <= g) /\ Below w.heap.size w w'
def MadeC (l : LatX) (H : Nat) (w : World) (s3 : Value) (wx : World) : Prop :=
 ∃ p Y, s3 = .pointer (some ⟨p, 0, none⟩) /\ LatW wx H p Y ⟨l.s, [], [], l.n⟩ /\ Y.DS = .slice none 0 0 /\ Y.CS = .slice none 0 0 /\ (∀ g, Y.R g -> H <= g) /\ Below H w wx
def zqa (l : LatX) (H p : Nat) (w : World) (i : Value) (wr : World) : Prop :=
 ∃ (k : Nat) (Y : Lay), k <= l.ds.length /\ i = .int .i64 k /\ LatW wr H p Y ⟨l.s, l.ds.take k, [], l.n⟩ /\ Y.CS = .slice none 0 0 /\ (∀ g, Y.R g -> H <= g) /\ Below H w wr
def zm4 (l : LatX) (H p : Nat) (w : World) (i : Value) (wr : World) : Prop :=
 ∃ (k : Nat) (Y : Lay), k <= l.cs.length /\ i = .int .i64 k /\ LatW wr H p Y ⟨l.s, l.ds, l.cs.take k, l.n⟩ /\ (∀ g, Y.R g -> H <= g) /\ Below H w wr
set_option maxRecDepth 100000 in
set_option maxHeartbeats 3200000 in
theorem zm6 (H p : Nat) (Y : Lay) (l : LatX) (w : World) (h : LatW w H p Y l) (ok : zfi l) (hn : ∀ v, (l.cs.getD v []).length <= 600) : Calls Tryz.prog 45 #[.pointer (some ⟨p, 0, none⟩)] w (CpyLP l w) := by
 obtain ⟨i0, hi, hz0, hz1, hz2⟩ := info_parts znl
 obtain ⟨i1, hi', hz0', hz1', hz2'⟩ := info_parts zmB
 have hm := ok.may
 obtain ⟨⟨hd1, hd3⟩, ⟨hm1, hm2⟩, hdl⟩ := zaz hm
 obtain ⟨hv6, hvl⟩ := zaj hm
 obtain ⟨A1, c1, A2, c2, A3, c3, e, -, -, -⟩ := h.sch.rd h.sin
 have hv := h.sch.rd h.sin
 rw [e] at hv
 injection e with e
 have e1 : Y.S1 = .slice A1 l.s.1.length c1 := by have := congrArg (fun a : Array Value => a[0]?) e; simpa using this
 have e2 : Y.S2 = .slice A2 l.s.2.1.length c2 := by have := congrArg (fun a : Array Value => a[1]?) e; simpa using this
 have e3 : Y.S3 = .slice A3 l.s.2.2.length c3 := by have := congrArg (fun a : Array Value => a[2]?) e; simpa using this
 obtain ⟨K, hK⟩ : ∃ K, K = w.heap.size := ⟨_, rfl⟩
 have hpK : p < K := by rw [hK]; exact h.pl
 have q0 := h.c0; have q1 := h.c1; have q2 := h.c2; have q6 := h.c6
 rw [e1] at q0; rw [e2] at q1; rw [e3] at q2
 have hl3 : l.ds.length <= 3 := by rw [ok.dlen]; exact hd3
 have hc7 : l.cs.length <= 7 := by rw [ok.clen]; unfold zh; rw [List.length_cons]; omega
 have HOWN := hid (fun (W : World) (hb : Below K w W) => zjD _ l.s W (hv.on (by rw [<- hK]; exact hb)) (by omega) (by omega) (fun x hx => by rw [hvl x hx]; omega) (by omega) (fun d hd => by have := hdl d hd; omega))
 have HVW := hid (fun (W : World) (hb : Below K w W) => zfe _ l.s W (hv.on (by rw [<- hK]; exact hb)) (by omega) (by omega) (fun x hx => by rw [hvl x hx]; omega))
 have HCD := hid (fun (W : World) (hb : Below K w W) k (hk : k < l.ds.length) => znf (Y.dD k) (Y.dp k) (dimL l.s k) (l.ds.getD k []) W (((h.dict k hk).below (by rw [<- hK]; exact hb))) (by
  rw [List.getD_eq_getElem?_getD, List.getElem?_eq_getElem hk]
  exact ok.dok _ (List.getElem_mem hk)) (by
  have hk2 : k < l.s.1.length := by rw [<- ok.dlen]; exact hk
  have := hdl _ (List.getElem_mem hk2)
  unfold dimL; rw [List.getD_eq_getElem?_getD, List.getElem?_eq_getElem hk2]; simp; omega) (by
  have hk2 : k < l.s.1.length := by rw [<- ok.dlen]; exact hk
  have := hdl _ (List.getElem_mem hk2)
  unfold dimL; rw [List.getD_eq_getElem?_getD, List.getElem?_eq_getElem hk2]; simp; omega))
 have HCC := hid (fun (W : World) (hb : Below K w W) k (hk : k < l.cs.length) => znJ (Y.cD k) (Y.cq k) (Y.cm k) l.s.1.length l.s.2.1.length (l.cs.getD k []) W (((h.cub k hk).below (by rw [<- hK]; exact hb))) (by
  rw [List.getD_eq_getElem?_getD, List.getElem?_eq_getElem hk]
  exact ok.cok _ (List.getElem_mem hk)) hd1 hd3 hm1 hm2 (hn k))
 have HIN := hid h.sin; have HLA := hid h; have HK := hid hK
 unfold CpyLP
 rw [<- hK]
 clear hv e hdl hvl hm ok hn hK h e1 e2 e3
 go_enter Tryz.func45, Tryz.ntmps45
 go_upto_region 1 with (fail)
 go_cut [3] from 8 to 23 (fun s3 wx => MadeC l K w s3 wx)
 case first =>
  go_wp2
  go_region_law (first
   | (go_simp; go_at_call 41; refine (HOWN.out _ (Below.refl _ _).drew).mono ?_; rintro e w3 ⟨O1, d1, O2, d2, O3, d3, rfl, ho3, hb3⟩; have HO3 := hid ho3; have B3 := hid (show Below K w w3 by rw [HK.out]; exact (Below.refl _ _).drew.trans hb3); have Z3 := hid (show K <= w3.heap.size by rw [HK.out]; exact hb3.size); have k0 := zc B3.out hpK q0; have k1 := zc B3.out hpK q1; have k2 := zc B3.out hpK q2; have k6 := zc B3.out hpK q6; have HV3 := hid (HVW.out w3 B3.out); clear ho3 hb3)
   | (go_simp; go_at_call 18; refine HV3.out.mono ?_; rintro e w4 ⟨rv, rfl, hr4, hb4⟩; obtain ⟨us, -, hr4', -⟩ := id hr4; obtain ⟨Av, cv, rfl⟩ := zu hr4'; have HR4 := hid hr4; have H34 := hid hb4; have B4 := hid (B3.out.trans (hb4.mono Z3.out)); have Z4 := hid (show K <= w4.heap.size from Nat.le_trans Z3.out hb4.size); have k6' := zc B4.out hpK q6; clear hr4 hb4 hr4'))
  all_goals
   have hmade := hid (LatW.made (n := l.n) HO3.out HIN.out H34.out (show K <= w.drew.heap.size by rw [HK.out]; exact Nat.le_refl _) HR4.out Z3.out Z4.out)
   go_wp2
   go_meet
   case rel => exact ⟨w4.heap.size, _, rfl, hmade.out, rfl, rfl, fun g hg => hg.1, B4.out.alloc Z4.out _⟩
 case rest =>
  obtain ⟨p', Y', rfl, hlat, hDS, hCS, hR, hb⟩ := hcut
  obtain ⟨wA, rfl⟩ : ∃ W', W' = wc := ⟨_, rfl⟩
  have HLAT := hid hlat; have HR := hid hR; have HBA := hid hb; have HCS := hid hCS
  obtain ⟨AD, cAD, hDSv⟩ := zu HLA.out.ds
  have c4o := HLA.out.c4
  rw [hDSv] at c4o
  have c4w := zc hb hpK c4o
  have HDSV := hid hDSv
  clear hlat hDS hCS hR hb q0 q1 q2 q6 hDSv
  go_wp2
  go_loopw [29] (fun i wr => zqa l K p' w i wr) (fun i _ => l.ds.length - (intOf i).toNat)
  case atStart => exact ⟨0, Y', by omega, rfl, HLAT.out, HCS.out, HR.out, HBA.out⟩
  case round =>
   obtain ⟨k, Y1, hk, rfl, hlat, hCS, hR, hb⟩ := hrel
   have HB := hid hb; have HR1 := hid hR
   have hs1 : K <= wr.heap.size := by have := hb.size; rw [<- HK.out] at this; exact this
   by_cases hlt : k < l.ds.length
   ·obtain ⟨gD, cD, hDS2, -, -, -, hgD, hcell, -⟩ := HLA.out.dsAt hlt
    rw [HDSV.out] at hDS2
    injection hDS2 with e1 _ e3
    subst e1; subst e3
    have qk := zc hb (by rw [HK.out]; exact hgD) hcell
    have E1 := hid (show l.ds.take (k + 1) = l.ds.take k ++ [l.ds.getD k []] by rw [List.take_succ_eq_append_getElem hlt, List.getD_eq_getElem?_getD, List.getElem?_eq_getElem hlt]; rfl)
    have hds : (l.ds.take k).length = k := by rw [List.length_take]; omega
    have HCP := hid (fun W (hW : Below K w W) => HCD.out W hW k hlt)
    generalize l.ds.take k = ds0 at *
    generalize l.ds.getD k [] = ns at *
    obtain ⟨R, S1, S2, S3, V, DS, CS, dp, dD, cq, cm, cDD⟩ := Y1
    simp only at hCS
    subst hCS
    have u2 : wr.ownsRow K 88 1 DS ds0.length (ptrs dp ds0.length) := hlat.ds
    rw [hds] at u2
    obtain ⟨AD2, cD2, rfl⟩ := zu u2
    have c4 := hlat.c4; have f4 := hlat.fz 4 (by omega); have hpl := hlat.pl
    simp only at c4
    have HL := hid hlat; have HDS := hid hds
    clear hlat hb hds hR hcell c4w
    go_upto_region 5 with (fail)
    go_region_law (first
     | (refine step_append_lies _ (by rfl) (.tmp 37) (.tmp 40) 75 (by rfl) K 88 i0 (.pointer none) 1 8 Tryz.underlying75 hi hz0 hz1 hz2 rfl (by omega) _ k (ptrs dp k) (by rfl) ((zx u2 B5.out).alloc _) ⟨w5.heap.size, 0, none⟩ 1 1 _ (by rfl) rfl (zG _ _ _ rfl) (by simp; rfl) (by omega) (by unfold maxLen; omega) (by omega) (by simp; omega) (w5.heap.size + 1) (by simp) ?_; intro g cap w6 ho6 hg6 hat6 hlt6; have m3 := (World.grownBy.cell_far hg6 ⟨p', 4, none⟩ (by simp; omega) (fun e => hpd e.symm)).trans (zv (by omega) k4); have m5 := (World.grownBy.frozen_far hg6 ⟨p', 4, none⟩ (by simp; omega) (fun e => hpd e.symm)).trans (zal (by omega) k5))
     | (go_simp; go_at_call 66; refine (HCP.out _ HB.out.drew).mono ?_; rintro e w5 ⟨d, D, rfl, hd5, hD5, hb5⟩; have HD5 := hid hd5; have HDN := hid hD5; have B5 := hid ((Below.refl wr.heap.size wr).drew.trans hb5); have z5 := B5.out.size; have k4 := zc B5.out hpl c4; have k5 := zy B5.out hpl f4; have hpd := fun e => (HL.out.dsA p' e).1 rfl; have k6 := zv (o := .cells #[.pointer (some ⟨d, 0, none⟩)] 88) (show p' < w5.heap.size by omega) k4; clear hd5 hD5 hb5))
    all_goals
     have z6 := ((Below.refl K (w5.alloc (.cells #[.pointer (some ⟨d, 0, none⟩)] 88))).grown hg6 (by simp; omega) (fun j hj => (u2.lt j hj).1)).size
     rw [World.size_alloc] at z6
     have hnew : LatW (w6.setCell ⟨p', 4, none⟩ (.slice (some ⟨g, 0, none⟩) (k + 1) cap)) K p' ⟨R, S1, S2, S3, V, .slice (some ⟨g, 0, none⟩) (k + 1) cap, .slice none 0 0, fun j => if j = ds0.length then d else dp j, fun j => if j = ds0.length then D else dD j, cq, cm, cDD⟩ ⟨l.s, ds0 ++ [ns], [], l.n⟩ :=
      LatW.dictAdd (o := .cells #[.pointer (some ⟨d, 0, none⟩)] 88) (H4 := w5.heap.size + 1) HL.out B5.out (by rw [HDS.out]; exact HD5.out) HDN.out (by rw [HDS.out]; exact ho6) hg6 (by omega) (hat6.elim (fun h => .inl h.symm) (fun h => .inr (congrArg some h))) (by omega) ⟨_, m3⟩
     have hbn : Below K w (w6.setCell ⟨p', 4, none⟩ (.slice (some ⟨g, 0, none⟩) (k + 1) cap)) :=
      ((HB.out.trans ((B5.out.mono hs1).trans (((Below.refl K w5).alloc (by omega) (.cells #[.pointer (some ⟨d, 0, none⟩)] 88)).trans ((Below.refl K _).grown hg6 (by simp; omega) (fun j hj => (u2.lt j hj).1))))).setCell (show K <= p' from HL.out.hp) _)
     have HNX := hid (show zqa l K p' w (.int .i64 ((k : Int) + 1)) (w6.setCell ⟨p', 4, none⟩ (.slice (some ⟨g, 0, none⟩) (k + 1) cap)) from ⟨k + 1, ⟨R, S1, S2, S3, V, .slice (some ⟨g, 0, none⟩) (k + 1) cap, .slice none 0 0, fun j => if j = ds0.length then d else dp j, fun j => if j = ds0.length then D else dD j, cq, cm, cDD⟩, by omega, by go_num, by rw [E1.out]; exact hnew, rfl, HR1.out, hbn⟩)
     clear ho6 hg6 hat6 hlt6 hnew hbn u2 m3 m5 k4 k5 k6 c4 f4
     go_wp2
     go_roundw
     case rel => exact HNX.out
     case measure => simp [intOf]; omega
   ·obtain rfl : k = l.ds.length := by omega
    rw [List.take_length] at hlat
    have HL0 := hid (show zm4 l K p' w (.int .i64 0) wr from ⟨0, Y1, by omega, rfl, hlat, HR1.out, HB.out⟩)
    obtain ⟨AC, cAC, hCSv⟩ := zu HLA.out.cs
    have c5o := HLA.out.c5
    rw [hCSv] at c5o
    have c5w := zc hb hpK c5o
    have HCSV := hid hCSv
    obtain ⟨W5, hW5⟩ : ∃ W, W = wr := ⟨_, rfl⟩
    rw [<- hW5] at HL0 c5w ⊢
    clear hW5 HB hlat hb hR hCSv c4w hs1
    go_wp2
    go_loopw [50] (fun i wr => zm4 l K p' w i wr) (fun i _ => l.cs.length - (intOf i).toNat)
    case atStart => exact HL0.out
    case round =>
     obtain ⟨k, Y2, hk, rfl, hlat, hR, hb⟩ := hrel
     have HB := hid hb; have HR2 := hid hR
     have hs1 : K <= wr.heap.size := by have := hb.size; rw [<- HK.out] at this; exact this
     by_cases hlt : k < l.cs.length
     ·obtain ⟨gD, cD, hDS2, -, -, -, hgD, hcell, -⟩ := HLA.out.csAt hlt
      rw [HCSV.out] at hDS2
      injection hDS2 with e1 _ e3
      subst e1; subst e3
      have qk := zc hb (by rw [HK.out]; exact hgD) hcell
      have E1 := hid (show l.cs.take (k + 1) = l.cs.take k ++ [l.cs.getD k []] by rw [List.take_succ_eq_append_getElem hlt, List.getD_eq_getElem?_getD, List.getElem?_eq_getElem hlt]; rfl)
      have hds : (l.cs.take k).length = k := by rw [List.length_take]; omega
      have HCP := hid (fun W (hW : Below K w W) => HCC.out W hW k hlt)
      generalize l.cs.take k = cs0 at *
      generalize l.cs.getD k [] = L at *
      obtain ⟨R, S1, S2, S3, V, DS, CS, dp, dD, cq, cm, cDD⟩ := Y2
      have u2 : wr.ownsRow K 79 1 CS cs0.length (ptrs cq cs0.length) := hlat.cs
      rw [hds] at u2
      obtain ⟨AD2, cD2, rfl⟩ := zu u2
      have c5 := hlat.c5; have f5 := hlat.fz 5 (by omega); have hpl := hlat.pl
      simp only at c5
      have HL := hid hlat; have HDS := hid hds
      clear hlat hb hds hR hcell c5w
      go_upto_region 10 with (fail)
      go_region_law (first
       | (refine step_append_lies _ (by rfl) (.tmp 58) (.tmp 61) 76 (by rfl) K 79 i1 (.pointer none) 1 8 Tryz.underlying76 hi' hz0' hz1' hz2' rfl (by omega) _ k (ptrs cq k) (by rfl) ((zx u2 B5.out).alloc _) ⟨w5.heap.size, 0, none⟩ 1 1 _ (by rfl) rfl (zG _ _ _ rfl) (by simp; rfl) (by omega) (by unfold maxLen; omega) (by omega) (by simp; omega) (w5.heap.size + 1) (by simp) ?_; intro g cap w6 ho6 hg6 hat6 hlt6; have m3 := (World.grownBy.cell_far hg6 ⟨p', 5, none⟩ (by simp; omega) (fun e => hpd e.symm)).trans (zv (by omega) k4); have m5 := (World.grownBy.frozen_far hg6 ⟨p', 5, none⟩ (by simp; omega) (fun e => hpd e.symm)).trans (zal (by omega) k5))
       | (go_simp; go_at_call 67; refine (HCP.out _ HB.out.drew).mono ?_; rintro e w5 ⟨d, m, D, rfl, hd5, hD5, hb5⟩; have HD5 := hid hd5; have HDN := hid hD5; have B5 := hid ((Below.refl wr.heap.size wr).drew.trans hb5); have z5 := B5.out.size; have k4 := zc B5.out hpl c5; have k5 := zy B5.out hpl f5; have hpd := fun e => (HL.out.csA p' e).1 rfl; have k6 := zv (o := .cells #[.pointer (some ⟨d, 0, none⟩)] 79) (show p' < w5.heap.size by omega) k4; clear hd5 hD5 hb5))
      all_goals
       have z6 := ((Below.refl K (w5.alloc (.cells #[.pointer (some ⟨d, 0, none⟩)] 79))).grown hg6 (by simp; omega) (fun j hj => (u2.lt j hj).1)).size
       rw [World.size_alloc] at z6
       have hnew : LatW (w6.setCell ⟨p', 5, none⟩ (.slice (some ⟨g, 0, none⟩) (k + 1) cap)) K p' ⟨fun g => R g \/ D g, S1, S2, S3, V, DS, .slice (some ⟨g, 0, none⟩) (k + 1) cap, dp, dD, fun j => if j = cs0.length then d else cq j, fun j => if j = cs0.length then m else cm j, fun j => if j = cs0.length then D else cDD j⟩ ⟨l.s, l.ds, cs0 ++ [L], l.n⟩ :=
        LatW.cubAdd (o := .cells #[.pointer (some ⟨d, 0, none⟩)] 79) (H4 := w5.heap.size + 1) HL.out B5.out HD5.out HDN.out (by rw [HDS.out]; exact ho6) hg6 (by omega) (hat6.elim (fun h => .inl h.symm) (fun h => .inr (congrArg some h))) (by omega) ⟨_, m3⟩
       have hbn : Below K w (w6.setCell ⟨p', 5, none⟩ (.slice (some ⟨g, 0, none⟩) (k + 1) cap)) :=
        ((HB.out.trans ((B5.out.mono hs1).trans (((Below.refl K w5).alloc (by omega) (.cells #[.pointer (some ⟨d, 0, none⟩)] 79)).trans ((Below.refl K _).grown hg6 (by simp; omega) (fun j hj => (u2.lt j hj).1))))).setCell (show K <= p' from HL.out.hp) _)
       have HNX := hid (show zm4 l K p' w (.int .i64 ((k : Int) + 1)) (w6.setCell ⟨p', 5, none⟩ (.slice (some ⟨g, 0, none⟩) (k + 1) cap)) from ⟨k + 1, ⟨fun g => R g \/ D g, S1, S2, S3, V, DS, .slice (some ⟨g, 0, none⟩) (k + 1) cap, dp, dD, fun j => if j = cs0.length then d else cq j, fun j => if j = cs0.length then m else cm j, fun j => if j = cs0.length then D else cDD j⟩, by omega, by go_num, by rw [E1.out]; exact hnew, fun g hg => hg.elim (HR2.out g) (fun h => Nat.le_trans hs1 (HDN.out g h)), hbn⟩)
       clear ho6 hg6 hat6 hlt6 hnew hbn u2 m3 m5 k4 k5 k6 c5 f5
       go_wp2
       go_roundw
       case rel => exact HNX.out
       case measure => simp [intOf]; omega
     ·obtain rfl : k = l.cs.length := by omega
      rw [List.take_length] at hlat
      have HL := hid hlat
      clear hlat hb hR c5w
      go_wp2
      go_ret
      exact ⟨p', Y2, rfl, HL.out, HR2.out, HB.out⟩
end Go.Proofs.YtgoapnkdcfcjgaaGreat
namespace Go.Proofs.YtgoapnkdcfcjgaaGreat
open Go.ChangeShapes Go.WideShapes Go.ChangeAt Go.RowKit
theorem zma (n : Int) (w : World) : Calls Tryz.prog 124 #[.int .i64 n] w (za5 (.bool (valB n)) w) := by
 unfold valB
 by_cases h : -2305843009213693952 <= n
 ·have d1 : decide (-2305843009213693952 <= n) = true := decide_eq_true h
  rw [d1, Bool.true_and]
  go_enter Tryz.func124, Tryz.ntmps124
  go_wp2
  go_ret
  exact ⟨rfl, Qu.refl _⟩
 ·have d1 : decide (-2305843009213693952 <= n) = false := decide_eq_false h
  rw [d1, Bool.false_and]
  go_enter Tryz.func124, Tryz.ntmps124
  go_wp2
  go_ret
  exact ⟨rfl, Qu.refl _⟩
theorem zmf (n : Int) (w : World) : Calls Tryz.prog 123 #[.int .i64 n] w (zY (.bool (!valB n)) w) := by
 have HI := hid (zma n)
 go_enter Tryz.func123, Tryz.ntmps123
 go_wp2_with fail
 refine (HI.out _).mono ?_
 rintro e w1 ⟨rfl, hq⟩
 go_wp2
 go_ret
 exact ⟨rfl, hq.below _⟩
theorem zgU : zbg 123 := za8 Tryz.func123 (by kernel_rfl) rfl
theorem zkZ (v : Value) (l : List Int) (w : World) (hv : zC w w.heap.size [v] l) :
  Calls Tryz.prog 80 #[v, .func (Fn.func 123) #[] #[]] w (zY (.bool (l.any fun n => !valB n)) w) :=
 zgM 123 #[] (fun n => !valB n) v l w hv zm zgU (fun x u W hx hr hb => by
  obtain ⟨e, hs⟩ := hr
  simp only [List.cons.injEq, and_true] at e
  subst e
  exact zmf x W)
theorem zjz (v : Value) (p : List ByteArray) (w : World) (hv : zO w w.heap.size [v] p) : Calls Tryz.prog 122 #[v] w (zY (.bool (!mayB p)) w) := by
 have HI := hid (zeL v p w (zbP hv).1 (zbP hv).2 (zj7 hv))
 clear hv
 go_enter Tryz.func122, Tryz.ntmps122
 go_wp2_with fail
 refine HI.out.mono ?_
 rintro e w1 ⟨rfl, hb⟩
 go_wp2
 go_ret
 exact ⟨rfl, hb⟩
theorem zfX : zbg 122 := za8 Tryz.func122 (by kernel_rfl) rfl
theorem zjG (v : Value) (l : List (List ByteArray)) (w : World) (hv : zj 1 zO w w.heap.size [v] l) :
  Calls Tryz.prog 54 #[v, .func (Fn.func 122) #[] #[]] w (zY (.bool (l.any fun p => !mayB p)) w) :=
 zhe 122 #[] (fun p => !mayB p) v l w hv zB zfX (fun x u W hx hr hb => zjz u x W hr)
set_option maxRecDepth 100000 in
set_option maxHeartbeats 1600000 in
theorem zjx (v : Value) (f : zq) (w : World) (hv : zdu w w.heap.size v f) :
  Calls Tryz.prog 93 #[v] w (zY (.bool (zbl f)) w) := by
 obtain ⟨A1, c1, A2, c2, rfl, h1, h2⟩ := hv
 obtain ⟨hc1, hm1⟩ := h1.cap
 obtain ⟨hc2, hm2⟩ := h2.cap
 obtain ⟨W0, hW0⟩ : ∃ W, W = w.alloc (.cells #[.slice A1 f.1.length c1, .slice A2 f.2.length c2] 60) := ⟨_, rfl⟩
 have g0 : Below w.heap.size w W0 := by rw [hW0]; exact bl1 _ _
 have z0 : W0.heap.size = w.heap.size + 1 := by rw [hW0]; simp
 have y0 : W0.cell? ⟨w.heap.size, 0, none⟩ = some (.slice A1 f.1.length c1) := by rw [hW0]; simp [go_sem]
 have y1 : W0.cell? ⟨w.heap.size, 1, none⟩ = some (.slice A2 f.2.length c2) := by rw [hW0]; simp [go_sem]
 have HW0 := hid hW0
 have G0 := hid g0; have Y0 := hid y0; have Y1 := hid y1
 have HB1 := hid (zjG _ f.1 W0 (zB.on h1 g0))
 have HV := hid (fun W (hb : Below W0.heap.size W0 W) => zkZ _ f.2 W (zm.on (zm.on h2 g0) hb))
 have hpl : zbl f = ((!(f.1.any fun p => !mayB p) && !(f.2.any fun n => !valB n)) && decide (f.1.length <= 3) && decide (f.2.length <= 2)) := rfl
 generalize zbl f = res at *
 generalize (f.1.any fun p => !mayB p) = a at *
 generalize (f.2.any fun n => !valB n) = b at *
 generalize hn1 : f.1.length = n1 at *
 generalize hn2 : f.2.length = n2 at *
 have HPL := hid hpl
 clear hW0 g0 h1 h2 hpl
 go_enter Tryz.func93, Tryz.ntmps93
 go_wp2_with fail
 rw [<- HW0.out]
 refine HB1.out.mono ?_
 rintro e w1 ⟨rfl, hb1⟩
 have y1 := zc hb1 (by omega) Y1.out
 have HB2 := hid hb1
 clear hb1
 go_wp2_with fail
 refine (HV.out _ HB2.out).mono ?_
 rintro e w2 ⟨rfl, hb2⟩
 have HB3 := hid (HB2.out.trans (hb2.mono HB2.out.size))
 have y0 := zc HB3.out (by omega) Y0.out
 have y1 := zc HB3.out (by omega) Y1.out
 clear hb2
 have hw : (a = true) \/ (a = false /\ b = true) \/ (a = false /\ b = false) := by cases a <;> cases b <;> simp
 rcases hw with rfl | ⟨rfl, rfl⟩ | ⟨rfl, rfl⟩
 ·have HN := hid (show res = false by rw [HPL.out]; rfl)
  go_wp2
  go_ret
  exact ⟨by rw [HN.out]; rfl, G0.out.trans (HB3.out.mono (by omega))⟩
 ·have HN := hid (show res = false by rw [HPL.out]; rfl)
  go_wp2
  go_ret
  exact ⟨by rw [HN.out]; rfl, G0.out.trans (HB3.out.mono (by omega))⟩
 ·by_cases l1 : n1 <= 3
  ·have t1 : decide ((n1 : Int) <= 3) = true := by rw [decide_eq_true_eq]; omega
   have t1' : decide (n1 <= 3) = true := decide_eq_true l1
   have HN := hid (show res = decide (n2 <= 2) by rw [HPL.out, t1']; rfl)
   by_cases l2 : n2 <= 2
   ·have t2 : decide ((n2 : Int) <= 2) = true := by rw [decide_eq_true_eq]; omega
    have t2' : decide (n2 <= 2) = true := decide_eq_true l2
    rw [t2'] at HN
    clear l1 l2
    go_wp2
    go_ret
    exact ⟨by rw [HN.out]; rfl, G0.out.trans (HB3.out.mono (by omega))⟩
   ·have t2 : decide ((n2 : Int) <= 2) = false := by rw [decide_eq_false_iff_not]; omega
    have t2' : decide (n2 <= 2) = false := decide_eq_false l2
    rw [t2'] at HN
    clear l1 l2
    go_wp2
    go_ret
    exact ⟨by rw [HN.out]; rfl, G0.out.trans (HB3.out.mono (by omega))⟩
  ·have t1 : decide ((n1 : Int) <= 3) = false := by rw [decide_eq_false_iff_not]; omega
   have t1' : decide (n1 <= 3) = false := decide_eq_false l1
   have HN := hid (show res = false by rw [HPL.out, t1']; rfl)
   clear l1
   go_wp2
   go_ret
   exact ⟨by rw [HN.out]; rfl, G0.out.trans (HB3.out.mono (by omega))⟩
def zp5 (F : FuncId) (caps : Array Value) (p : zq -> Bool) (l : List zq) (w : World) : Prop :=
 ∀ x u W, x ∈ l -> zdu W W.heap.size u x -> Below w.heap.size w W -> Calls Tryz.prog F (#[u] ++ caps) W (zY (.bool (p x)) W)
set_option maxRecDepth 100000 in
set_option maxHeartbeats 800000 in
theorem zpk (F : FuncId) (caps : Array Value) (p : zq -> Bool) (v : Value) (l : List zq) (w : World) (hv : zj 2 za7 w w.heap.size [v] l) (hE : zbg F) (hF : zp5 F caps p l w) :
  Calls Tryz.prog 92 #[v, .func (Fn.func F) #[] caps] w (IdxG p l w) := by
 obtain ⟨A, c, e0, hc1, hc2⟩ := hv.open_
 obtain rfl : v = .slice A l.length c := by simpa using e0
 have HV := hid hv; have HF := hid hF
 clear hv hF e0
 go_enter Tryz.func92, Tryz.ntmps92
 go_wp2
 go_loopw [8] (fun i wr => ze9 p l w i wr) (fun i _ => l.length - (intOf i).toNat)
 case atStart => exact ⟨0, by omega, rfl, by simp, Below.refl _ _⟩
 case round =>
  obtain ⟨k, hk, rfl, hall, hb⟩ := hrel
  have HALL := hid hall; have HB := hid hb
  have hs := hb.size
  clear hall hb
  by_cases hlt : k < l.length
  ·obtain ⟨b, off, AP, cP, AV, cV, rfl, hbl, q0, q1, r0, r1⟩ := zbD (zab.stays HV.out HB.out) hlt
   have hin : l[k] ∈ l := List.getElem_mem hlt
   have e1 := zbm (p := p) hlt
   have e2 := zcF (p := p) hlt
   have hfv : zdu wr wr.heap.size (.agg #[.slice AP l[k].1.length cP, .slice AV l[k].2.length cV]) l[k] := ⟨AP, cP, AV, cV, rfl, zB.more r0 hs, zm.more r1 hs⟩
   have HC := hid (HF.out l[k] _ wr hin hfv HB.out)
   generalize l[k] = x at *
   have E1 := hid e1; have E2 := hid e2
   clear e1 e2 r0 r1 hin hfv
   go_wp2_with fail
   rw [hE]
   refine HC.out.mono ?_
   rintro e w1 ⟨rfl, hb1⟩
   have HB1 := hid (HB.out.trans (hb1.mono hs)); clear hb1
   cases hp : p x with
   | false =>
     have HP := hid hp; clear hp
     go_wp2
     go_roundw
     case rel => exact ⟨k + 1, by omega, by go_num, by rw [E1.out, HALL.out, HP.out]; rfl, HB1.out⟩
     case measure => simp [intOf]; omega
   | true =>
     have HP := hid (E2.out hp); clear hp
     go_wp2
     go_ret
     exact ⟨(k : Int), rfl, by rw [HP.out]; simp, HB1.out⟩
  ·have hall : l.any p = false := by
    have := HALL.out
    rwa [List.take_of_length_le (by omega)] at this
   have HP := hid hall; clear hall
   go_wp2
   go_ret
   exact ⟨-1, rfl, by rw [HP.out]; decide, HB.out⟩
theorem zoX (F : FuncId) (caps : Array Value) (p : zq -> Bool) (v : Value) (l : List zq) (w : World) (hv : zj 2 za7 w w.heap.size [v] l) (hE : zbg F) (hF : zp5 F caps p l w) :
  Calls Tryz.prog 63 #[v, .func (Fn.func F) #[] caps] w (zY (.bool (l.any p)) w) := by
 have HI := hid (zpk F caps p v l w hv hE hF)
 clear hv hF
 go_enter Tryz.func63, Tryz.ntmps63
 go_wp2_with fail
 refine HI.out.mono ?_
 rintro e w1 ⟨i, rfl, hi, hb⟩
 go_wp2
 go_ret
 exact ⟨by rw [<- hi]; rfl, hb⟩
end Go.Proofs.YtgoapnkdcfcjgaaGreat
