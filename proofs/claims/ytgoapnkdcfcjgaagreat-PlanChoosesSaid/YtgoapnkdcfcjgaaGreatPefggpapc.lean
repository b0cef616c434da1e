/- 3 texts of this claim, in build order. -/
import Derived.Test.YtgoapnkdcfcjgaaGreatPgedadcce
import Derived.Test.YtgoapnkdcfcjgaaGreatPmnamfpem
import Derived.Test.YtgoapnkdcfcjgaaGreatPeaeeijbd
import Derived.Test.YtgoapnkdcfcjgaaGreatPangingkh
import Derived.Test.YtgoapnkdcfcjgaaGreatPplomcpim
import Derived.Test.YtgoapnkdcfcjgaaGreatPflgpgfja
import Derived.Test.YtgoapnkdcfcjgaaGreatPbdfgmcpj
import Derived.Test.YtgoapnkdcfcjgaaGreatPgdmeddkk
import Derived.Sort.Grow
import Derived.Sort.Statements
import Derived.Shelf.SlSortCmp.Insertion
set_option linter.unusedVariables false
set_option linter.unusedSimpArgs false
namespace Go.Proofs.YtgoapnkdcfcjgaaGreat
open Go.ChangeShapes Go.WideShapes Go.ChangeAt Go.RowKit Go.Deep
theorem znl : (Tryz.prog.info? 88).map (fun i => (i.zero, i.size, i.bytes)) = some (some (.pointer none), 1, 8) := by kernel_rfl
theorem zmB : (Tryz.prog.info? 79).map (fun i => (i.zero, i.size, i.bytes)) = some (some (.pointer none), 1, 8) := by kernel_rfl
def NewLP (s : ze) (w : World) (e : Ending) (w' : World) : Prop :=
 ∃ p Y, e = .returned (.tuple #[.pointer (some ⟨p, 0, none⟩), .int .i64 0]) /\ LatW w' w.heap.size p Y (lat0 s) /\ (∀ g, Y.R g -> w.heap.size <= g) /\ Below w.heap.size w w'
def nils {α β : Type} (l : List α) (k : Nat) : List (List β) := (l.take k).map fun _ => []
theorem zkM {α β : Type} (l : List α) (k : Nat) (h : k <= l.length) : (nils (β := β) l k).length = k := by unfold nils; rw [List.length_map, List.length_take]; omega
theorem zh0 {α β : Type} (l : List α) (k : Nat) (h : k < l.length) : nils (β := β) l (k + 1) = nils l k ++ [[]] := by unfold nils; rw [List.take_succ_eq_append_getElem h, List.map_append]; rfl
theorem zkO {α β : Type} (l : List α) : nils (β := β) l l.length = l.map fun _ => [] := by unfold nils; rw [List.take_length]
def MadeL (s : ze) (H : Nat) (w : World) (s4 : Value) (wx : World) : Prop :=
 ∃ p Y, s4 = .pointer (some ⟨p, 0, none⟩) /\ LatW wx H p Y ⟨s, [], [], 0⟩ /\ Y.DS = .slice none 0 0 /\ Y.CS = .slice none 0 0 /\ (∀ g, Y.R g -> H <= g) /\ Below H w wx /\ ∃ AV cV, Y.V = .slice AV (zh s).length cV
def NlRel (s : ze) (H p : Nat) (w : World) (i : Value) (wr : World) : Prop :=
 ∃ (k : Nat) (Y : Lay), k <= s.1.length /\ i = .int .i64 k /\ LatW wr H p Y ⟨s, nils s.1 k, [], 0⟩ /\ Y.CS = .slice none 0 0 /\ (∀ g, Y.R g -> H <= g) /\ Below H w wr /\ ∃ AV cV, Y.V = .slice AV (zh s).length cV
def zqt (s : ze) (H p : Nat) (w : World) (i : Value) (wr : World) : Prop :=
 ∃ (k : Nat) (Y : Lay), k <= (zh s).length /\ i = .int .i64 k /\ LatW wr H p Y ⟨s, s.1.map (fun _ => []), nils (zh s) k, 0⟩ /\ (∀ g, Y.R g -> H <= g) /\ Below H w wr
theorem LatW.less {w : World} {H H' p : Nat} {Y : Lay} {l : LatX} (h : LatW w H p Y l) (hh : H' <= H) : LatW w H' p Y l :=
 { h with hp := Nat.le_trans hh h.hp, ds := zw h.ds hh, cs := zw h.cs hh, dA := fun i hi g hg => ⟨Nat.le_trans hh (h.dA i hi g hg).1, (h.dA i hi g hg).2⟩ }
theorem zfH {l : List ByteArray} {m : Nat} (h : zax l m = true) : 1 <= l.length /\ l.length <= m := by
 unfold zax at h
 rw [Bool.and_eq_true, Bool.and_eq_true, Bool.and_eq_true] at h
 exact ⟨of_decide_eq_true h.1.1.1, of_decide_eq_true h.1.1.2⟩
theorem zaz {s : ze} (h : mayS s = true) : (1 <= s.1.length /\ s.1.length <= 3) /\ (1 <= s.2.1.length /\ s.2.1.length <= 2) /\ ∀ d ∈ s.1, 1 <= d.2.length /\ d.2.length <= 3 := by
 unfold mayS at h
 rw [Bool.and_eq_true, Bool.and_eq_true, Bool.and_eq_true, Bool.and_eq_true] at h
 obtain ⟨⟨h1, ⟨h2, h3⟩, -⟩, -⟩ := h
 have a := zfH h2
 rw [List.length_map] at a
 exact ⟨a, zfH h3, fun d hd => zfH (List.all_eq_true.1 h1 d hd)⟩
theorem LatW.made {w4 : World} {H a b : Nat} {n : Int} {S1 S2 S3 V : Value} {s : ze} {w3 : World} (hs : SchO w3 a S1 S2 S3 s) (hin : zoi s) (hb3 : Below w3.heap.size w3 w4) (ha : H <= a) (hr : RowI w4 b V (zh s)) (hbb : H <= b) (hw4 : H <= w4.heap.size) :
  LatW (w4.alloc (.cells #[S1, S2, S3, V, .slice none 0 0, .slice none 0 0, .int .i64 n] 78)) H w4.heap.size ⟨fun g => H <= g /\ g < w4.heap.size, S1, S2, S3, V, .slice none 0 0, .slice none 0 0, fun _ => 0, fun _ _ => False, fun _ => 0, fun _ => 0, fun _ _ => False⟩ ⟨s, [], [], n⟩ := by
 have hbl : Below w4.heap.size w4 (w4.alloc (.cells #[S1, S2, S3, V, .slice none 0 0, .slice none 0 0, .int .i64 n] 78)) := bl1 _ _
 refine ⟨hw4, by simp, fun i hi => by simp [go_sem], by simp [go_sem], by simp [go_sem], by simp [go_sem], by simp [go_sem], by simp [go_sem], by simp [go_sem], by simp [go_sem], ?_, hin, ?_, World.ownsRow_nil _ _ _ _, World.ownsRow_nil _ _ _ _, fun i hi => absurd hi (by simp), fun i hi => absurd hi (by simp), ?_, ?_, ?_, fun i hi => absurd hi (by simp), ?_, fun i hi => absurd hi (by simp), fun i j hi => absurd hi (by simp)⟩
 ·exact ⟨w3, a, hs, fun g g1 g2 => ⟨⟨by omega, Nat.lt_of_lt_of_le g2 hb3.size⟩, (hbl.block g (Nat.lt_of_lt_of_le g2 hb3.size)).trans (hb3.block g g2)⟩⟩
 ·exact ⟨w4, b, hr, fun g g1 g2 => ⟨⟨by omega, g2⟩, hbl.block g g2⟩⟩
 ·exact fun g hg => ⟨by simp; omega, by omega, by simp [Value.ownBlock], fun i hi => absurd hi (by simp)⟩
 ·exact fun g hg => by simp [Value.ownBlock]
 ·exact fun g hg => by simp [Value.ownBlock] at hg
 ·exact fun g hg => by simp [Value.ownBlock] at hg
set_option maxRecDepth 100000 in
set_option maxHeartbeats 3200000 in
theorem zkF (v : Value) (s : ze) (w : World) (hv : zD w w.heap.size v s) (hm : mayS s = true) : Calls Tryz.prog 24 #[v] w (NewLP s w) := by
 obtain ⟨i0, hi, hz0, hz1, hz2⟩ := info_parts znl
 obtain ⟨i1, hi', hz0', hz1', hz2'⟩ := info_parts zmB
 obtain ⟨⟨hd1, hd3⟩, ⟨hm1, hm2⟩, hdl⟩ := zaz hm
 obtain ⟨hv6, hvl⟩ := zaj hm
 have hin := hv.in_
 have hv0 := hv
 obtain ⟨A1, c1, A2, c2, A3, c3, rfl, h1, h2', h3⟩ := hv
 obtain ⟨W1, hW1⟩ : ∃ W, W = w.alloc (.cells #[.slice A1 s.1.length c1, .slice A2 s.2.1.length c2, .slice A3 s.2.2.length c3] 26) := ⟨_, rfl⟩
 obtain ⟨H, hH⟩ : ∃ H, H = w.heap.size := ⟨_, rfl⟩
 have g1 : Below H w W1 := by rw [hW1, hH]; exact bl1 _ _
 have z1 : W1.heap.size = H + 1 := by rw [hW1, hH]; simp
 have q0 : W1.cell? ⟨H, 0, none⟩ = some (.slice A1 s.1.length c1) := by rw [hW1, hH]; simp [go_sem]
 have q1 : W1.cell? ⟨H, 1, none⟩ = some (.slice A2 s.2.1.length c2) := by rw [hW1, hH]; simp [go_sem]
 have q2 : W1.cell? ⟨H, 2, none⟩ = some (.slice A3 s.2.2.length c3) := by rw [hW1, hH]; simp [go_sem]
 obtain ⟨K, hK⟩ : ∃ K, K = W1.heap.size := ⟨_, rfl⟩
 have hHK : H < K := by omega
 rw [<- hH] at h1 h2' h3 hv0
 obtain ⟨hc1, hcm1⟩ := h1.cap
 obtain ⟨hc2, hcm2⟩ := h2'.cap
 have hv1 : zD W1 K _ s := (hv0.below g1).more (Nat.le_of_lt hHK)
 have hd1' : zj 2 zee W1 K [.slice A1 s.1.length c1] s.1 := zam.more (zam.stays h1 g1) (Nat.le_of_lt hHK)
 have hmay := zbF _ s W1 (by rw [<- hK]; exact hv1) (by omega)
 rw [hm] at hmay
 have HMAY := hid hmay
 have HOWN := hid (fun (W : World) (hb : Below K W1 W) (hz : K <= W.heap.size) => zjD _ s W ((hv1.below hb).more hz) (by omega) (by omega) (fun x hx => by rw [hvl x hx]; omega) (by omega) (fun d hd => by have := hdl d hd; omega))
 have HVW := hid (fun (W : World) (hb : Below K W1 W) (hz : K <= W.heap.size) => zfe _ s W ((hv1.below hb).more hz) (by omega) (by omega) (fun x hx => by rw [hvl x hx]; omega))
 have HD := hid hd1'; have HDL := hid hdl; have HIN := hid hin
 have HVN := hid (show (zh s).length <= 7 by unfold zh; rw [List.length_cons]; omega)
 have HW1 := hid hW1; have G1 := hid g1; have HH := hid hH; have HK := hid hK
 have Q0 := hid q0; have Q1 := hid q1
 unfold NewLP
 rw [<- hH]
 clear h1 h2' h3 hv0 hW1 g1 hH z1 hmay hdl hin hvl hm hv1 hd1' hK
 go_enter Tryz.func24, Tryz.ntmps24
 go_upto_region 1 with (fail)
 rw [<- HW1.out, <- HH.out]
 go_wp2_with fail
 (with_reducible refine HMAY.out.mono ?_)
 rintro e w2 ⟨rfl, hb2⟩
 rw [<- HK.out] at hb2
 have q0 := zc hb2 hHK q0; have q1 := zc hb2 hHK q1; have q2 := zc hb2 hHK q2
 have B2 := hid hb2
 have Z2 := hid (show K <= w2.heap.size by have := hb2.size; have h := HK.out; rw [<- h] at this; exact this)
 clear hb2
 go_upto_region 3 with (fail)
 go_cut [4] from 10 to 15 (fun s4 wx => MadeL s K W1 s4 wx)
 case first =>
  go_wp2
  go_region_law (first
   | (go_simp; go_at_call 41; refine (HOWN.out _ B2.out.drew Z2.out).mono ?_; rintro e w3 ⟨O1, d1, O2, d2, O3, d3, rfl, ho3, hb3⟩; have HO3 := hid ho3; have B3 := hid (B2.out.drew.trans (hb3.mono Z2.out)); have Z3 := hid (show K <= w3.heap.size from Nat.le_trans Z2.out hb3.size); have k0 := zc hb3 (Nat.lt_of_lt_of_le hHK Z2.out) q0; have k1 := zc hb3 (Nat.lt_of_lt_of_le hHK Z2.out) q1; have k2 := zc hb3 (Nat.lt_of_lt_of_le hHK Z2.out) q2; have HV3 := hid (HVW.out w3 B3.out Z3.out); clear ho3 hb3)
   | (go_simp; go_at_call 18; refine HV3.out.mono ?_; rintro e w4 ⟨rv, rfl, hr4, hb4⟩; obtain ⟨us, -, hr4', -⟩ := id hr4; obtain ⟨Av, cv, rfl⟩ := zu hr4'; have HR4 := hid hr4; have H34 := hid hb4; have B4 := hid (B3.out.trans (hb4.mono Z3.out)); have Z4 := hid (show K <= w4.heap.size from Nat.le_trans Z3.out hb4.size); clear hr4 hb4 hr4'))
  all_goals
   have hmade := hid (LatW.made (n := 0) HO3.out HIN.out H34.out (show K <= w2.drew.heap.size from Z2.out) HR4.out Z3.out Z4.out)
   go_wp2
   go_meet
   case rel => exact ⟨w4.heap.size, _, rfl, hmade.out, rfl, rfl, fun g hg => hg.1, B4.out.alloc Z4.out _, _, _, rfl⟩
 case rest =>
  obtain ⟨p, Y, rfl, hlat, hDS, hCS, hR, hb, AV, cV, hV⟩ := hcut
  obtain ⟨wA, rfl⟩ : ∃ W', W' = wc := ⟨_, rfl⟩
  have HLAT := hid hlat; have HR := hid hR; have HBA := hid hb; have HCS := hid hCS; have HVV := hid (show ∃ AV cV, Y.V = .slice AV (zh s).length cV from ⟨AV, cV, hV⟩)
  have q0 := zc hb hHK Q0.out
  clear hlat hDS hCS hR hb q1 q2 hV B2 Z2
  go_wp2
  go_loopw [19] (fun i wr => NlRel s K p W1 i wr) (fun i _ => s.1.length - (intOf i).toNat)
  case atStart => exact ⟨0, Y, by omega, rfl, HLAT.out, HCS.out, HR.out, HBA.out, HVV.out⟩
  case round =>
   obtain ⟨k, Y, hk, rfl, hlat, hCS, hR, hb, AV, cV, hV⟩ := hrel
   have HB := hid hb
   have hs1 := hb.size
   rw [<- HK.out] at hs1
   have HR := hid hR
   by_cases hlt : k < s.1.length
   ·obtain ⟨b, off, AL, cL, rfl, hbl, d0, d1, rl⟩ := znT (zam.stays HD.out HB.out) hlt
    have hdl := HDL.out _ (List.getElem_mem hlt)
    have hdim : dimL s k = ((s.1[k].2.length : Nat) : Int) := by unfold dimL; rw [List.getD_eq_getElem?_getD, List.getElem?_eq_getElem hlt]; rfl
    have E1 := hid (zh0 (β := zH) s.1 k hlt)
    have hds := zkM (β := zH) s.1 k (Nat.le_of_lt hlt)
    generalize nils (β := zH) s.1 k = ds0 at *
    generalize s.1[k] = dd at *
    obtain ⟨nm, ls⟩ := dd
    simp only at d0 d1 rl hdl hdim
    obtain ⟨hlc, hlm⟩ := rl.cap
    obtain ⟨Wd, hWd⟩ : ∃ W, W = wr.alloc (.cells #[.string nm, .slice AL ls.length cL] 54) := ⟨_, rfl⟩
    have gd : Below wr.heap.size wr Wd := by rw [hWd]; exact bl1 _ _
    have zd : Wd.heap.size = wr.heap.size + 1 := by rw [hWd]; simp
    have w1 : Wd.cell? ⟨wr.heap.size, 1, none⟩ = some (.slice AL ls.length cL) := by rw [hWd]; simp [go_sem]
    have hl := hlat.on gd
    obtain ⟨R, S1, S2, S3, V, DS, CS, dp, dD, cq, cm, cD⟩ := Y
    simp only at hCS hV
    subst hCS; subst hV
    have u2 : Wd.ownsRow K 88 1 DS ds0.length (ptrs dp ds0.length) := hl.ds
    rw [hds] at u2
    obtain ⟨AD, cDD, rfl⟩ := zu u2
    have c4 := hl.c4; have f4 := hl.fz 4 (by omega); have hpl := hl.pl
    simp only at c4
    have HND := hid (fun W => zkn (ls.length : Int) W (by omega) (by omega))
    have HL := hid hl; have HWd := hid hWd; have GD := hid gd; have HDS := hid hds; have HDM := hid hdim
    have hpn : p ≠ wr.heap.size := by have := hlat.pl; omega
    clear hlat hl hb rl hWd gd hds hdim hR
    go_upto_region 7 with (fail)
    rw [<- HWd.out]
    clear d0 d1
    go_region_law (first
     | (refine step_append_lies _ (by rfl) (.tmp 27) (.tmp 32) 75 (by rfl) K 88 i0 (.pointer none) 1 8 Tryz.underlying75 hi hz0 hz1 hz2 rfl (by omega) _ k (ptrs dp k) (by rfl) ((zx u2 B5.out).alloc _) ⟨w5.heap.size, 0, none⟩ 1 1 _ (by rfl) rfl (zG _ _ _ rfl) (by simp; rfl) (by omega) (by unfold maxLen; omega) (by omega) (by simp; omega) (w5.heap.size + 1) (by simp) ?_; intro g cap w6 ho6 hg6 hat6 hlt6; have m3 := (World.grownBy.cell_far hg6 ⟨p, 4, none⟩ (by simp; omega) (fun e => hpd e.symm)).trans (zv (by omega) k4); have m5 := (World.grownBy.frozen_far hg6 ⟨p, 4, none⟩ (by simp; omega) (fun e => hpd e.symm)).trans (zal (by omega) k5))
     | (go_simp; go_at_call 42; refine (HND.out _).mono ?_; rintro e w5 ⟨d, D, rfl, hd5, hD5, hb5⟩; have HD5 := hid hd5; have HDN := hid hD5; have B5 := hid ((Below.refl Wd.heap.size Wd).drew.trans hb5); have z5 := B5.out.size; have k4 := zc B5.out hpl c4; have k5 := zy B5.out hpl f4; have hpd := fun e => (HL.out.dsA p e).1 rfl; have k6 := zv (o := .cells #[.pointer (some ⟨d, 0, none⟩)] 88) (show p < w5.heap.size by omega) k4; clear hd5 hD5 hb5))
    all_goals
     have z6 := ((Below.refl K (w5.alloc (.cells #[.pointer (some ⟨d, 0, none⟩)] 88))).grown hg6 (by simp; omega) (fun j hj => (u2.lt j hj).1)).size
     rw [World.size_alloc] at z6
     have hnew : LatW (w6.setCell ⟨p, 4, none⟩ (.slice (some ⟨g, 0, none⟩) (k + 1) cap)) K p ⟨R, S1, S2, S3, .slice AV (zh s).length cV, .slice (some ⟨g, 0, none⟩) (k + 1) cap, .slice none 0 0, fun j => if j = ds0.length then d else dp j, fun j => if j = ds0.length then D else dD j, cq, cm, cD⟩ ⟨s, ds0 ++ [[]], [], 0⟩ :=
      LatW.dictAdd (o := .cells #[.pointer (some ⟨d, 0, none⟩)] 88) (H4 := w5.heap.size + 1) HL.out B5.out (by rw [HDS.out, HDM.out]; exact HD5.out) HDN.out (by rw [HDS.out]; exact ho6) hg6 (by omega) (hat6.elim (fun h => .inl h.symm) (fun h => .inr (congrArg some h))) (by omega) ⟨_, m3⟩
     have hbn : Below K W1 (w6.setCell ⟨p, 4, none⟩ (.slice (some ⟨g, 0, none⟩) (k + 1) cap)) :=
      ((HB.out.trans ((GD.out.mono hs1).trans ((B5.out.mono (show K <= Wd.heap.size by omega)).trans (((Below.refl K w5).alloc (by omega) (.cells #[.pointer (some ⟨d, 0, none⟩)] 88)).trans ((Below.refl K _).grown hg6 (by simp; omega) (fun j hj => (u2.lt j hj).1)))))).setCell (show K <= p from HL.out.hp) _)
     have HNX := hid (show NlRel s K p W1 (.int .i64 ((k : Int) + 1)) (w6.setCell ⟨p, 4, none⟩ (.slice (some ⟨g, 0, none⟩) (k + 1) cap)) from ⟨k + 1, ⟨R, S1, S2, S3, .slice AV (zh s).length cV, .slice (some ⟨g, 0, none⟩) (k + 1) cap, .slice none 0 0, fun j => if j = ds0.length then d else dp j, fun j => if j = ds0.length then D else dD j, cq, cm, cD⟩, by omega, by go_num, by rw [E1.out]; exact hnew, rfl, HR.out, hbn, _, _, rfl⟩)
     clear ho6 hg6 hat6 hlt6 hnew hbn u2 m3 m5 k4 k5 k6 c4 f4
     go_wp2
     go_roundw
     case rel => exact HNX.out
     case measure => simp [intOf]; omega
   ·obtain rfl : k = s.1.length := by omega
    rw [zkO] at hlat
    have q0 := zc hb hHK Q0.out
    have q1 := zc hb hHK Q1.out
    obtain ⟨R, S1, S2, S3, V, DS, CS, dp, dD, cq, cm, cD⟩ := Y
    simp only at hCS hV
    subst hCS; subst hV
    have c3 := hlat.c3
    simp only at c3
    have hn : nils (β := KC) (zh s) 0 = [] := rfl
    have HL0 := hid (show zqt s K p W1 (.int .i64 0) wr from ⟨0, _, by omega, rfl, hlat, HR.out, HB.out⟩)
    clear hlat hb hn hR
    obtain ⟨W5, hW5⟩ : ∃ W, W = wr := ⟨_, rfl⟩
    rw [<- hW5] at HL0 q0 q1 c3 ⊢
    clear hW5 HB
    go_wp2
    go_loopw [42] (fun i wr => zqt s K p W1 i wr) (fun i _ => (zh s).length - (intOf i).toNat)
    case atStart => exact HL0.out
    case round =>
     obtain ⟨k, Y, hk, rfl, hlat, hR, hb⟩ := hrel
     have HB := hid hb; have HR2 := hid hR
     have hs1 := hb.size
     rw [<- HK.out] at hs1
     by_cases hlt : k < (zh s).length
     ·have E1 := hid (zh0 (β := KC) (zh s) k hlt)
      have hds := zkM (β := KC) (zh s) k (Nat.le_of_lt hlt)
      generalize nils (β := KC) (zh s) k = cs0 at *
      obtain ⟨R, S1, S2, S3, V, DS, CS, dp, dD, cq, cm, cD⟩ := Y
      have u2 : wr.ownsRow K 79 1 CS cs0.length (ptrs cq cs0.length) := hlat.cs
      rw [hds] at u2
      obtain ⟨AD, cDD, rfl⟩ := zu u2
      have c5 := hlat.c5; have f5 := hlat.fz 5 (by omega); have hpl := hlat.pl
      simp only at c5
      have q0 := zc hb hHK Q0.out
      have q1 := zc hb hHK Q1.out
      have hv7 := HVN.out
      have HND := hid (fun W => zgT s.1.length s.2.1.length W hd1 hd3 hm1 hm2)
      have HL := hid hlat; have HDS := hid hds
      clear hlat hb hds hR c3
      go_upto_region 11 with (fail)
      go_region_law (first
       | (refine step_append_lies _ (by rfl) (.tmp 48) (.tmp 56) 76 (by rfl) K 79 i1 (.pointer none) 1 8 Tryz.underlying76 hi' hz0' hz1' hz2' rfl (by omega) _ k (ptrs cq k) (by rfl) ((zx u2 B5.out).alloc _) ⟨w5.heap.size, 0, none⟩ 1 1 _ (by rfl) rfl (zG _ _ _ rfl) (by simp; rfl) (by omega) (by unfold maxLen; omega) (by omega) (by simp; omega) (w5.heap.size + 1) (by simp) ?_; intro g cap w6 ho6 hg6 hat6 hlt6; have m3 := (World.grownBy.cell_far hg6 ⟨p, 5, none⟩ (by simp; omega) (fun e => hpd e.symm)).trans (zv (by omega) k4); have m5 := (World.grownBy.frozen_far hg6 ⟨p, 5, none⟩ (by simp; omega) (fun e => hpd e.symm)).trans (zal (by omega) k5))
       | (go_simp; go_at_call 43; refine (HND.out _).mono ?_; rintro e w5 ⟨d, m, D, rfl, hd5, hD5, hb5⟩; have HD5 := hid hd5; have HDN := hid hD5; have B5 := hid ((Below.refl wr.heap.size wr).drew.trans hb5); have z5 := B5.out.size; have k4 := zc B5.out hpl c5; have k5 := zy B5.out hpl f5; have hpd := fun e => (HL.out.csA p e).1 rfl; have k6 := zv (o := .cells #[.pointer (some ⟨d, 0, none⟩)] 79) (show p < w5.heap.size by omega) k4; have k8 := zc B5.out (Nat.lt_of_lt_of_le hHK hs1) q0; have k9 := zc B5.out (Nat.lt_of_lt_of_le hHK hs1) q1; clear hd5 hD5 hb5))
      all_goals
       have z6 := ((Below.refl K (w5.alloc (.cells #[.pointer (some ⟨d, 0, none⟩)] 79))).grown hg6 (by simp; omega) (fun j hj => (u2.lt j hj).1)).size
       rw [World.size_alloc] at z6
       have hnew : LatW (w6.setCell ⟨p, 5, none⟩ (.slice (some ⟨g, 0, none⟩) (k + 1) cap)) K p ⟨fun g => R g \/ D g, S1, S2, S3, V, DS, .slice (some ⟨g, 0, none⟩) (k + 1) cap, dp, dD, fun j => if j = cs0.length then d else cq j, fun j => if j = cs0.length then m else cm j, fun j => if j = cs0.length then D else cD j⟩ ⟨s, s.1.map (fun _ => []), cs0 ++ [[]], 0⟩ :=
        LatW.cubAdd (o := .cells #[.pointer (some ⟨d, 0, none⟩)] 79) (H4 := w5.heap.size + 1) HL.out B5.out HD5.out HDN.out (by rw [HDS.out]; exact ho6) hg6 (by omega) (hat6.elim (fun h => .inl h.symm) (fun h => .inr (congrArg some h))) (by omega) ⟨_, m3⟩
       have hbn : Below K W1 (w6.setCell ⟨p, 5, none⟩ (.slice (some ⟨g, 0, none⟩) (k + 1) cap)) :=
        ((HB.out.trans ((B5.out.mono hs1).trans (((Below.refl K w5).alloc (by omega) (.cells #[.pointer (some ⟨d, 0, none⟩)] 79)).trans ((Below.refl K _).grown hg6 (by simp; omega) (fun j hj => (u2.lt j hj).1))))).setCell (show K <= p from HL.out.hp) _)
       have HNX := hid (show zqt s K p W1 (.int .i64 ((k : Int) + 1)) (w6.setCell ⟨p, 5, none⟩ (.slice (some ⟨g, 0, none⟩) (k + 1) cap)) from ⟨k + 1, ⟨fun g => R g \/ D g, S1, S2, S3, V, DS, .slice (some ⟨g, 0, none⟩) (k + 1) cap, dp, dD, fun j => if j = cs0.length then d else cq j, fun j => if j = cs0.length then m else cm j, fun j => if j = cs0.length then D else cD j⟩, by omega, by go_num, by rw [E1.out]; exact hnew, fun g hg => hg.elim (HR2.out g) (fun h => Nat.le_trans hs1 (HDN.out g h)), hbn⟩)
       clear ho6 hg6 hat6 hlt6 hnew hbn u2 m3 m5 k4 k5 k6 k8 k9 c5 f5
       go_wp2
       go_roundw
       case rel => exact HNX.out
       case measure => simp [intOf]; omega
     ·obtain rfl : k = (zh s).length := by omega
      rw [zkO] at hlat
      have HL := hid hlat
      clear hlat hb hR c3
      go_wp2
      go_ret2
      exact ⟨p, Y, rfl, HL.out.less (Nat.le_of_lt hHK), fun g hg => Nat.le_trans (Nat.le_of_lt hHK) (HR2.out g hg), G1.out.trans (HB.out.mono (Nat.le_of_lt hHK))⟩
end Go.Proofs.YtgoapnkdcfcjgaaGreat
namespace Go.Proofs.YtgoapnkdcfcjgaaGreat
open Go.ChangeShapes Go.WideShapes Go.ChangeAt Go.RowKit
def zcD (l : List Nat) : List Int := l.map (fun n : Nat => (n : Int))
theorem zkX (l : List Nat) : zc5 l = zk (zcD l) := by unfold zc5 zk zcD; rw [List.map_map]; rfl
theorem ziJ (l : List Nat) : (zcD l).length = l.length := by simp [zcD]
def zM (s : ze) (ds : List (List zH)) (ps : List (List ByteArray)) : Nat -> List (List zH) × List (List Int) × Int
 | 0 => (ds, [], 0)
 | i + 1 =>
   let r := zM s ds ps i
   if r.2.2 ≠ 0 then r else
   let a := zbS (r.1.getD i []) (dimL s i) (ps.getD i [])
   (r.1.set i a.1, r.2.1 ++ [zcD a.2.1], a.2.2)
def zE (s : ze) (ds : List (List zH)) (fs : List zq) : Nat -> List (List zH) × List (List (List Int)) × Int
 | 0 => (ds, [], 0)
 | j + 1 =>
   let r := zE s ds fs j
   if r.2.2 ≠ 0 then r else
   let c := zM s r.1 (fs.getD j ([], [])).1 (fs.getD j ([], [])).1.length
   (c.1, r.2.1 ++ [c.2.1], c.2.2)
def keyJ (view : List Int) (codes : List (List Int)) (k : Nat) : List Int :=
 (List.range k).map fun i => if 0 < view.getD i 0 then (codes.getD i []).getD (view.getD i 0 - 1).toNat 0 else 0
theorem zpG (view : List Int) (codes : List (List Int)) (k : Nat) : (keyJ view codes k).length = k := by simp [keyJ]
theorem zov (view : List Int) (codes : List (List Int)) (k : Nat) : keyJ view codes (k + 1) = keyJ view codes k ++ [if 0 < view.getD k 0 then (codes.getD k []).getD (view.getD k 0 - 1).toNat 0 else 0] := by
 unfold keyJ; rw [List.range_succ, List.map_append]; rfl
def keyF (view : List Int) (codes : List (List Int)) : List Int := keyJ view codes view.length
def allJ (M : Nat) (L : List KC) (ks vs : List (List Int)) (i j : Nat) : List zp :=
 (getK L (ks.getD i [])).toList ++ (((List.range j).filter fun j => decide (i <= j /\ ks.getD j [] = ks.getD i [])).map fun j => (zaQ M [vs.getD j []]).1)
theorem znc (M : Nat) (L : List KC) (ks vs : List (List Int)) (i j : Nat) : allJ M L ks vs i (j + 1) = if i <= j /\ ks.getD j [] = ks.getD i [] then allJ M L ks vs i j ++ [(zaQ M [vs.getD j []]).1] else allJ M L ks vs i j := by
 unfold allJ
 rw [List.range_succ, List.filter_append, List.map_append]
 by_cases h : i <= j /\ ks.getD j [] = ks.getD i []
 ·rw [if_pos h, List.filter_cons, if_pos (by simpa using h), List.append_assoc]; rfl
 ·rw [if_neg h, List.filter_cons, if_neg (by simpa using h)]; simp
theorem zlo (M : Nat) (L : List KC) (ks vs : List (List Int)) (i : Nat) : allJ M L ks vs i i = (getK L (ks.getD i [])).toList := by
 unfold allJ
 rw [List.filter_eq_nil_iff.2 (fun j hj => by have := List.mem_range.1 hj; simp; omega)]
 simp
theorem zj9 (M : Nat) (L : List KC) (ks vs : List (List Int)) (i j : Nat) : (allJ M L ks vs i j).length <= 1 + j := by
 unfold allJ
 rw [List.length_append, List.length_map]
 have h1 := List.length_filter_le (fun j => decide (i <= j /\ ks.getD j [] = ks.getD i [])) (List.range j)
 rw [List.length_range] at h1
 have h2 : (getK L (ks.getD i [])).toList.length <= 1 := by cases getK L (ks.getD i []) <;> simp
 omega
def hadJ (ks : List (List Int)) (i : Nat) : Bool := (List.range i).any fun j => decide (ks.getD j [] = ks.getD i [])
def zaG (W M : Nat) (L : List KC) (ks vs : List (List Int)) : Nat -> List KC × Int
 | 0 => ([], 0)
 | i + 1 =>
   let r := zaG W M L ks vs i
   if r.2 ≠ 0 \/ hadJ ks i = true then r else
   let x := sumC (allJ M L ks vs i ks.length)
   if x.2 ≠ 0 then (r.1, x.2) else ((addK W M r.1 (ks.getD i []) x.1).1, 0)
def zbA (W M : Nat) (L c : List KC) : Nat -> List KC
 | 0 => c
 | j + 1 =>
   let r := zbA W M L c j
   if (getK r (L.getD j ([], nilC)).1).isSome then r else (addK W M r (L.getD j ([], nilC)).1 (getC L (L.getD j ([], nilC)).1)).1
def zb6 (W M : Nat) (L : List KC) (ks vs : List (List Int)) : List KC × Int :=
 let r := zaG W M L ks vs ks.length
 if r.2 ≠ 0 then (L, r.2) else (zbA W M L r.1 L.length, 0)
def zU (s : ze) (cs : List (List KC)) (codes : List (List (List Int))) (vs : List (List Int)) : Nat -> List (List KC) × Int
 | 0 => (cs, 0)
 | v + 1 =>
   let r := zU s cs codes vs v
   if r.2 ≠ 0 then r else
   let f := zb6 s.1.length s.2.1.length (r.1.getD v []) (codes.map (keyF ((zh s).getD v []))) vs
   if f.2 ≠ 0 then (r.1, f.2) else (r.1.set v f.1, 0)
def zao (l : LatX) (fs : List zq) : LatX × Int :=
 if zbe l.s fs ≠ 0 then (l, zbe l.s fs) else
 let c := zE l.s l.ds fs fs.length
 if c.2.2 ≠ 0 then (l, c.2.2) else
 if NUM < l.n + fs.length then (l, 14) else
 let r := zU l.s l.cs c.2.1 (fs.map Prod.snd) (zh l.s).length
 if r.2 ≠ 0 then (l, r.2) else (⟨l.s, c.1, r.1, l.n + fs.length⟩, 0)
end Go.Proofs.YtgoapnkdcfcjgaaGreat
namespace Go.Proofs.YtgoapnkdcfcjgaaGreat
open Go.ChangeShapes Go.WideShapes Go.ChangeAt Go.RowKit Go.Sort
def cmpL : List Int -> List Int -> Int
 | [], [] => 0
 | [], _ :: _ => -1
 | _ :: _, [] => 1
 | a :: ar, b :: br => if a = b then cmpL ar br else cmpI a b
theorem ziE {a b : Int} : cmpI a b = 0 ↔ a = b := by
 unfold cmpI
 split
 ·constructor
  ·intro h; cases h
  ·omega
 ·split
  ·constructor
   ·intro h; cases h
   ·omega
  ·constructor
   ·intro _; omega
   ·intro _; rfl
theorem zdK : ∀ {k : Nat} {a b : List Int}, k <= a.length -> k <= b.length -> a.take k = b.take k -> cmpL a b = cmpL (a.drop k) (b.drop k)
 | 0, _, _, _, _, _ => rfl
 | k + 1, [], _, h, _, _ => by simp at h
 | k + 1, _ :: _, [], _, h, _ => by simp at h
 | k + 1, x :: a, y :: b, h1, h2, h => by
   simp only [List.take_succ_cons, List.cons.injEq] at h
   obtain ⟨rfl, h⟩ := h
   conv => lhs; unfold cmpL
   rw [if_pos rfl]
   exact zdK (by simpa using h1) (by simpa using h2) h
theorem zqY {k : Nat} {a b : List Int} (h1 : k < a.length) (h2 : k < b.length) (h : a.take k = b.take k) (hne : cmpI (a.getD k 0) (b.getD k 0) ≠ 0) : cmpL a b = cmpI (a.getD k 0) (b.getD k 0) := by
 rw [zdK (by omega) (by omega) h, List.drop_eq_getElem_cons h1, List.drop_eq_getElem_cons h2]
 simp only [List.getD_eq_getElem?_getD, List.getElem?_eq_getElem h1, List.getElem?_eq_getElem h2, Option.getD_some] at hne ⊢
 conv => lhs; unfold cmpL
 rw [if_neg (fun e => hne (ziE.2 e))]
theorem znu {k : Nat} {a b : List Int} (h1 : k < a.length) (h2 : b.length = k) (h : a.take k = b.take k) : cmpL a b = 1 := by
 have e : b.drop k = [] := List.drop_eq_nil_of_le (by omega)
 rw [zdK (by omega) (by omega) h, List.drop_eq_getElem_cons h1, e]
 rfl
theorem zoT {k : Nat} {a b : List Int} (h1 : a.length = k) (h2 : k <= b.length) (h : a.take k = b.take k) : cmpL a b = if a.length < b.length then -1 else 0 := by
 rw [zdK (by omega) (by omega) h, List.drop_eq_nil_of_le (by omega)]
 by_cases hl : a.length < b.length
 ·rw [if_pos hl, List.drop_eq_getElem_cons (show k < b.length by omega)]; rfl
 ·rw [if_neg hl, List.drop_eq_nil_of_le (by omega)]; rfl
theorem zkg : ∀ {a b : List Int}, (decide (cmpL a b < 0)) = lexB a b
 | [], [] => rfl
 | [], _ :: _ => rfl
 | _ :: _, [] => rfl
 | a :: ar, b :: br => by
   unfold cmpL lexB
   by_cases h : a = b
   ·rw [if_pos h, if_pos h]; exact zkg
   ·rw [if_neg h, if_neg h]
    unfold cmpI
    by_cases h1 : a < b
    ·rw [if_pos h1, decide_eq_true h1]; rfl
    ·rw [if_neg h1, if_pos (by omega), decide_eq_false h1]; rfl
abbrev T3 := Int × Int × Int
def l3 (x : T3) : List Int := [x.1, x.2.1, x.2.2]
def enc3 (x : T3) : List Value := [.int .i64 x.1, .int .i64 x.2.1, .int .i64 x.2.2]
def cmp3 (x y : T3) : Int := cmpL (l3 x) (l3 y)
theorem lt3 (x y : T3) : ltOf cmp3 x y = lexB (l3 x) (l3 y) := zkg
theorem zqc {x y : T3} (h : l3 x = l3 y) : x = y := by
 obtain ⟨a, b, c⟩ := x; obtain ⟨d, e, f⟩ := y
 simp [l3] at h
 obtain ⟨rfl, rfl, rfl⟩ := h
 rfl
theorem zmp {a b c : List Int} (h1 : lexB a b = false) (h2 : lexB b c = false) : lexB a c = false := by
 cases h : lexB a c
 ·rfl
 ·by_cases hab : a = b
  ·subst hab; rw [h] at h2; cases h2
  ·have := zbN (zca hab h1) h
   rw [this] at h2; cases h2
theorem swo3 : SWO (ltOf cmp3) where
 irrefl x := by rw [lt3]; exact za6 _
 trans x y z h1 h2 := by rw [lt3] at *; exact zbN h1 h2
 ntrans x y z h1 h2 := by rw [lt3] at *; exact zmp h1 h2
theorem tot3 (x y : T3) (h1 : ltOf cmp3 x y = false) (h2 : ltOf cmp3 y x = false) : x = y := by
 rw [lt3] at h1 h2
 by_cases h : l3 x = l3 y
 ·exact zqc h
 ·rw [zca h h1] at h2; cases h2
theorem zgm {α : Type} {r : α -> α -> Prop} (hi : ∀ a, ¬ r a a) (ht : ∀ a b c, r a b -> r b c -> r a c) : ∀ {A B : List α}, A.Pairwise r -> B.Pairwise r -> (∀ x, x ∈ A ↔ x ∈ B) -> A = B
 | [], [], _, _, _ => rfl
 | [], y :: B, _, _, h => by have := (h y).2 List.mem_cons_self; cases this
 | x :: A, [], _, _, h => by have := (h x).1 List.mem_cons_self; cases this
 | x :: A, y :: B, hA, hB, h => by
   obtain ⟨a1, a2⟩ := List.pairwise_cons.1 hA
   obtain ⟨b1, b2⟩ := List.pairwise_cons.1 hB
   have hxy : x = y := by
    rcases List.mem_cons.1 ((h x).1 List.mem_cons_self) with e | hx
    ·exact e
    ·rcases List.mem_cons.1 ((h y).2 List.mem_cons_self) with e | hy
     ·exact e.symm
     ·exact absurd (ht _ _ _ (a1 _ hy) (b1 _ hx)) (hi _)
   subst hxy
   congr 1
   refine zgm hi ht a2 b2 fun z => ?_
   constructor
   ·intro hz
    rcases List.mem_cons.1 ((h z).1 (List.mem_cons_of_mem _ hz)) with e | h'
    ·subst e; exact absurd (a1 _ hz) (hi _)
    ·exact h'
   ·intro hz
    rcases List.mem_cons.1 ((h z).2 (List.mem_cons_of_mem _ hz)) with e | h'
    ·subst e; exact absurd (b1 _ hz) (hi _)
    ·exact h'
theorem sort3 {V S : List T3} (hS : S.Pairwise fun x y => lexB (l3 x) (l3 y) = true) (hn : V.Nodup) (hm : ∀ x, x ∈ V ↔ x ∈ S) : (V.mergeSort fun x y => !(ltOf cmp3) y x) = S := by
 have hp := List.mergeSort_perm V fun x y => !(ltOf cmp3) y x
 have hs := List.pairwise_mergeSort (le := fun x y => !(ltOf cmp3) y x) (fun a b c h1 h2 => by
   simp only [Bool.not_eq_true'] at h1 h2 ⊢
   exact swo3.ntrans _ _ _ h2 h1) (fun a b => by
   cases h : ltOf cmp3 b a
   ·simp
   ·rw [lt3] at h
    have : ltOf cmp3 a b = false := by rw [lt3]; exact zfa h
    simp [this]) V
 have hn' := hp.nodup_iff.2 hn
 refine zgm (r := fun x y => lexB (l3 x) (l3 y) = true) (fun a h => by rw [za6] at h; cases h) (fun a b c h1 h2 => zbN h1 h2) ?_ hS (fun x => (hp.mem_iff).trans (hm x))
 refine List.Pairwise.imp₂ ?_ hs hn'
 intro a b h1 h2
 simp only [Bool.not_eq_true'] at h1
 rw [lt3] at h1
 exact zca (fun e => h2 (zqc e).symm) h1
end Go.Proofs.YtgoapnkdcfcjgaaGreat
