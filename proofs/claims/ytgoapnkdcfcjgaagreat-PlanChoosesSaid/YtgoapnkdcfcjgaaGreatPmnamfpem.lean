/- 4 texts of this claim, in build order. -/
import Derived.Test.YtgoapnkdcfcjgaaGreatPplomcpim
import Derived.Test.YtgoapnkdcfcjgaaGreatPflgpgfja
import Derived.Test.YtgoapnkdcfcjgaaGreatPldpedafh
import Derived.Deep.RegionLaw
import Derived.Test.YtgoapnkdcfcjgaaGreatPfaigadad
set_option linter.unusedVariables false
set_option linter.unusedSimpArgs false
namespace Go.Proofs.YtgoapnkdcfcjgaaGreat
open Go.ChangeShapes Go.WideShapes Go.ChangeAt Go.RowKit
theorem zlV (l : List ByteArray) : ∀ u ∈ zL l, u.oneCell' = true := by
 intro u hu
 obtain ⟨x, _, rfl⟩ := List.mem_map.1 hu
 rfl
def zkG (l : List ByteArray) (w : World) (e : Ending) (w' : World) : Prop := ∃ r, e = .returned r /\ w'.ownsRow w.heap.size 9 1 r l.length (zL l) /\ Below w.heap.size w w'
set_option maxRecDepth 100000 in
set_option maxHeartbeats 400000 in
theorem zgx (v : Value) (l : List ByteArray) (w : World) (hv : zO w w.heap.size [v] l) (hl : l.length <= 1073741824) :
  Calls Tryz.prog 62 #[v] w (zkG l w) := by
 obtain ⟨i0, hi, hz0, hz1, hz2⟩ := info_parts zdI
 have hv := (zbP hv).1
 have hv' := hv
 obtain ⟨A, c, rfl, hc1, hc2, hA⟩ := hv
 simp only [zat] at hc1 hv' ⊢
 have HV := hid hv'; have HA := hid hA
 clear hv' hA
 go_enter Tryz.func62, Tryz.ntmps62
 cases A with
 | none =>
   have h0 : l = [] := by
    cases l with
    | nil => rfl
    | cons x l => obtain ⟨b, off, h, _⟩ := HA.out (by simp [zL]); cases h
   have H0 := hid h0; clear h0
   have hq : ∀ W : World, (binOp .eql 23 (.slice none l.length c) (.slice none 0 0)).run Tryz.prog W = .ok (.bool true) W := fun _ => rfl
   go_wp2
   go_ret
   exact ⟨_, rfl, by rw [H0.out]; exact World.ownsRow_nil _ _ _ _, Below.refl _ _⟩
 | some x =>
   have hq : ∀ W : World, (binOp .eql 23 (.slice (some x) l.length c) (.slice none 0 0)).run Tryz.prog W = .ok (.bool false) W := fun _ => rfl
   go_wp2_with (at_builtin; refine zr ?_)
   refine zar ?_
   have hown : (w.alloc (.cells #[] 9)).ownsRow w.heap.size 9 1 (.slice (some ⟨w.heap.size, 0, none⟩) 0 0) 0 [] := by
    refine ⟨rfl, .inr ⟨w.heap.size, 0, #[], rfl, Nat.le_refl _, ?_, Nat.le_refl _, by simp [maxLen], rfl, rfl⟩⟩
    exact heap_alloc_new w _
   refine zav (.tmp 5) (.tmp 6) 23 23 rfl rfl w.heap.size 9 i0 (.string ByteArray.empty) 1 16 Tryz.underlying23 hi hz0 hz1 hz2 rfl (by omega) _ _ _ rfl hown (.slice (some x) l.length c) l.length (zL l) rfl ?_ (by unfold maxLen; omega) (by omega) (by simp) ?_
   ·have hs : Sl (w.alloc (.cells #[] 9)) w.heap.size (.slice (some x) l.length c) (zL l) := by
     obtain ⟨A, c', g1, g2, g3, g4⟩ := HV.out
     refine ⟨A, c', g1, g2, g3, fun h0 => ?_⟩
     obtain ⟨b, off, g5, g6, g7⟩ := g4 h0
     exact ⟨b, off, g5, g6, fun j u hj => zv g6 (g7 j u hj)⟩
    have := zfG _ Tryz.underlying23 hs (zlV l)
    rwa [zat] at this
   ·intro v2 w2 hown2 hg2 hb2
    go_wp2
    go_ret
    refine ⟨v2, rfl, by simpa using hown2, ?_⟩
    exact (bl1 w _).trans hb2
end Go.Proofs.YtgoapnkdcfcjgaaGreat
namespace Go.Proofs.YtgoapnkdcfcjgaaGreat
open Go.ChangeShapes Go.WideShapes Go.ChangeAt Go.RowKit Go.Deep
def OwnSP (s : ze) (w : World) (e : Ending) (w' : World) : Prop :=
 ∃ A1 c1 A2 c2 A3 c3, e = .returned (.agg #[.slice A1 s.1.length c1, .slice A2 s.2.1.length c2, .slice A3 s.2.2.length c3]) /\ SchO w' w.heap.size (.slice A1 s.1.length c1) (.slice A2 s.2.1.length c2) (.slice A3 s.2.2.length c3) s /\ Below w.heap.size w w'
def OdRel (ds : List DimX) (N : Nat) (mv : Value) (Wg : World) (i : Value) (wr : World) : Prop :=
 ∃ (k : Nat) (v1 : Value), k <= ds.length /\ i = .int .i64 k /\ wr.cell? ⟨N, 0, none⟩ = some v1 /\ wr.frozen? ⟨N, 0, none⟩ = false /\ wr.cell? ⟨N, 1, none⟩ = some mv /\ wr.cell? ⟨N, 2, none⟩ = some (.slice none 0 0) /\ wr.frozen? ⟨N, 2, none⟩ = false /\ DRow wr (N + 1) v1 (ds.take k) /\ N < wr.heap.size /\ Below N Wg wr
def OvRel (ds : List DimX) (vs : List (List Int)) (N : Nat) (v1 mv : Value) (Wg : World) (i : Value) (wr : World) : Prop :=
 ∃ (k : Nat) (v3 : Value), k <= vs.length /\ i = .int .i64 k /\ wr.cell? ⟨N, 0, none⟩ = some v1 /\ wr.cell? ⟨N, 1, none⟩ = some mv /\ wr.cell? ⟨N, 2, none⟩ = some v3 /\ wr.frozen? ⟨N, 2, none⟩ = false /\ DRow wr (N + 1) v1 ds /\ RowI wr (N + 1) v3 (vs.take k) /\ N < wr.heap.size /\ Below N Wg wr
theorem znT {w : World} {B : Nat} {A : Option Addr} {n c : Nat} {l : List DimX} (h : zj 2 zee w B [.slice A n c] l) {k : Nat} (hk : k < l.length) :
  ∃ b off AL cL, A = some ⟨b, off, none⟩ /\ b < B /\ w.cell? ⟨b, off + k * 2, none⟩ = some (.string l[k].1) /\ w.cell? ⟨b, off + k * 2 + 1, none⟩ = some (.slice AL l[k].2.length cL) /\ zO w B [.slice AL l[k].2.length cL] l[k].2 := by
 obtain ⟨b, off, rfl, hb, es, hel, hcell, hr⟩ := h.at_ hk
 obtain ⟨hl1, ⟨ex, -⟩, hlv⟩ := hr
 obtain ⟨AL, cL, eL, hL1, hL2⟩ := hlv.open_
 rw [eL] at hlv
 obtain rfl : es = [.string l[k].1, .slice AL l[k].2.length cL] := by
  rw [<- List.take_append_drop 1 es, ex, eL]; rfl
 exact ⟨b, off, AL, cL, rfl, hb, hcell 0 _ rfl, hcell 1 _ rfl, hlv⟩
set_option maxRecDepth 100000 in
set_option maxHeartbeats 3200000 in
theorem zjD (v : Value) (s : ze) (w : World) (hv : zD w w.heap.size v s) (hl : s.1.length <= 1000) (hl3 : s.2.2.length <= 1000) (h2 : ∀ x ∈ s.2.2, x.length <= 1000) (hm : s.2.1.length <= 1000) (hd : ∀ d ∈ s.1, d.2.length <= 1000) :
  Calls Tryz.prog 41 #[v] w (OwnSP s w) := by
 obtain ⟨i0, hi, hz0, hz1, hz2⟩ := info_parts zps
 obtain ⟨i1, hi', hz0', hz1', hz2'⟩ := info_parts zcN
 obtain ⟨A1, c1, A2, c2, A3, c3, rfl, h1, h2', h3⟩ := hv
 obtain ⟨W1, hW1⟩ : ∃ W, W = (w.alloc (.cells #[.slice A1 s.1.length c1, .slice A2 s.2.1.length c2, .slice A3 s.2.2.length c3] 26)).alloc (.cells #[.slice none 0 0, .slice none 0 0, .slice none 0 0] 26) := ⟨_, rfl⟩
 obtain ⟨H, hH⟩ : ∃ H, H = w.heap.size := ⟨_, rfl⟩
 have g1 : Below H w W1 := by rw [hW1, hH]; exact (bl1 _ _).alloc (by simp) _
 have z1 : W1.heap.size = H + 1 + 1 := by rw [hW1, hH]; simp
 have q0 : W1.cell? ⟨H, 0, none⟩ = some (.slice A1 s.1.length c1) := by rw [hW1, hH]; simp [go_sem]
 have q1 : W1.cell? ⟨H, 1, none⟩ = some (.slice A2 s.2.1.length c2) := by rw [hW1, hH]; simp [go_sem]
 have q2 : W1.cell? ⟨H, 2, none⟩ = some (.slice A3 s.2.2.length c3) := by rw [hW1, hH]; simp [go_sem]
 have p0 : W1.cell? ⟨H + 1, 0, none⟩ = some (.slice none 0 0) := by rw [hW1, hH]; simp [go_sem]
 have p1 : W1.cell? ⟨H + 1, 1, none⟩ = some (.slice none 0 0) := by rw [hW1, hH]; simp [go_sem]
 have p2 : W1.cell? ⟨H + 1, 2, none⟩ = some (.slice none 0 0) := by rw [hW1, hH]; simp [go_sem]
 have f0 : W1.frozen? ⟨H + 1, 0, none⟩ = false := by rw [hW1, hH]; simp [go_sem]
 have f1 : W1.frozen? ⟨H + 1, 1, none⟩ = false := by rw [hW1, hH]; simp [go_sem]
 have f2 : W1.frozen? ⟨H + 1, 2, none⟩ = false := by rw [hW1, hH]; simp [go_sem]
 rw [<- hH] at h1 h2' h3
 obtain ⟨hc1, hm1⟩ := h1.cap
 obtain ⟨hc3, hm3⟩ := h3.cap
 have HCM := hid (zgx (.slice A2 s.2.1.length c2) s.2.1 W1 (zQ.more (zQ.stays h2' g1) (by omega)) (by omega))
 have HD := hid h1; have H3 := hid h3; have H2 := hid h2; have HDL := hid hd
 have HW1 := hid hW1; have G1 := hid g1; have HH := hid hH; have Z1 := hid z1
 unfold OwnSP SchO
 rw [<- hH]
 clear h1 h2' h3 h2 hd hW1 g1 hH z1
 obtain ⟨dims, ms, vs⟩ := s
 simp only at *
 go_enter Tryz.func41, Tryz.ntmps41
 go_upto_region 1 with (fail)
 rw [<- HW1.out, <- HH.out]
 go_wp2_with fail
 (with_reducible refine HCM.out.mono ?_)
 rintro e w2 ⟨u, rfl, hu, hb2⟩
 obtain ⟨Au, cu, rfl, -, -, -⟩ := zl hu
 have hz : H + 1 + 1 <= w2.heap.size := by have := hb2.size; rw [Z1.out] at this; exact this
 have hlt1 : H < W1.heap.size := by rw [Z1.out]; omega
 have hlt2 : H + 1 < W1.heap.size := by rw [Z1.out]; omega
 obtain ⟨N, hN⟩ : ∃ N, N = w2.heap.size := ⟨_, rfl⟩
 obtain ⟨Wg, hWg⟩ : ∃ W, W = w2.alloc (.cells #[.slice none 0 0, .slice Au ms.length cu, .slice none 0 0] 26) := ⟨_, rfl⟩
 have gg : Below N w2 Wg := by rw [hWg, hN]; exact bl1 _ _
 have zg : Wg.heap.size = N + 1 := by rw [hWg, hN]; simp
 have n0 : Wg.cell? ⟨N, 0, none⟩ = some (.slice none 0 0) := by rw [hWg, hN]; simp [go_sem]
 have n1 : Wg.cell? ⟨N, 1, none⟩ = some (.slice Au ms.length cu) := by rw [hWg, hN]; simp [go_sem]
 have n2 : Wg.cell? ⟨N, 2, none⟩ = some (.slice none 0 0) := by rw [hWg, hN]; simp [go_sem]
 have m0 : Wg.frozen? ⟨N, 0, none⟩ = false := by rw [hWg, hN]; simp [go_sem]
 have m2 : Wg.frozen? ⟨N, 2, none⟩ = false := by rw [hWg, hN]; simp [go_sem]
 rw [<- hN] at hz
 have q0 := zc gg (by omega) (zc hb2 hlt1 q0)
 have q2 := zc gg (by omega) (zc hb2 hlt1 q2)
 have p0 := zc gg (by omega) (zc hb2 hlt2 p0); have p1 := zc gg (by omega) (zc hb2 hlt2 p1); have p2 := zc gg (by omega) (zc hb2 hlt2 p2)
 have f0 := zy gg (by omega) (zy hb2 hlt2 f0); have f1 := zy gg (by omega) (zy hb2 hlt2 f1); have f2 := zy gg (by omega) (zy hb2 hlt2 f2)
 have BG := hid (show Below H w Wg from G1.out.trans ((hb2.mono (by rw [Z1.out]; omega)).trans (gg.mono (by omega))))
 have HU := hid (show Wg.ownsRow H 9 1 (.slice Au ms.length cu) ms.length (zL ms) from zo (zw hu (by rw [Z1.out]; omega)) (fun g hg => gg.block g (by rw [hN]; exact (hu.lt g hg).2)))
 have HUN := hid (show ∀ g, (Value.slice Au ms.length cu).ownBlock = some g -> g < N from fun g hg => by rw [hN]; exact (hu.lt g hg).2)
 have HUNE := hid (show ∀ g, (Value.slice Au ms.length cu).ownBlock = some g -> g ≠ H + 1 from fun g hg => by have := (hu.lt g hg).1; rw [Z1.out] at this; omega)
 have HWg := hid hWg; have HN := hid hN; have ZG := hid zg
 have P := hid (And.intro p0 (And.intro p1 p2)); have F := hid (And.intro f0 (And.intro f1 f2)); have N0 := hid n0; have N1 := hid n1; have N2 := hid n2; have M0 := hid m0; have M2 := hid m2; have Q2 := hid q2
 clear gg hu hb2 hWg hN zg q1 p0 p1 p2 f0 f1 f2 n0 n1 n2 m0 m2 hlt1 hlt2 q2
 go_upto_region 2 with (fail)
 rw [<- HWg.out, <- HN.out]
 go_wp2
 go_loopw [15] (fun i wr => OdRel dims N (.slice Au ms.length cu) Wg i wr) (fun i _ => dims.length - (intOf i).toNat)
 case atStart => exact ⟨0, _, by omega, rfl, N0.out, M0.out, N1.out, N2.out, M2.out, DRow.nil_ _ _, by rw [ZG.out]; omega, Below.refl _ _⟩
 case round =>
  obtain ⟨k, v1, hk, rfl, e0, y0, e1, e2, y2, hrow, hNs, hb⟩ := hrel
  have HB := hid hb; have HRW := hid hrow
  clear hb hrow
  by_cases hlt : k < dims.length
  ·obtain ⟨b, off, AL, cL, rfl, hbl, d0, d1, rl⟩ := znT (zam.stays HD.out (BG.out.trans (HB.out.mono (by omega)))) hlt
   have ed : dims.take (k + 1) = dims.take k ++ [dims[k]] := List.take_succ_eq_append_getElem hlt
   have hln : k = (dims.take k).length := by rw [List.length_take]; omega
   have hdl := HDL.out _ (List.getElem_mem hlt)
   generalize dims[k] = d at *
   obtain ⟨nm, ls⟩ := d
   simp only at d0 d1 rl hdl ed
   obtain ⟨Wd, hWd⟩ : ∃ W, W = wr.alloc (.cells #[.string nm, .slice AL ls.length cL] 54) := ⟨_, rfl⟩
   have gd : Below wr.heap.size wr Wd := by rw [hWd]; exact bl1 _ _
   have zd : Wd.heap.size = wr.heap.size + 1 := by rw [hWd]; simp
   have w0 : Wd.cell? ⟨wr.heap.size, 0, none⟩ = some (.string nm) := by rw [hWd]; simp [go_sem]
   have w1 : Wd.cell? ⟨wr.heap.size, 1, none⟩ = some (.slice AL ls.length cL) := by rw [hWd]; simp [go_sem]
   have hb' : b < wr.heap.size := by omega
   obtain ⟨es, u1, u2, u3⟩ := HRW.out.on gd
   rw [<- hln] at u2
   obtain ⟨Ap, cp, rfl⟩ := zu u2
   have c0 := zc gd hNs e0; have c1' := zc gd hNs e1; have c2' := zc gd hNs e2; have x0 := zy gd hNs y0; have x2 := zy gd hNs y2
   have HCS := hid (fun W (hW : Qu Wd W) => zgx (.slice AL ls.length cL) ls W (zQ.on (zQ.more (zQ.stays rl (gd.mono (show H <= wr.heap.size by omega))) (show H <= Wd.heap.size by omega)) (hW.below _)) (by omega))
   have HLN := hid hln; have ED := hid ed; have U1 := hid u1; have U3 := hid u3; have HWd := hid hWd; have GD := hid gd; have C2 := hid c2'; have X2 := hid x2
   clear rl u1 u3 hln ed hWd gd e0 e1 e2 y0 y2 c2' x2
   go_upto_region 5 with (fail)
   rw [<- HWd.out]
   clear d0 d1
   go_region_law (first
    | (refine step_append_lies _ (by rfl) (.tmp 20) (.tmp 27) 22 (by rfl) (N + 1) 54 i0 (.agg #[.string ByteArray.empty, .slice none 0 0]) 2 40 Tryz.underlying22 hi hz0 hz1 hz2 rfl (by omega) _ k (es.flatMap dim2) (by rfl) ((zx u2 B5.out).alloc _) ⟨w5.heap.size, 0, none⟩ 1 1 [.string nm, .slice A5 ls.length c5] (by rfl) rfl (zcl _ _ _ rfl) (by simp; exact ⟨rfl, rfl⟩) (by omega) (by unfold maxLen; omega) (by omega) (by simp; omega) (w5.heap.size + 1) (by simp) ?_; intro g cap w6 ho6 hg6 hat6 hlt6; have m3 := (World.grownBy.cell_far hg6 ⟨N, 0, none⟩ (by simp; omega) (fun e => by have := (u2.lt _ e.symm).1; simp at this; omega)).trans (zv (by omega) k0); have m5 := (World.grownBy.frozen_far hg6 ⟨N, 0, none⟩ (by simp; omega) (fun e => by have := (u2.lt _ e.symm).1; simp at this; omega)).trans (zal (by omega) k2))
    | (go_simp; go_at_call 62; refine (HCS.out _ ⟨1, rfl⟩).mono ?_; rintro e w5 ⟨u5, rfl, hu5, hb5⟩; have HU5 := hid hu5; have B5 := hid ((Below.refl Wd.heap.size Wd).drew.trans hb5); have z5 := B5.out.size; obtain ⟨A5, c5, rfl, -, -, -⟩ := zl HU5.out; have k0 := zc B5.out (show N < Wd.heap.size by omega) c0; have k1 := zc B5.out (show N < Wd.heap.size by omega) c1'; have k2 := zy B5.out (show N < Wd.heap.size by omega) x0; have j0 := zc B5.out (show wr.heap.size < Wd.heap.size by omega) w0; have k4 := zv (o := .cells #[.string nm, .slice A5 ls.length c5] 54) (show N < w5.heap.size by omega) k0; clear hu5 hb5))
   all_goals
    have b6 : Below (N + 1) (w5.alloc (.cells #[.string nm, .slice A5 ls.length c5] 54)) w6 := (Below.refl _ _).grown hg6 (by simp; omega) (fun j hj => (u2.lt j hj).1)
    have hrow' := DRow.app (x := ((nm, ls), .slice A5 ls.length c5)) HLN.out U1.out ((zx u2 B5.out).alloc (.cells #[.string nm, .slice A5 ls.length c5] 54)) (fun y hy => (zx (U3.out y hy) B5.out).alloc _) ((zw HU5.out (show N + 1 <= Wd.drew.heap.size by show N + 1 <= Wd.heap.size; omega)).alloc _) ho6 hg6
    rw [<- ED.out] at hrow'
    have m6 := zc b6 (show N < N + 1 by omega) (zv (o := .cells #[.string nm, .slice A5 ls.length c5] 54) (show N < w5.heap.size by omega) k1)
    have m7 := zc b6 (show N < N + 1 by omega) (zv (o := .cells #[.string nm, .slice A5 ls.length c5] 54) (show N < w5.heap.size by omega) (zc B5.out (show N < Wd.heap.size by omega) C2.out))
    have m8 := zy b6 (show N < N + 1 by omega) (zal (o := .cells #[.string nm, .slice A5 ls.length c5] 54) (show N < w5.heap.size by omega) (zy B5.out (show N < Wd.heap.size by omega) X2.out))
    have z6 := b6.size
    rw [World.size_alloc] at z6
    have hnx : OdRel dims N (.slice Au ms.length cu) Wg (.int .i64 ((k : Int) + 1)) (w6.setCell ⟨N, 0, none⟩ (.slice (some ⟨g, 0, none⟩) (k + 1) cap)) :=
     ⟨k + 1, _, by omega, by go_num, zt m3, frozen_far m5, zb (by omega) m6, zb (by omega) m7, frozen_far m8, hrow'.keepT (zR (by omega)) (zR (by omega)), by simp [World.setCell]; omega,
      (HB.out.trans ((GD.out.mono (show N <= wr.heap.size by omega)).trans ((B5.out.mono (show N <= Wd.heap.size by omega)).trans ((((Below.refl N w5).alloc (by omega) _).trans (b6.mono (by omega))))))).setCell (Nat.le_refl _) _⟩
    have HNX := hid hnx
    clear ho6 hg6 hat6 hlt6 b6 hrow' hnx u2 m3 m5 m6 m7 m8 k0 k1 k2 j0 k4 c0 c1' x0 w0 w1
    go_wp2
    go_roundw
    case rel => exact HNX.out
    case measure => simp [intOf]; omega
  ·obtain rfl : k = dims.length := by omega
   have hfin := HRW.out
   rw [List.take_length] at hfin
   have HRD := hid hfin
   have c2' := zc HB.out (show H < N by omega) Q2.out
   have E0 := hid e0; have E1 := hid e1; have E2 := hid e2; have Y2 := hid y2
   obtain ⟨W5, hW5⟩ : ∃ W, W = wr := ⟨_, rfl⟩
   rw [<- hW5] at HRD E0 E1 E2 Y2 HB hNs c2' ⊢
   clear hfin HRW e0 e1 e2 y0 y2 hW5
   go_wp2
   go_loopw [34] (fun i wr => OvRel dims vs N v1 (.slice Au ms.length cu) Wg i wr) (fun i _ => vs.length - (intOf i).toNat)
   case atStart => exact ⟨0, _, by omega, rfl, E0.out, E1.out, E2.out, Y2.out, HRD.out, RowI.nil_ _ _, hNs, HB.out⟩
   case round =>
    obtain ⟨k, v3, hk, rfl, e0, e1, e2, y2, hdr, hrow, hNs, hb⟩ := hrel
    have HB := hid hb; have HRW := hid hrow; have HDR := hid hdr
    clear hb hrow hdr
    by_cases hlt : k < vs.length
    ·obtain ⟨b, off, AL, cL, rfl, hbl, d0, rl⟩ := zdb (zaw.stays H3.out (BG.out.trans (HB.out.mono (by omega)))) hlt
     have ed : vs.take (k + 1) = vs.take k ++ [vs[k]] := List.take_succ_eq_append_getElem hlt
     have hln : k = (vs.take k).length := by rw [List.length_take]; omega
     have hdl := H2.out _ (List.getElem_mem hlt)
     generalize vs[k] = ls at *
     obtain ⟨us, u1, u2, u3⟩ := HRW.out
     rw [<- hln] at u2
     obtain ⟨Ap, cp, rfl⟩ := zu u2
     have HCS := hid (fun W (hW : Qu wr W) => zeg (.slice AL ls.length cL) ls W (zm.on (zm.more rl (show H <= wr.heap.size by omega)) (hW.below _)) (by omega))
     have HLN := hid hln; have ED := hid ed; have U1 := hid u1; have U3 := hid u3; have C0 := hid e0; have C1 := hid e1
     clear rl u3 hln ed e0 e1
     go_upto_region 10 with (fail)
     go_region_law (first
      | (refine step_append_lies _ (by rfl) (.tmp 39) (.tmp 42) 24 (by rfl) (N + 1) 27 i1 (.slice none 0 0) 1 24 Tryz.underlying24 hi' hz0' hz1' hz2' rfl (by omega) _ k us (by rfl) ((zx u2 B5.out).alloc _) ⟨w5.heap.size, 0, none⟩ 1 1 _ (by rfl) rfl (zG _ _ _ rfl) (by simp; rfl) (by omega) (by unfold maxLen; omega) (by omega) (by simp; omega) (w5.heap.size + 1) (by simp) ?_; intro g cap w6 ho6 hg6 hat6 hlt6; have m3 := (World.grownBy.cell_far hg6 ⟨N, 2, none⟩ (by simp; omega) (fun e => by have := (u2.lt _ e.symm).1; simp at this; omega)).trans (zv (by omega) k0); have m5 := (World.grownBy.frozen_far hg6 ⟨N, 2, none⟩ (by simp; omega) (fun e => by have := (u2.lt _ e.symm).1; simp at this; omega)).trans (zal (by omega) k2))
      | (go_simp; go_at_call 34; refine (HCS.out _ ⟨1, rfl⟩).mono ?_; rintro e w5 ⟨u5, rfl, hu5, hb5⟩; have HU5 := hid hu5; have B5 := hid ((Below.refl wr.heap.size wr).drew.trans hb5); have z5 := B5.out.size; obtain ⟨A5, c5, rfl, -, -, -⟩ := zl HU5.out; have k0 := zc B5.out hNs e2; have k2 := zy B5.out hNs y2; have k4 := zv (o := .cells #[.slice A5 ls.length c5] 27) (show N < w5.heap.size by omega) k0; clear hu5 hb5))
     all_goals
      have b6 : Below (N + 1) (w5.alloc (.cells #[.slice A5 ls.length c5] 27)) w6 := (Below.refl _ _).grown hg6 (by simp; omega) (fun j hj => (u2.lt j hj).1)
      have hrow' := RowI.app_n HLN.out U1.out ((zx u2 B5.out).alloc (.cells #[.slice A5 ls.length c5] 27)) (fun j hj => (zx (U3.out j hj) B5.out).alloc _) ((zw HU5.out (show N + 1 <= wr.drew.heap.size by show N + 1 <= wr.heap.size; omega)).alloc _) ho6 hg6
      rw [<- ED.out] at hrow'
      have hdr' : DRow w6 (N + 1) v1 dims := (HDR.out.on (B5.out.trans (((Below.refl wr.heap.size w5).alloc (by omega) (.cells #[.slice A5 ls.length c5] 27))))).keepT (zac.of_grown hg6 ((zx u2 B5.out).alloc (.cells #[.slice A5 ls.length c5] 27)) (by decide)) (zac.of_grown hg6 ((zx u2 B5.out).alloc (.cells #[.slice A5 ls.length c5] 27)) (by decide))
      have m6 := zc b6 (show N < N + 1 by omega) (zv (o := .cells #[.slice A5 ls.length c5] 27) (show N < w5.heap.size by omega) (zc B5.out hNs C0.out))
      have m7 := zc b6 (show N < N + 1 by omega) (zv (o := .cells #[.slice A5 ls.length c5] 27) (show N < w5.heap.size by omega) (zc B5.out hNs C1.out))
      have z6 := b6.size
      rw [World.size_alloc] at z6
      have hnx : OvRel dims vs N v1 (.slice Au ms.length cu) Wg (.int .i64 ((k : Int) + 1)) (w6.setCell ⟨N, 2, none⟩ (.slice (some ⟨g, 0, none⟩) (k + 1) cap)) :=
       ⟨k + 1, _, by omega, by go_num, zb (by omega) m6, zb (by omega) m7, zt m3, frozen_far m5, hdr'.keepT (zR (by omega)) (zR (by omega)), hrow'.keepT (fun _ => zR (by omega)), by simp [World.setCell]; omega,
        (HB.out.trans ((B5.out.mono (show N <= wr.heap.size by omega)).trans ((((Below.refl N w5).alloc (by omega) _).trans (b6.mono (by omega)))))).setCell (Nat.le_refl _) _⟩
      have HNX := hid hnx
      clear ho6 hg6 hat6 hlt6 b6 hrow' hnx u2 m3 m5 m6 m7 k0 k2 k4 e2 y2 hdr'
      go_wp2
      go_roundw
      case rel => exact HNX.out
      case measure => simp [intOf]; omega
    ·obtain rfl : k = vs.length := by omega
     have hfin := HRW.out
     rw [List.take_length] at hfin
     have HRI := hid hfin
     obtain ⟨es, g1, g2, -⟩ := id HDR.out
     obtain ⟨Ad, cd, rfl⟩ := zu g2
     obtain ⟨us, g3, g4, -⟩ := id hfin
     obtain ⟨Av, cv, rfl⟩ := zu g4
     clear hfin HRW g1 g2 g3 g4
     have p0 := zc HB.out (show H + 1 < N by omega) P.out.1; have p1 := zc HB.out (show H + 1 < N by omega) P.out.2.1; have p2 := zc HB.out (show H + 1 < N by omega) P.out.2.2
     have f0 := zy HB.out (show H + 1 < N by omega) F.out.1; have f1 := zy HB.out (show H + 1 < N by omega) F.out.2.1; have f2 := zy HB.out (show H + 1 < N by omega) F.out.2.2
     go_wp2
     obtain ⟨W8, hW8⟩ : ∃ W, W = ((wr.setCell ⟨H + 1, 0, none⟩ (.slice Ad dims.length cd)).setCell ⟨H + 1, 1, none⟩ (.slice Au ms.length cu)).setCell ⟨H + 1, 2, none⟩ (.slice Av vs.length cv) := ⟨_, rfl⟩
     rw [<- hW8]
     have s0 : W8.cell? ⟨H + 1, 0, none⟩ = some (.slice Ad dims.length cd) := by rw [hW8]; exact zb (by omega) (zb (by omega) (zt p0))
     have s1 : W8.cell? ⟨H + 1, 1, none⟩ = some (.slice Au ms.length cu) := by rw [hW8]; exact zb (by omega) (zt (zb (by omega) p1))
     have s2 : W8.cell? ⟨H + 1, 2, none⟩ = some (.slice Av vs.length cv) := by rw [hW8]; exact zt (zb (by omega) (zb (by omega) p2))
     have b8 : Below H w W8 := by
      rw [hW8]
      exact ((((BG.out.trans (HB.out.mono (show H <= N by omega))).setCell (show H <= H + 1 by omega) _).setCell (show H <= H + 1 by omega) _).setCell (show H <= H + 1 by omega) _)
     have r1 : DRow W8 (N + 1) (.slice Ad dims.length cd) dims := by
      rw [hW8]
      exact ((HDR.out.keepT (zR (by omega)) (zR (by omega))).keepT (zR (by omega)) (zR (by omega))).keepT (zR (by omega)) (zR (by omega))
     have r3 : RowI W8 (N + 1) (.slice Av vs.length cv) vs := by
      rw [hW8]
      exact ((HRI.out.keepT (fun _ => zR (by omega))).keepT (fun _ => zR (by omega))).keepT (fun _ => zR (by omega))
     have r2 : W8.ownsRow H 9 1 (.slice Au ms.length cu) ms.length (zL ms) := by
      refine zo HU.out (fun g hg => ?_)
      have hgN := HUN.out g hg
      have hge := (HU.out.lt g hg).1
      have hne := HUNE.out g hg
      rw [hW8]
      exact (Below.heap_setCell _ _ _ g (by simp; omega)).trans ((Below.heap_setCell _ _ _ g (by simp; omega)).trans ((Below.heap_setCell _ _ _ g (by simp; omega)).trans (HB.out.block g hgN)))
     refine bodyPost_ret (v := .agg #[.slice Ad dims.length cd, .slice Au ms.length cu, .slice Av vs.length cv]) ?_ rfl ?_
     ·simp [results, Tryz.results41, go_sem, s0, s1, s2]
     ·exact ⟨_, _, _, _, _, _, rfl, ⟨r1.less (by omega), r2, r3.less (by omega)⟩, b8⟩
end Go.Proofs.YtgoapnkdcfcjgaaGreat
namespace Go.Proofs.YtgoapnkdcfcjgaaGreat
open Go.ChangeShapes Go.WideShapes Go.ChangeAt Go.RowKit
theorem zjU {w : World} {B : Nat} {v : Value} {l : List DimX} (h : zj 2 zee w B [v] l) : ∀ d ∈ l, d.1.size <= maxLen /\ d.2.length <= 9223372036854775807 := by
 intro d hd
 obtain ⟨i, hi, rfl⟩ := List.mem_iff_getElem.1 hd
 obtain ⟨A, c, e, -, -⟩ := h.open_
 rw [e] at h
 obtain ⟨b, off, -, -, es, -, -, hl1, ⟨-, hs⟩, hlv⟩ := h.at_ hi
 obtain ⟨AL, cL, -, hL1, hL2⟩ := hlv.open_
 exact ⟨hs, by omega⟩
theorem zjA {w : World} {B : Nat} {v : Value} {s : ze} (h : zj 2 zee w B [v] s.1) : ∀ x ∈ zV s, za4 x := by
 intro x hx
 unfold zV at hx
 obtain ⟨d, hd, rfl⟩ := List.mem_map.1 hx
 have := (zjU h d hd).2
 unfold za4; omega
set_option maxRecDepth 100000 in
set_option maxHeartbeats 800000 in
theorem zmm (v x : Value) (l r : List Int) (w : World) (hv : zC w w.heap.size [v] l) (hx : zC w w.heap.size [x] r) :
  Calls Tryz.prog 60 #[v, x] w (za5 (.bool (decide (l = r))) w) := by
 obtain ⟨A1, c1, e, hc1, hm1⟩ := hv.open_
 simp only [List.cons.injEq, and_true] at e
 subst e
 obtain ⟨A2, c2, e, hc2, hm2⟩ := hx.open_
 simp only [List.cons.injEq, and_true] at e
 subst e
 have S1 := hid hv; have S2 := hid hx; clear hv hx
 have hdec : l ≠ r -> decide (l = r) = false := fun h => decide_eq_false h
 have hyes : l = r -> decide (l = r) = true := fun h => decide_eq_true h
 generalize decide (l = r) = res at *
 have HD := hid hdec; have HY := hid hyes; clear hdec hyes
 go_enter Tryz.func60, Tryz.ntmps60
 by_cases hl : l.length = r.length
 ·have HL := hid hl
  have u0 : ((l.length : Int) != (r.length : Int)) = false := by simp [hl]
  clear hl
  go_wp2
  go_loopw [13] (fun i wr => zj6 l r w i wr) (fun i _ => l.length - (intOf i).toNat)
  case atStart => exact ⟨0, by omega, rfl, rfl, Qu.refl _⟩
  case round =>
   obtain ⟨k, hk, rfl, hsame, hq⟩ := hrel
   have HS := hid hsame; clear hsame
   by_cases hlt : k < l.length
   ·have hlt' : k < r.length := by have := HL.out; omega
    obtain ⟨b1, o1, rfl, hb1, hx1, -⟩ := zbW S1.out hlt
    obtain ⟨b2, o2, rfl, hb2, hx2, -⟩ := zbW S2.out hlt'
    have g1 : wr.cell? ⟨b1, o1 + k, none⟩ = _ := (hq.cell _).trans hx1
    have g2 : wr.cell? ⟨b2, o2 + k, none⟩ = _ := (hq.cell _).trans hx2
    clear hx1 hx2
    have e1 : l.take (k + 1) = l.take k ++ [l[k]] := List.take_succ_eq_append_getElem hlt
    have e2 : r.take (k + 1) = r.take k ++ [r[k]] := List.take_succ_eq_append_getElem hlt'
    have hgn : l[k] ≠ r[k] -> l ≠ r := fun h h' => h (by subst h'; rfl)
    generalize l[k] = p1 at *
    generalize r[k] = p2 at *
    by_cases he : p1 = p2
    ·subst he
     have hs' : l.take (k + 1) = r.take (k + 1) := by rw [e1, e2, HS.out]
     have t2 : (p1 != p1) = false := by simp
     have HS' := hid hs'; clear e1 e2 hs' hgn
     go_wp2
     go_quiet (fail)
     go_wp2
     go_roundw
     case rel => exact ⟨k + 1, by omega, by go_num, HS'.out, hq.drewN _⟩
     case measure => simp [intOf]; omega
    ·have hn := HD.out (hgn he)
     have t2 : (p1 != p2) = true := by simpa using he
     have HN := hid hn; clear e1 e2 hgn hn he
     go_wp2
     go_quiet (fail)
     go_wp2
     go_ret
     exact ⟨by rw [HN.out]; rfl, hq.drewN _⟩
   ·have he1 : l = r := by
     have := HS.out
     rwa [List.take_of_length_le (by omega), List.take_of_length_le (by have := HL.out; omega)] at this
    have hn := HY.out he1
    have HN := hid hn; clear he1 HS hn
    go_wp2
    go_ret
    exact ⟨by rw [HN.out]; rfl, hq⟩
 ·have u0 : ((l.length : Int) != (r.length : Int)) = true := by simp; omega
  have hn := HD.out (fun e => hl (by rw [e]))
  have HN := hid hn
  clear hl hn
  go_wp2
  go_ret
  exact ⟨by rw [HN.out]; rfl, Qu.refl _⟩
theorem zhf (x : Int) (w : World) : Calls Tryz.prog 85 #[.int .i64 x] w (zY (.bool (decide (x < 0))) w) := by
 go_enter Tryz.func85, Tryz.ntmps85
 go_wp2
 go_ret
 exact ⟨rfl, Below.refl _ _⟩
theorem zeH : zbg 85 := za8 Tryz.func85 (by kernel_rfl) rfl
theorem zlY (v : Value) (l : List Int) (w : World) (hv : zC w w.heap.size [v] l) :
  Calls Tryz.prog 80 #[v, .func (Fn.func 85) #[] #[]] w (zY (.bool (l.any fun n => decide (n < 0))) w) :=
 zgM 85 #[] (fun n => decide (n < 0)) v l w hv zm zeH (fun x u W hx hr hb => by
  obtain ⟨e, hs⟩ := hr
  simp only [List.cons.injEq, and_true] at e
  subst e
  exact zhf x W)
set_option maxHeartbeats 800000 in
theorem zgv (v x : Value) (s : ze) (l : List Int) (w : World) (hv : zD w w.heap.size v s) (hl : s.1.length <= 1000) (hx : zC w w.heap.size [x] l) :
  Calls Tryz.prog 53 #[v, x] w (zY (.bool (zap s l)) w) := by
 have hv0 := hv
 obtain ⟨A1, c1, A2, c2, A3, c3, rfl, h1, h2, h3⟩ := hv
 have hin := zjA h1
 have HBS := hid (fun W (hb : Below w.heap.size w W) => zg1 _ s W (hv0.on hb) hl)
 have HX := hid (fun W (hb : Below w.heap.size w W) => zm.on hx hb)
 have HIN := hid hin
 unfold zap
 clear hv0 h1 h2 h3 hx hin
 generalize zV s = bs at *
 have HCV := hid (fun (r : Value) (W : World) (hr : zC W W.heap.size [r] bs) (hb : Below w.heap.size w W) => zgl r x bs l W hr (HX.out W hb))
 have HNG := hid (fun (W : World) (hb : Below w.heap.size w W) => zlY x l W (HX.out W hb))
 clear HX
 generalize zak bs l = cv at *
 generalize (l.any fun n => decide (n < 0)) = ng at *
 go_enter Tryz.func53, Tryz.ntmps53
 go_wp2_with fail
 refine (HBS.out _ zI).mono ?_
 rintro e w1 ⟨r, rfl, hown, hb1⟩
 have HB1 := hid (show Below w.heap.size w w1 from ((bl1 w _).trans (hb1.mono (by simp))))
 have HR := hid (zaA rfl hown HIN.out)
 clear hown hb1
 go_wp2_with fail
 refine (HCV.out _ _ HR.out HB1.out).mono ?_
 rintro e w2 ⟨rfl, hq⟩
 have HB2 := hid (HB1.out.trans (hq.below _))
 clear hq
 cases cv
 ·go_wp2
  go_ret
  exact ⟨rfl, HB2.out⟩
 ·go_wp2_with fail
  refine (HNG.out _ HB2.out).mono ?_
  rintro e w3 ⟨rfl, hb3⟩
  have HB3 := hid (HB2.out.trans (hb3.mono HB2.out.size))
  clear hb3
  go_wp2
  go_ret
  exact ⟨rfl, HB3.out⟩
set_option maxRecDepth 100000 in
set_option maxHeartbeats 800000 in
theorem zo0 (F : FuncId) (caps : Array Value) (p : (List Int) -> Bool) (v : Value) (l : List (List Int)) (w : World) (hv : zj 1 (zj 1 zcG) w w.heap.size [v] l) (hg : Good (zj 1 (zj 1 zcG))) (hE : zbg F) (hF : zhJ (zj 1 zcG) F caps p l w) :
  Calls Tryz.prog 91 #[v, .func (Fn.func F) #[] caps] w (IdxG p l w) := by
 obtain ⟨A, c, e0, hc1, hc2, -⟩ := id hv
 obtain rfl : v = .slice A l.length c := by simpa using e0
 unfold maxLen at hc2
 have HV := hid hv; have HF := hid hF
 clear hv hF e0
 go_enter Tryz.func91, Tryz.ntmps91
 go_wp2
 go_loopw [8] (fun i wr => ze9 p l w i wr) (fun i _ => l.length - (intOf i).toNat)
 case atStart => exact ⟨0, by omega, rfl, by simp, Below.refl _ _⟩
 case round =>
  obtain ⟨k, hk, rfl, hall, hb⟩ := hrel
  have HALL := hid hall; have HB := hid hb
  have hs := hb.size
  clear hall hb
  by_cases hlt : k < l.length
  ·obtain ⟨b, off, rfl, hbl, es, hel, hcell, hr⟩ := (hg.stays HV.out HB.out).at_ hlt
   obtain ⟨u, rfl⟩ := List.length_eq_one_iff.1 hel
   have hcell := hcell 0 u rfl
   rw [Nat.mul_one, Nat.add_zero] at hcell
   have hin : l[k] ∈ l := List.getElem_mem hlt
   have e1 := zbm (p := p) hlt
   have e2 := zcF (p := p) hlt
   have hr := (zas zcW).more hr hs
   generalize l[k] = x at *
   have HC := hid (HF.out x u wr hin hr HB.out)
   have E1 := hid e1; have E2 := hid e2
   clear e1 e2 hr hel hin
   go_wp2_with fail
   rw [hE]
   refine HC.out.mono ?_
   rintro e w1 ⟨rfl, hb1⟩
   have HB1 := hid (HB.out.trans (hb1.mono hs)); clear hb1
   cases hp : p x with
   | false =>
     have HP := hid hp; clear hp
     go_wp2
     go_roundw
     case rel => exact ⟨k + 1, by omega, by go_num, by rw [E1.out, HALL.out, HP.out]; rfl, HB1.out⟩
     case measure => simp [intOf]; omega
   | true =>
     have HP := hid (E2.out hp); clear hp
     go_wp2
     go_ret
     exact ⟨(k : Int), rfl, by rw [HP.out]; simp, HB1.out⟩
  ·have hall : l.any p = false := by
    have := HALL.out
    rwa [List.take_of_length_le (by omega)] at this
   have HP := hid hall; clear hall
   go_wp2
   go_ret
   exact ⟨-1, rfl, by rw [HP.out]; decide, HB.out⟩
theorem zpc (F : FuncId) (caps : Array Value) (p : (List Int) -> Bool) (v : Value) (l : List (List Int)) (w : World) (hv : zj 1 (zj 1 zcG) w w.heap.size [v] l) (hg : Good (zj 1 (zj 1 zcG))) (hE : zbg F) (hF : zhJ (zj 1 zcG) F caps p l w) :
  Calls Tryz.prog 61 #[v, .func (Fn.func F) #[] caps] w (zY (.bool (l.any p)) w) := by
 have HI := hid (zo0 F caps p v l w hv hg hE hF)
 clear hv hF
 go_enter Tryz.func61, Tryz.ntmps61
 go_wp2_with fail
 refine HI.out.mono ?_
 rintro e w1 ⟨i, rfl, hi, hb⟩
 go_wp2
 go_ret
 exact ⟨rfl, hb⟩
end Go.Proofs.YtgoapnkdcfcjgaaGreat
