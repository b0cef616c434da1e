/- 3 texts of this claim, in build order. -/
import Derived.Test.YtgoapnkdcfcjgaaGreatPlmoakpjd
import Derived.Test.YtgoapnkdcfcjgaaGreatPplomcpim
import Derived.Test.YtgoapnkdcfcjgaaGreatPcmncjimi
import Derived.Test.YtgoapnkdcfcjgaaGreatPflgpgfja
import Derived.Defers
import Derived.Deep.RegionLaw
set_option linter.unusedVariables false
set_option linter.unusedSimpArgs false
namespace Go.Proofs.YtgoapnkdcfcjgaaGreat
open Go.ChangeShapes Go.WideShapes Go.ChangeAt Go.RowKit
def zc6 (s : ze) (f : zq) (i : Nat) : Bool := decide ((f.1.getD i []).length = (s.1.getD i (⟨#[]⟩, [])).2.length)
theorem zkJ {s : ze} {f : zq} {i : Nat} (h1 : i < f.1.length) (h2 : i < s.1.length) : zc6 s f i = decide (f.1[i].length = s.1[i].2.length) := by
 unfold zc6
 rw [List.getD_eq_getElem?_getD, List.getElem?_eq_getElem h1, List.getD_eq_getElem?_getD, List.getElem?_eq_getElem h2]; rfl
theorem ziI {p : Nat -> Bool} {n : Nat} : (List.range n).all p = true ↔ ∀ i, i < n -> p i = true := by
 rw [List.all_eq_true]
 exact ⟨fun h i hi => h i (List.mem_range.2 hi), fun h i hi => h i (List.mem_range.1 hi)⟩
theorem zkQ {p : Nat -> Bool} {n i : Nat} (hi : i < n) (h : p i = false) : (List.range n).all p = false :=
 List.all_eq_false.2 ⟨i, List.mem_range.2 hi, by rw [h]; simp⟩
def FtRel (s : ze) (f : zq) (W0 : World) (i : Value) (wr : World) : Prop := ∃ k : Nat, k <= f.1.length /\ i = .int .i64 k /\ (∀ j, j < k -> zc6 s f j = true) /\ Below W0.heap.size W0 wr
set_option maxRecDepth 100000 in
set_option maxHeartbeats 1600000 in
theorem zpd (v x : Value) (s : ze) (f : zq) (w : World) (hv : zD w w.heap.size v s) (hx : zdu w w.heap.size x f) :
  Calls Tryz.prog 65 #[v, x] w (zY (.bool (zaC s f)) w) := by
 have hx0 := hx
 obtain ⟨A1, c1, A2, c2, A3, c3, rfl, h1, h2, h3⟩ := hv
 obtain ⟨X1, d1, X2, d2, rfl, g1, g2⟩ := hx
 obtain ⟨hc1, hm1⟩ := h1.cap
 obtain ⟨hd1, hn1⟩ := g1.cap
 obtain ⟨W0, hW0⟩ : ∃ W, W = (w.alloc (.cells #[.slice A1 s.1.length c1, .slice A2 s.2.1.length c2, .slice A3 s.2.2.length c3] 26)).alloc (.cells #[.slice X1 f.1.length d1, .slice X2 f.2.length d2] 60) := ⟨_, rfl⟩
 have g0 : Below w.heap.size w W0 := by rw [hW0]; exact (bl1 w _).alloc (by simp) _
 have z0 : W0.heap.size = w.heap.size + 1 + 1 := by rw [hW0]; simp
 have y0 : W0.cell? ⟨w.heap.size, 0, none⟩ = some (.slice A1 s.1.length c1) := by rw [hW0]; simp [go_sem]
 have y1 : W0.cell? ⟨w.heap.size, 1, none⟩ = some (.slice A2 s.2.1.length c2) := by rw [hW0]; simp [go_sem]
 have y3 : W0.cell? ⟨w.heap.size + 1, 0, none⟩ = some (.slice X1 f.1.length d1) := by rw [hW0]; simp [go_sem]
 have y4 : W0.cell? ⟨w.heap.size + 1, 1, none⟩ = some (.slice X2 f.2.length d2) := by rw [hW0]; simp [go_sem]
 have HW0 := hid hW0
 have G0 := hid g0; have Y0 := hid y0; have Y1 := hid y1; have Y3 := hid y3; have Y4 := hid y4
 have HPL := hid (zjx _ f W0 (hx0.on g0))
 have H1 := hid (zam.on h1 g0)
 have HQ1 := hid (zB.on g1 g0)
 have hres : zaC s f = ((zbl f && decide (f.1.length = s.1.length) && decide (f.2.length = s.2.1.length)) && (List.range f.1.length).all (zc6 s f)) := rfl
 generalize zbl f = bP at *
 generalize zaC s f = res at *
 have HRES := hid hres
 clear hW0 g0 y0 y1 h1 h2 h3 g1 g2 hx0 hres
 go_enter Tryz.func65, Tryz.ntmps65
 go_wp2_with fail
 rw [<- HW0.out]
 refine HPL.out.mono ?_
 rintro e w1 ⟨rfl, hb1⟩
 have HB1 := hid hb1; clear hb1
 have k0 := zc HB1.out (by omega) Y0.out
 have k1 := zc HB1.out (by omega) Y1.out
 have k3 := zc HB1.out (by omega) Y3.out
 have k4 := zc HB1.out (by omega) Y4.out
 cases bP
 ·have HN := hid (show res = false by rw [HRES.out]; rfl)
  go_wp2
  go_ret
  exact ⟨by rw [HN.out]; rfl, G0.out.trans (HB1.out.mono (by omega))⟩
 ·by_cases l1 : f.1.length = s.1.length
  case neg =>
   have t1 : ((f.1.length : Int) != (s.1.length : Int)) = true := by simp; omega
   have HN := hid (show res = false by rw [HRES.out, decide_eq_false l1]; rfl)
   clear l1
   go_wp2
   go_ret
   exact ⟨by rw [HN.out]; rfl, G0.out.trans (HB1.out.mono (by omega))⟩
  case pos =>
  have t1 : ((f.1.length : Int) != (s.1.length : Int)) = false := by simp [l1]
  by_cases l2 : f.2.length = s.2.1.length
  case neg =>
   have t2 : ((f.2.length : Int) != (s.2.1.length : Int)) = true := by simp; omega
   have HN := hid (show res = false by rw [HRES.out, decide_eq_false l2]; simp)
   clear l1 l2
   go_wp2
   go_ret
   exact ⟨by rw [HN.out]; rfl, G0.out.trans (HB1.out.mono (by omega))⟩
  case pos =>
  have t2 : ((f.2.length : Int) != (s.2.1.length : Int)) = false := by simp [l2]
  have HR := hid (show res = (List.range f.1.length).all (zc6 s f) by rw [HRES.out, decide_eq_true l1, decide_eq_true l2]; simp)
  have HL := hid l1
  clear l1 l2
  go_wp2
  go_loopw [31] (fun i wr => FtRel s f W0 i wr) (fun i _ => f.1.length - (intOf i).toNat)
  case atStart => exact ⟨0, by omega, rfl, fun j h => by omega, HB1.out⟩
  case round =>
   clear k0 k1 k3 k4
   obtain ⟨k, hk, rfl, hall, hb⟩ := hrel
   have HB := hid hb; have HALL := hid hall
   have k0 := zc hb (by omega) Y0.out
   clear hb hall
   by_cases hlt : k < f.1.length
   ·have hlt2 : k < s.1.length := by have := HL.out; omega
    obtain ⟨b1, o1, AP, cP, rfl, hb1, hc1', -⟩ := zbt HQ1.out hlt
    obtain ⟨b2, o2, AL, cL, rfl, hb2, -, hc2', -, -⟩ := zfh H1.out hlt2
    have m1 := zc HB.out hb1 hc1'
    have m2 := zc HB.out hb2 hc2'
    have hst : zc6 s f k = true -> ∀ j, j < k + 1 -> zc6 s f j = true := fun h j hj => by
     by_cases e : j = k
     ·subst e; exact h
     ·exact HALL.out j (by omega)
    have hno : zc6 s f k = false -> (List.range f.1.length).all (zc6 s f) = false := fun h => zkQ hlt h
    rw [zkJ hlt hlt2] at hst hno
    generalize f.1[k].length = n1 at *
    generalize s.1[k].2.length = n2 at *
    have HST := hid hst; have HNO := hid hno
    clear hst hno hc1' hc2'
    by_cases he : n1 = n2
    ·have t3 : ((n1 : Int) != (n2 : Int)) = false := by simp [he]
     have HS := hid (HST.out (decide_eq_true he))
     clear he
     go_wp2
     go_roundw
     case rel => exact ⟨k + 1, by omega, by go_num, HS.out, HB.out⟩
     case measure => simp [intOf]; omega
    ·have t3 : ((n1 : Int) != (n2 : Int)) = true := by simp; omega
     have HN := hid (show res = false by rw [HR.out, HNO.out (decide_eq_false he)])
     clear he
     go_wp2
     go_ret
     exact ⟨by rw [HN.out]; rfl, G0.out.trans (HB.out.mono (by omega))⟩
   ·have HN := hid (show res = true by rw [HR.out]; exact ziI.2 (fun i hi => HALL.out i (by omega)))
    go_wp2
    go_ret
    exact ⟨by rw [HN.out]; rfl, G0.out.trans (HB.out.mono (by omega))⟩
theorem zjV (x : Value) (A1 A2 A3 : Value) (b : Nat) (s : ze) (f : zq) (w : World) (h0 : w.cell? ⟨b, 0, none⟩ = some A1) (h1 : w.cell? ⟨b, 1, none⟩ = some A2) (h2 : w.cell? ⟨b, 2, none⟩ = some A3)
  (hv : zD w w.heap.size (.agg #[A1, A2, A3]) s) (hx : zdu w w.heap.size x f) :
  Calls Tryz.prog 64 #[x, .pointer (some ⟨b, 0, none⟩)] w (zY (.bool (!zaC s f)) w) := by
 have hx0 := hx
 obtain ⟨X1, d1, X2, d2, rfl, -, -⟩ := hx
 have hb : b < w.heap.size := World.block_lt_of_cell? w _ h0
 obtain ⟨W0, hW0⟩ : ∃ W, W = w.alloc (.cells #[.slice X1 f.1.length d1, .slice X2 f.2.length d2] 60) := ⟨_, rfl⟩
 have g0 : Below w.heap.size w W0 := by rw [hW0]; exact bl1 _ _
 have k0 := zc g0 hb h0
 have k1 := zc g0 hb h1
 have k2 := zc g0 hb h2
 have y0 : W0.cell? ⟨w.heap.size, 0, none⟩ = some (.slice X1 f.1.length d1) := by rw [hW0]; simp [go_sem]
 have y1 : W0.cell? ⟨w.heap.size, 1, none⟩ = some (.slice X2 f.2.length d2) := by rw [hW0]; simp [go_sem]
 have HF := hid (zpd _ _ s f W0 (hv.on g0) (hx0.on g0))
 have HW0 := hid hW0; have G0 := hid g0
 rw [hW0] at k0 k1 k2 y0 y1
 clear hv hx0 h0 h1 h2 hW0 g0
 go_enter Tryz.func64, Tryz.ntmps64
 go_wp2_with fail
 rw [<- HW0.out]
 refine HF.out.mono ?_
 rintro e w1 ⟨rfl, hb1⟩
 go_wp2
 go_ret
 exact ⟨rfl, G0.out.trans (hb1.mono G0.out.size)⟩
theorem zf1 : zbg 64 := za8 Tryz.func64 (by kernel_rfl) rfl
set_option maxRecDepth 100000 in
set_option maxHeartbeats 1600000 in
theorem ziw (v x : Value) (s : ze) (l : List zq) (w : World) (hv : zD w w.heap.size v s) (hl : s.1.length <= 1000) (hx : zj 2 za7 w w.heap.size [x] l) :
  Calls Tryz.prog 44 #[v, x] w (zY (.int .i64 (zbe s l)) w) := by
 have hv0 := hv
 obtain ⟨A1, c1, A2, c2, A3, c3, rfl, h1, h2, h3⟩ := hv
 obtain ⟨X, d, e, hc, hm⟩ := hx.open_
 simp only [List.cons.injEq, and_true] at e
 subst e
 obtain ⟨W0, hW0⟩ : ∃ W, W = w.alloc (.cells #[.slice A1 s.1.length c1, .slice A2 s.2.1.length c2, .slice A3 s.2.2.length c3] 26) := ⟨_, rfl⟩
 have g0 : Below w.heap.size w W0 := by rw [hW0]; exact bl1 _ _
 have z0 : W0.heap.size = w.heap.size + 1 := by rw [hW0]; simp
 have y0 : W0.cell? ⟨w.heap.size, 0, none⟩ = some (.slice A1 s.1.length c1) := by rw [hW0]; simp [go_sem]
 have y1 : W0.cell? ⟨w.heap.size, 1, none⟩ = some (.slice A2 s.2.1.length c2) := by rw [hW0]; simp [go_sem]
 have y2 : W0.cell? ⟨w.heap.size, 2, none⟩ = some (.slice A3 s.2.2.length c3) := by rw [hW0]; simp [go_sem]
 have HW0 := hid hW0
 have G0 := hid g0; have Y0 := hid y0; have Y1 := hid y1; have Y2 := hid y2
 have HSV := hid (hv0.on g0)
 have HSM := hid (zbF _ s W0 (hv0.on g0) hl)
 have HX := hid (zab.on hx g0)
 have HHF := hid (fun W (hb : Below W0.heap.size W0 W) => zoX 64 #[.pointer (some ⟨w.heap.size, 0, none⟩)] (fun f => !zaC s f) (.slice X l.length d) l W (zab.on HX.out hb) zf1
  (fun f u W' hin hfv hb' => zjV u _ _ _ w.heap.size s f W' (zc (hb.trans (hb'.mono hb.size)) (by omega) Y0.out) (zc (hb.trans (hb'.mono hb.size)) (by omega) Y1.out) (zc (hb.trans (hb'.mono hb.size)) (by omega) Y2.out) (HSV.out.on (hb.trans (hb'.mono hb.size))) hfv))
 have hres : zbe s l = if !mayS s then 11 else if l.length = 0 \/ 8 < l.length then 13 else if l.any (fun f => !zaC s f) then 12 else 0 := rfl
 generalize zbe s l = res at *
 generalize mayS s = bS at *
 generalize (l.any fun f => !zaC s f) = bF at *
 generalize hln : l.length = n at *
 have HRES := hid hres
 clear hW0 g0 y0 y1 y2 h1 h2 h3 hv0 hx hres
 go_enter Tryz.func44, Tryz.ntmps44
 go_wp2_with fail
 rw [<- HW0.out]
 refine HSM.out.mono ?_
 rintro e w1 ⟨rfl, hb1⟩
 have HB1 := hid hb1; clear hb1
 cases bS
 ·have HN := hid (show res = 11 by rw [HRES.out]; rfl)
  go_wp2
  go_ret
  exact ⟨by rw [HN.out]; rfl, G0.out.trans (HB1.out.mono (by omega))⟩
 ·by_cases l0 : n = 0
  ·have t1 : ((n : Int) == 0) = true := by rw [beq_iff_eq]; omega
   have HN := hid (show res = 13 by rw [HRES.out, if_neg (show ¬ (!true) = true by simp), if_pos (.inl l0)])
   clear hln
   subst l0
   go_wp2
   go_ret
   exact ⟨by rw [HN.out]; rfl, G0.out.trans (HB1.out.mono (by omega))⟩
  ·have t1 : ((n : Int) == 0) = false := by rw [beq_eq_false_iff_ne]; omega
   by_cases l8 : 8 < n
   ·have t2 : decide ((8 : Int) < (n : Int)) = true := by rw [decide_eq_true_eq]; omega
    have t2' : decide (8 < n) = true := decide_eq_true l8
    have HN := hid (show res = 13 by rw [HRES.out, if_neg (show ¬ (!true) = true by simp), if_pos (.inr l8)])
    clear hln l8
    go_wp2
    go_ret
    exact ⟨by rw [HN.out]; rfl, G0.out.trans (HB1.out.mono (by omega))⟩
   ·have t2 : decide ((8 : Int) < (n : Int)) = false := by rw [decide_eq_false_iff_not]; omega
    have t2' : decide (8 < n) = false := decide_eq_false l8
    have HN := hid (show res = if bF then 12 else 0 by rw [HRES.out, if_neg (show ¬ (!true) = true by simp), if_neg (by omega)])
    clear hln l8 l0
    go_wp2_with fail
    refine (HHF.out _ HB1.out).mono ?_
    rintro e w2 ⟨rfl, hb2⟩
    have HB2 := hid (HB1.out.trans (hb2.mono HB1.out.size)); clear hb2
    cases bF
    ·go_wp2
     go_ret
     exact ⟨by rw [HN.out]; rfl, G0.out.trans (HB2.out.mono (by omega))⟩
    ·go_wp2
     go_ret
     exact ⟨by rw [HN.out]; rfl, G0.out.trans (HB2.out.mono (by omega))⟩
end Go.Proofs.YtgoapnkdcfcjgaaGreat
namespace Go.Proofs.YtgoapnkdcfcjgaaGreat
open Go.ChangeShapes Go.WideShapes Go.ChangeAt Go.RowKit Go.Deep
structure zbE (E : Nat -> Prop) (w w' : World) : Prop where
 kept : Kept E w w'
 size : w.heap.size <= w'.heap.size
 os : w'.os = w.os
 tape : w'.tape = w.tape
 output : w'.output = w.output
theorem zbE.trans {E : Nat -> Prop} {a b c : World} (h : zbE E a b) (k : zbE E b c) : zbE E a c := ⟨fun g hg => (k.kept g hg).trans (h.kept g hg), Nat.le_trans h.size k.size, k.os.trans h.os, k.tape.trans h.tape, k.output.trans h.output⟩
theorem zbE.refl (E : Nat -> Prop) (w : World) : zbE E w w := ⟨fun _ _ => rfl, Nat.le_refl _, rfl, rfl, rfl⟩
theorem zbE.of_chg {D E : Nat -> Prop} {w w' : World} (h : Chg D w w') (hE : ∀ k, E k -> k < w.heap.size /\ ¬ D k) : zbE E w w' := ⟨h.kept hE, h.size, h.os, h.tape, h.output⟩
theorem zbE.of_below {E : Nat -> Prop} {w w' : World} (h : Below w.heap.size w w') (hE : ∀ k, E k -> k < w.heap.size) : zbE E w w' := ⟨fun g hg => h.block g (hE g hg), h.size, h.os, h.tape, h.output⟩
def zde (w : World) (E : Nat -> Prop) (xf : Value) (fs : List zq) : Prop :=
 ∀ w', zbE E w w' -> zj 2 za7 w' w'.heap.size [xf] fs /\ ∀ j (hj : j < fs.length), ∃ b off c AP cP AV cV, xf = .slice (some ⟨b, off, none⟩) fs.length c /\ E b /\
  w'.cell? ⟨b, off + j * 2, none⟩ = some (.slice AP fs[j].1.length cP) /\ w'.cell? ⟨b, off + j * 2 + 1, none⟩ = some (.slice AV fs[j].2.length cV) /\ zfC w' E AP cP fs[j].1
theorem zde.on {w w' : World} {E : Nat -> Prop} {xf : Value} {fs : List zq} (h : zde w E xf fs) (k : zbE E w w') : zde w' E xf fs := fun w2 k2 => h w2 (k.trans k2)
theorem zde.of_rd {w : World} {B : Nat} {xf : Value} {fs : List zq} (h : zj 2 za7 w B [xf] fs) (hB : B <= w.heap.size) : zde w (fun g => g < B) xf fs := by
 intro w' k
 obtain ⟨A, c, e, hc, hm⟩ := h.open_
 simp only [List.cons.injEq, and_true] at e
 subst e
 have hb : Below B w w' := ⟨k.os, k.tape, k.output, k.size, fun g hg => k.kept g hg⟩
 have h' := zab.stays h hb
 refine ⟨zab.more h' (Nat.le_trans hB k.size), fun j hj => ?_⟩
 obtain ⟨b, off, AP, cP, AV, cV, rfl, hbl, q0, q1, r0, r1⟩ := zbD h' hj
 obtain ⟨hc2, hm2⟩ := r0.cap
 refine ⟨b, off, c, AP, cP, AV, cV, rfl, hbl, q0, q1, hc2, hm2, fun i hi => ?_⟩
 obtain ⟨b2, off2, AM, cM, rfl, hb2, hcell, h3⟩ := zbt r0 hi
 obtain ⟨s1, s2⟩ := zbP h3
 exact ⟨b2, off2, AM, cM, rfl, hb2, hcell, SlE.of_sl s1 (fun g hg => hg), s2⟩
theorem RowZ.keepT {w w' : World} {K : Nat} {Z : Nat -> Prop} {v : Value} {M : List (List Int)} (h : RowZ w K Z v M) (k1 : zac 27 K w w') (k2 : zac 3 K w w') : RowZ w' K Z v M := by
 obtain ⟨vs, h1, h2, h4, h3⟩ := h
 exact ⟨vs, h1, zad h2 k1, h4, fun j hj => ⟨zad (h3 j hj).1 k2, (h3 j hj).2⟩⟩
def zc4 (w : World) (K : Nat) (Z : Nat -> Prop) (v : Value) (CC : List (List (List Int))) : Prop :=
 ∃ vs : List Value, ∃ hl : vs.length = CC.length, w.ownsRow K 24 1 v CC.length vs /\ (∀ g, v.ownBlock = some g -> Z g) /\ ∀ j (h : j < CC.length), RowZ w K Z (vs[j]'(by omega)) CC[j]
theorem zc4.nil_ (w : World) (K : Nat) (Z : Nat -> Prop) : zc4 w K Z (.slice none 0 0) [] := ⟨[], rfl, World.ownsRow_nil _ _ _ _, fun g hg => by simp [Value.ownBlock] at hg, fun j hj => by simp at hj⟩
theorem zc4.kept {w w' : World} {K : Nat} {Z Z' : Nat -> Prop} {v : Value} {CC : List (List (List Int))} (h : zc4 w K Z v CC) (k : ∀ g, Z g -> K <= g -> g < w.heap.size -> w'.heap[g]? = w.heap[g]?) (hz : ∀ g, Z g -> K <= g -> g < w.heap.size -> Z' g) : zc4 w' K Z' v CC := by
 obtain ⟨vs, h1, h2, h4, h3⟩ := h
 exact ⟨vs, h1, zo h2 (fun g hg => k g (h4 g hg) (h2.lt g hg).1 (h2.lt g hg).2), fun g hg => hz g (h4 g hg) (h2.lt g hg).1 (h2.lt g hg).2, fun j hj => (h3 j hj).kept k hz⟩
theorem zc4.app {wa w4 : World} {K n : Nat} {Z : Nat -> Prop} {out v' u : Value} {CC : List (List (List Int))} {x : List (List Int)} {vs : List Value} (hn : n = CC.length) (h1 : vs.length = CC.length) (h2 : wa.ownsRow K 24 1 out n vs)
  (h3 : ∀ j (h : j < CC.length), RowZ wa K Z (vs[j]'(by omega)) CC[j]) (hi : RowZ wa K Z u x)
  (ho : w4.ownsRow K 24 1 v' (n + 1) (vs ++ [u])) (hz : ∀ g, v'.ownBlock = some g -> Z g) (hg : wa.grownBy w4 out.ownBlock) : zc4 w4 K Z v' (CC ++ [x]) := by
 subst hn
 have k1 : zac 3 K wa w4 := zac.of_grown hg h2 (by decide)
 have k2 : zac 27 K wa w4 := zac.of_grown hg h2 (by decide)
 refine ⟨vs ++ [u], by simp [h1], by rw [List.length_append]; exact ho, hz, fun j hj => ?_⟩
 rcases Nat.lt_or_ge j CC.length with hlt | hge
 ·have e1 : (vs ++ [u])[j]'(by simp; omega) = vs[j]'(by omega) := List.getElem_append_left (by omega)
  have e2 : (CC ++ [x])[j] = CC[j] := List.getElem_append_left hlt
  rw [e1, e2]
  exact (h3 j hlt).keepT k2 k1
 ·obtain rfl : j = CC.length := by rw [List.length_append] at hj; simp at hj; omega
  have e1 : (vs ++ [u])[CC.length]'(by simp; omega) = u := by rw [List.getElem_append_right (by omega)]; simp [h1]
  have e2 : (CC ++ [x])[CC.length] = x := by rw [List.getElem_append_right (by omega)]; simp
  rw [e1, e2]
  exact hi.keepT k2 k1
theorem zc4.rd {w : World} {K : Nat} {Z : Nat -> Prop} {v : Value} {CC : List (List (List Int))} (h : zc4 w K Z v CC) (hs : ∀ M ∈ CC, ∀ l ∈ M, ∀ n ∈ l, za4 n) : zgX w w.heap.size [v] CC := by
 obtain ⟨vs, h1, h2, -, h3⟩ := h
 obtain ⟨A, c, rfl, g1, g2, g3⟩ := zaa h2
 refine ⟨A, c, rfl, g1, g2, fun h0 => ?_⟩
 obtain ⟨g, rfl, -, hg, -, hcell⟩ := g3 h0
 refine ⟨g, 0, rfl, hg, fun i x hx => ?_⟩
 have hil := (List.getElem?_eq_some_iff.1 hx).1
 have hxe : CC[i] = x := by rw [List.getElem?_eq_getElem hil] at hx; injection hx
 have hint := (h3 i hil).toI
 rw [hxe] at hint
 refine ⟨[vs[i]'(by omega)], rfl, fun j u hu => ?_, hint.rows (hs x (hxe ▸ List.getElem_mem hil))⟩
 have hj : j < 1 := (List.getElem?_eq_some_iff.1 hu).1
 obtain rfl : j = 0 := by omega
 simp at hu
 rw [Nat.zero_add, Nat.mul_one, Nat.add_zero, hcell i (by omega), List.getElem?_eq_getElem (by omega), hu]
def zcA (w : World) (p : Nat) (a b c d e f g : Value) : World :=
 ((((((w.setCell ⟨p, 0, none⟩ a).setCell ⟨p, 1, none⟩ b).setCell ⟨p, 2, none⟩ c).setCell ⟨p, 3, none⟩ d).setCell ⟨p, 4, none⟩ e).setCell ⟨p, 5, none⟩ f).setCell ⟨p, 6, none⟩ g
theorem ze4 {w : World} {p : Nat} {a b c d e f g : Value} {k : Nat} (h : k ≠ p) : (zcA w p a b c d e f g).heap[k]? = w.heap[k]? := by
 unfold zcA
 rw [zaJ h, zaJ h, zaJ h, zaJ h, zaJ h, zaJ h, zaJ h]
theorem znM (w : World) (p : Nat) (a b c d e f g : Value) : Chg (fun k => k = p) w (zcA w p a b c d e f g) :=
 Chg.upd ((((((((Upd.setCell p 0 w a).trans (Upd.setCell p 1 _ b)).trans (Upd.setCell p 2 _ c)).trans (Upd.setCell p 3 _ d)).trans (Upd.setCell p 4 _ e)).trans (Upd.setCell p 5 _ f)).trans (Upd.setCell p 6 _ g))) rfl
theorem LatW.over {w : World} {H p H2 p2 : Nat} {Y2 : Lay} {l : LatX} (h : LatW w H2 p2 Y2 l) (hH : H <= p) (hp : p < H2) (hpl : p < w.heap.size) (fz : ∀ i, i < 7 -> w.frozen? ⟨p, i, none⟩ = false) (hR : ∀ g, Y2.R g -> H2 <= g)
  (hc : ∀ i, i < 7 -> ∃ u, w.cell? ⟨p, i, none⟩ = some u) : LatW (zcA w p Y2.S1 Y2.S2 Y2.S3 Y2.V Y2.DS Y2.CS (.int .i64 l.n)) H p Y2 l := by
 have hsz : (zcA w p Y2.S1 Y2.S2 Y2.S3 Y2.V Y2.DS Y2.CS (.int .i64 l.n)).heap.size = w.heap.size := by simp [zcA, World.setCell]
 have kk : ∀ g, H2 <= g -> (zcA w p Y2.S1 Y2.S2 Y2.S3 Y2.V Y2.DS Y2.CS (.int .i64 l.n)).heap[g]? = w.heap[g]? := fun g hg => ze4 (by omega)
 have kR : Kept Y2.R w (zcA w p Y2.S1 Y2.S2 Y2.S3 Y2.V Y2.DS Y2.CS (.int .i64 l.n)) := fun g hg => kk g (hR g hg)
 obtain ⟨u0, d0⟩ := hc 0 (by omega)
 obtain ⟨u1, d1⟩ := hc 1 (by omega)
 obtain ⟨u2, d2⟩ := hc 2 (by omega)
 obtain ⟨u3, d3⟩ := hc 3 (by omega)
 obtain ⟨u4, d4⟩ := hc 4 (by omega)
 obtain ⟨u5, d5⟩ := hc 5 (by omega)
 obtain ⟨u6, d6⟩ := hc 6 (by omega)
 have hdp : ∀ i, i < l.ds.length -> ∀ g, Y2.dD i g -> g ≠ p := fun i hi g hg => by have := (h.dA i hi g hg).1; omega
 have hcsp : ∀ g, Y2.CS.ownBlock = some g -> g ≠ p := fun g hg => by have := (h.cs.lt g hg).1; omega
 have hdsp : ∀ g, Y2.DS.ownBlock = some g -> g ≠ p := fun g hg => by have := (h.ds.lt g hg).1; omega
 have hHH : H <= H2 := by omega
 exact ⟨hH, by rw [hsz]; exact hpl, fun i hi => by unfold zcA; exact frozen_far (frozen_far (frozen_far (frozen_far (frozen_far (frozen_far (frozen_far (fz i hi))))))),
  by unfold zcA; exact zb (by omega) (zb (by omega) (zb (by omega) (zb (by omega) (zb (by omega) (zb (by omega) (zt d0)))))),
  by unfold zcA; exact zb (by omega) (zb (by omega) (zb (by omega) (zb (by omega) (zb (by omega) (zt (zb (by omega) d1)))))),
  by unfold zcA; exact zb (by omega) (zb (by omega) (zb (by omega) (zb (by omega) (zt (zb (by omega) (zb (by omega) d2)))))),
  by unfold zcA; exact zb (by omega) (zb (by omega) (zb (by omega) (zt (zb (by omega) (zb (by omega) (zb (by omega) d3)))))),
  by unfold zcA; exact zb (by omega) (zb (by omega) (zt (zb (by omega) (zb (by omega) (zb (by omega) (zb (by omega) d4)))))),
  by unfold zcA; exact zb (by omega) (zt (zb (by omega) (zb (by omega) (zb (by omega) (zb (by omega) (zb (by omega) d5)))))),
  by unfold zcA; exact zt (zb (by omega) (zb (by omega) (zb (by omega) (zb (by omega) (zb (by omega) (zb (by omega) d6)))))),
  h.sch.kept kR, h.sin, h.row.kept kR, zw (zo h.ds (fun g hg => kk g (h.ds.lt g hg).1)) hHH, zw (zo h.cs (fun g hg => kk g (h.cs.lt g hg).1)) hHH,
  fun i hi => (h.dict i hi).kept (fun g hg => kk g (h.dA i hi g hg).1) (by rw [hsz]; exact Nat.le_refl _), fun i hi => (h.cub i hi).kept (fun g hg => kR g (h.cuR i hi g hg)) (by rw [hsz]; exact Nat.le_refl _),
  fun g hg => by rw [hsz]; exact ⟨(h.rl g hg).1, by have := hR g hg; omega, (h.rl g hg).2.2⟩, h.rd, fun g hg => ⟨hdsp g hg, (h.dsA g hg).2⟩, h.cuR, fun g hg => ⟨hcsp g hg, (h.csA g hg).2⟩,
  fun i hi g hg => ⟨by have := (h.dA i hi g hg).1; omega, hdp i hi g hg⟩, h.dd⟩
set_option maxRecDepth 100000 in
set_option maxHeartbeats 1600000 in
theorem zpq (a b c : Nat) (u : FrameMode) (w : World) (he : w.cell? ⟨a, 0, none⟩ = some (.int .i64 0)) :
  CallsD Tryz.prog 46 #[.pointer (some ⟨a, 0, none⟩), .pointer (some ⟨b, 0, none⟩), .pointer (some ⟨c, 0, none⟩)] u w fun e u' w' => u' = u /\ (e = .returned (.tuple #[]) /\ w' = w) := by
 go_enter_d Tryz.func46, Tryz.ntmps46
 go_wp2
 go_end0
 exact ⟨rfl, rfl⟩
set_option maxRecDepth 100000 in
set_option maxHeartbeats 1600000 in
theorem zmC (a b c p : Nat) (u : FrameMode) (w : World) (e n : Int) (A1 A2 A3 A4 A5 A6 : Option Addr) (n1 n2 n3 n4 n5 n6 c1 c2 c3 c4 c5 c6 : Nat) (he : w.cell? ⟨a, 0, none⟩ = some (.int .i64 e)) (hz : e ≠ 0) (hc : w.cell? ⟨c, 0, none⟩ = some (.pointer (some ⟨p, 0, none⟩)))
  (q0 : w.cell? ⟨b, 0, none⟩ = some (.slice A1 n1 c1)) (q1 : w.cell? ⟨b, 1, none⟩ = some (.slice A2 n2 c2)) (q2 : w.cell? ⟨b, 2, none⟩ = some (.slice A3 n3 c3)) (q3 : w.cell? ⟨b, 3, none⟩ = some (.slice A4 n4 c4))
  (q4 : w.cell? ⟨b, 4, none⟩ = some (.slice A5 n5 c5)) (q5 : w.cell? ⟨b, 5, none⟩ = some (.slice A6 n6 c6)) (q6 : w.cell? ⟨b, 6, none⟩ = some (.int .i64 n))
  (fz : ∀ i, i < 7 -> w.frozen? ⟨p, i, none⟩ = false) (hp : ∀ i, i < 7 -> ∃ u, w.cell? ⟨p, i, none⟩ = some u) :
  CallsD Tryz.prog 46 #[.pointer (some ⟨a, 0, none⟩), .pointer (some ⟨b, 0, none⟩), .pointer (some ⟨c, 0, none⟩)] u w fun e u' w' => u' = u /\ (e = .returned (.tuple #[]) /\ w' = zcA w p (.slice A1 n1 c1) (.slice A2 n2 c2) (.slice A3 n3 c3) (.slice A4 n4 c4) (.slice A5 n5 c5) (.slice A6 n6 c6) (.int .i64 n)) := by
 have hz' : (e != 0) = true := by simpa using hz
 have f0 := fz 0 (by omega); have f1 := fz 1 (by omega); have f2 := fz 2 (by omega); have f3 := fz 3 (by omega); have f4 := fz 4 (by omega); have f5 := fz 5 (by omega); have f6 := fz 6 (by omega)
 obtain ⟨u0, d0⟩ := hp 0 (by omega)
 obtain ⟨u1, d1⟩ := hp 1 (by omega)
 obtain ⟨u2, d2⟩ := hp 2 (by omega)
 obtain ⟨u3, d3⟩ := hp 3 (by omega)
 obtain ⟨u4, d4⟩ := hp 4 (by omega)
 obtain ⟨u5, d5⟩ := hp 5 (by omega)
 obtain ⟨u6, d6⟩ := hp 6 (by omega)
 clear hp fz
 go_enter_d Tryz.func46, Tryz.ntmps46
 go_wp2
 go_end0
 exact ⟨rfl, rfl⟩
def ApyP (H p : Nat) (Y : Lay) (l : LatX) (r : LatX × Int) (w : World) (e : Ending) (w' : World) : Prop :=
 ∃ Y', e = .returned (.int .i64 r.2) /\ LatW w' H p Y' r.1 /\ Chg (LatO p Y l.ds.length) w w' /\ ∀ g, LatO p Y' l.ds.length g -> LatO p Y l.ds.length g \/ w.heap.size <= g
theorem zjZ {s : ze} {f : zq} (h : zaC s f = true) (hd : ∀ d ∈ s.1, d.2.length <= 1000) : ∀ q ∈ f.1, q.length <= 1000 := by
 unfold zaC at h
 rw [Bool.and_eq_true, Bool.and_eq_true, Bool.and_eq_true] at h
 obtain ⟨⟨⟨-, f1⟩, -⟩, f2⟩ := h
 intro q hq
 obtain ⟨i, hi, rfl⟩ := List.mem_iff_getElem.1 hq
 have f1 := of_decide_eq_true f1
 have := of_decide_eq_true (List.all_eq_true.1 f2 i (List.mem_range.2 hi))
 rw [List.getD_eq_getElem?_getD, List.getElem?_eq_getElem hi, List.getD_eq_getElem?_getD, List.getElem?_eq_getElem (by omega)] at this
 simp only [Option.getD_some] at this
 rw [this]
 exact hd _ (List.getElem_mem _)
theorem zlA : (Tryz.prog.info? 24).map (fun i => (i.zero, i.size, i.bytes)) = some (some (.slice none 0 0), 1, 24) := by kernel_rfl
def zqh (H p : Nat) (Y : Lay) (l : LatX) (fs : List zq) (W : World) (out i : Value) (wr : World) : Prop :=
 ∃ (k : Nat) (dD' : Nat -> Nat -> Prop), k <= fs.length /\ i = .int .i64 k /\ (zE l.s l.ds fs k).2.2 = 0 /\ LatW wr H p { Y with dD := dD' } { l with ds := (zE l.s l.ds fs k).1 } /\
  zc4 wr W.heap.size (fun g => ¬ LatO p { Y with dD := dD' } l.ds.length g) out (zE l.s l.ds fs k).2.1 /\ Chg (LatA p Y l.ds.length) W wr /\ ∀ i, i < l.ds.length -> ∀ g, dD' i g -> Y.dD i g \/ W.heap.size <= g
def zqg (H p : Nat) (Y : Lay) (s : ze) (ds : List (List zH)) (cs : List (List KC)) (n : Int) (CC : List (List (List Int))) (vs : List (List Int)) (W : World) (i : Value) (wr : World) : Prop :=
 ∃ (v : Nat) (Y' : Lay), v <= (zh s).length /\ i = .int .i64 v /\ (zU s cs CC vs v).2 = 0 /\ LatW wr H p Y' ⟨s, ds, (zU s cs CC vs v).1, n⟩ /\ Y'.CS = Y.CS /\ Y'.dD = Y.dD /\ (∀ g, Y'.R g -> Y.R g \/ W.heap.size <= g) /\ Y'.DS = Y.DS /\ Chg (fun g => Y.CS.ownBlock = some g) W wr
end Go.Proofs.YtgoapnkdcfcjgaaGreat
