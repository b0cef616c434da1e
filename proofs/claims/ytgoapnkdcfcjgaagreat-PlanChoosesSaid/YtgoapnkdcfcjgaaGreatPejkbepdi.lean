/- 1 text of this claim, in build order. -/
import Derived.Test.YtgoapnkdcfcjgaaGreatPanajldfl
import Derived.Test.YtgoapnkdcfcjgaaGreatPpdgcmpbc
set_option linter.unusedVariables false
set_option linter.unusedSimpArgs false
namespace Go.Proofs.YtgoapnkdcfcjgaaGreat
open Go.ChangeShapes Go.WideShapes Go.ChangeAt Go.RowKit Go.Deep
theorem zl2 : (Tryz.prog.info? 60).map (fun i => (i.zero, i.size, i.bytes)) = some (some (.agg #[.slice none 0 0, .slice none 0 0]), 2, 48) := by kernel_rfl
theorem zld : (Tryz.prog.info? 23).map (fun i => (i.zero, i.size, i.bytes)) = some (some (.slice none 0 0), 1, 24) := by kernel_rfl
def zoK (H b : Nat) (O : Nat -> Prop) (s : ze) (r : (List zq × List PlR) × Int) (w : World) (e : Ending) (w' : World) : Prop :=
 ∃ O' rp', e = .returned (.int .i64 r.2) /\ R11W w' H b O' s r.1.1 r.1.2 rp' /\ Chg (fun g => g = b) w w' /\ ∀ g, O' g -> O g \/ w.heap.size <= g
theorem zoK.same {H b : Nat} {O : Nat -> Prop} {s : ze} {Ls : List zq} {pls : List PlR} {rp : Nat -> Nat} {w w' : World} {x : Int} (h : R11W w H b O s Ls pls rp) (hH : H <= w.heap.size) (hb : Below w.heap.size w w') : zoK H b O s ((Ls, pls), x) w (.returned (.int .i64 x)) w' :=
 ⟨O, rp, rfl, h.kept (hb.mono hH) (fun g hg => hb.block g (h.ol g hg).2), Chg.of_below hb, fun g hg => .inl hg⟩
def LpF (W1 : World) (N : Nat) (O : Nat -> Prop) (b : Nat) (s : ze) (pls : List PlR) (fs : List zq) (rp : Nat -> Nat) (dv iv : Value) (wr : World) : Prop :=
 ∃ (k : Nat) (Rf : Nat -> Nat -> Prop) (vf : Nat -> Value), k <= fs.length /\ iv = .int .i64 k /\ (zS s pls fs k).2 = 0 /\ wr.ownsRow N 97 1 dv pls.length (ptrs rp pls.length) /\ DsR wr N O b s (zS s pls fs k).1 pls.length rp Rf vf dv /\ Below N W1 wr
def LpG (W1 : World) (N : Nat) (O : Nat -> Prop) (b : Nat) (s : ze) (P : List PlR) (n : Nat) (ps : List (List ByteArray)) (rp : Nat -> Nat) (dv iv : Value) (wr : World) : Prop :=
 ∃ (i : Nat) (Rf : Nat -> Nat -> Prop) (vf : Nat -> Value), i <= n /\ iv = .int .i64 i /\ (zaB s P ps i).2 = 0 /\ wr.ownsRow N 97 1 dv n (ptrs rp n) /\ DsR wr N O b s (zaB s P ps i).1 n rp Rf vf dv /\ Below N W1 wr
def LpV (s : ze) (all : List zq) (n : Nat) (W1 : World) (iv : Value) (wr : World) : Prop :=
 ∃ k : Nat, k <= n /\ iv = .int .i64 k /\ zbn s all k = 0 /\ Below W1.heap.size W1 wr
theorem zhQ {l : List PlR} (h : ∀ x ∈ l, x.length <= 40) (i : Nat) : (l.getD i []).length <= 40 := by
 rw [List.getD_eq_getElem?_getD]
 cases hg : l[i]? with
 | none => exact Nat.zero_le _
 | some x => exact h x (List.mem_of_getElem? hg)
theorem zjN {w : World} {H : Nat} {v : Value} {p : List ByteArray} {E : Nat -> Prop} (h : zO w H [v] p) (hE : ∀ g, g < H -> E g) : SlE w E v (zL p) := by
 obtain ⟨A, c, e, h1, h2, h3⟩ := (zbP h).1
 exact ⟨A, c, e, h1, h2, fun h0 => by
  obtain ⟨b, off, e, hb, hc⟩ := h3 h0
  exact ⟨b, off, e, hE b hb, hc⟩⟩
set_option maxRecDepth 100000 in
set_option maxHeartbeats 16000000 in
theorem zip (H b : Nat) (O : Nat -> Prop) (s : ze) (Ls : List zq) (pls : List PlR) (rp : Nat -> Nat) (xf : Value) (fs : List zq) (w : World) (h : R11W w H b O s Ls pls rp) (ok : OkR s Ls pls) (hl : Ls.length <= 500) (hs : s.1.length <= 1000)
  (hf : zj 2 za7 w H [xf] fs) (hH : H <= w.heap.size) :
  Calls Tryz.prog 27 #[.pointer (some ⟨b, 0, none⟩), xf] w (zoK H b O s (zbo s Ls pls fs) w) := by
 obtain ⟨i0, hi0, hz0, hy0, hx0⟩ := info_parts zkd
 obtain ⟨i1, hi1, hz1, hy1, hx1⟩ := info_parts zld
 obtain ⟨i2, hi2, hz2, hy2, hx2⟩ := info_parts zl2
 have hW := h
 obtain ⟨ob, ol, fz, ⟨S1, S2, S3, s0, s1, s2, hsv⟩, ⟨Lv, l3, hfac, hlo⟩, ⟨Dv, d4, hdo, hdb, hdi⟩⟩ := h
 obtain ⟨A1, c1, A2, c2, A3, c3, e, -, -, -⟩ := id hsv
 simp only [Value.agg.injEq, Array.mk.injEq, List.cons.injEq, and_true] at e
 obtain ⟨rfl, rfl, rfl⟩ := e
 have hbl := (ol b ob).2
 obtain ⟨AF, cF, e, hcF, hmF⟩ := hf.open_
 simp only [List.cons.injEq, and_true] at e
 subst e
 have HMAY := hid (ziK _ (.slice AF fs.length cF) s fs w (hsv.more hH) hs (zab.more hf hH) (fun W hW => zbz _ s W hW hs))
 have HSAME := hid (fun (x : Int) (w' : World) (hb : Below w.heap.size w w') => zoK.same (x := x) hW hH hb)
 have HFZ := hid fz; have HSV := hid hsv; have HFAC := hid hfac; have HLO := hid hlo; have HDO := hid hdo; have HDB := hid hdb; have HDI := hid hdi; have HF := hid hf; have HOK := hid ok; have HOL := hid ol; have HOB := hid ob
 clear fz hsv hfac hlo hdb hdi hf ok ol hW ob
 obtain ⟨AD, cD, rfl, hcD, hmD, hgD⟩ := zaa hdo
 have HGD := hid hgD
 obtain ⟨AL, cL, rfl⟩ := zu (show w.ownsRow H 60 2 Lv Ls.length _ from HFAC.out.choose_spec.2.1)
 unfold maxLen at hmD
 clear hdo hgD
 have hpl3 : pls.length <= 1000 := by have := HOK.out.1; omega
 go_enter Tryz.func27, Tryz.ntmps27
 go_wp2_with fail
 refine HMAY.out.mono ?_
 rintro e w1 ⟨rfl, hb1⟩
 have z1 := hb1.size
 have B1 := hid hb1
 have s0 := zc hb1 hbl s0
 have s1 := zc hb1 hbl s1
 have s2 := zc hb1 hbl s2
 have l3 := zc hb1 hbl l3
 have d4 := zc hb1 hbl d4
 clear hb1
 by_cases hm0 : zbe s fs = 0
 case neg =>
  have hap : zbo s Ls pls fs = ((Ls, pls), zbe s fs) := by unfold zbo; rw [if_pos hm0]
  generalize zbe s fs = m at *
  have HAP0 := hid hap
  have t0 : (m != 0) = true := by rw [bne_iff_ne]; exact hm0
  clear hm0 hap
  go_wp2
  go_ret
  rw [HAP0.out]
  exact HSAME.out m _ B1.out
 case pos =>
  obtain ⟨hm, hf1, hf8, hfit⟩ := zfb hm0
  obtain ⟨⟨hd1, hd3⟩, ⟨hn1, hn2⟩, hdl⟩ := zaz hm
  obtain ⟨hv6, hvl⟩ := zaj hm
  have hap : zbo s Ls pls fs = if (zS s pls fs fs.length).2 ≠ 0 then ((Ls, pls), (zS s pls fs fs.length).2) else if zbn s (Ls ++ fs) (zh s).length ≠ 0 then ((Ls, pls), 14) else ((Ls ++ fs, (zS s pls fs fs.length).1), 0) := by
   unfold zbo; rw [if_neg (by rw [hm0]; simp)]
  rw [hm0]
  have HAP := hid hap; have HFIT := hid hfit; have HVL := hid hvl; have HM := hid hm
  obtain ⟨N, hN⟩ : ∃ N, N = w1.heap.size := ⟨_, rfl⟩
  have HN := hid hN
  have HR0 := hid (show LpD w1 N O b s pls (.slice none 0 0) (.int .i64 0) w1 from ⟨0, fun _ => 0, fun _ _ => False, fun _ => undef, by omega, rfl, World.ownsRow_nil _ _ _ _, DsR.zero _ _ _ _ _ _ _ _ _ _, Below.refl _ _⟩)
  clear hm0 hap hfit hvl hdl hN
  go_wp2
  go_loopw [6, 7, 8] (fun dv iv _ wr => LpD w1 N O b s pls dv iv wr) (fun _ iv _ _ => pls.length - (intOf iv).toNat)
  case atStart => exact HR0.out
  case round =>
   obtain ⟨k, rp', Rf, vf, hk, rfl, hown, hds, hb⟩ := hrel
   have hNN := HN.out
   have hsb := hb.size
   have d4w := zc hb (by omega) d4
   obtain ⟨Ad, cd, rfl⟩ := zu hown
   by_cases hlt : k < pls.length
   ·obtain ⟨g, rfl, hg1, hg2, -, hgc⟩ := HGD.out (by omega)
    have hpc := zc hb (by omega) (zc B1.out hg2 ((hgc k (by omega)).trans (zdl hlt)))
    obtain ⟨R, hrw, hRO⟩ := HDI.out k hlt
    obtain ⟨q1, q2, q3, q4, vL, vsL, E, q5, q6, q7, q8, q9⟩ := hrw.below (B1.out.trans (hb.mono (by omega)))
    obtain ⟨AR, cR, rfl⟩ := zu q6
    have hle40 : (pls.getD k []).length <= 40 := HOK.out.2.1 _ (by rw [List.getD_eq_getElem?_getD, List.getElem?_eq_getElem hlt]; exact List.getElem_mem hlt)
    obtain ⟨wA, hwA⟩ : ∃ W, W = wr.alloc (.cells #[.int .i64 (dimL s k), .slice none 0 0] 99) := ⟨_, rfl⟩
    have bA : Below wr.heap.size wr wA := by rw [hwA]; exact bl1 _ _
    have zA : wA.heap.size = wr.heap.size + 1 := by rw [hwA]; simp
    have a0 : wA.cell? ⟨wr.heap.size, 0, none⟩ = some (.int .i64 (dimL s k)) := by rw [hwA]; simp [go_sem]
    have a1 : wA.cell? ⟨wr.heap.size, 1, none⟩ = some (.slice none 0 0) := by rw [hwA]; simp [go_sem]
    have af : ∀ i, i < 2 -> wA.frozen? ⟨wr.heap.size, i, none⟩ = false := fun i hi => by rw [hwA]; simp [go_sem]
    have hrp := q2 _ q1
    have d4a := zc bA (by omega) d4w
    have hpca := zc bA (by omega) hpc
    have q5a := zc bA hrp q5
    have af1 := af 1 (by omega)
    have HSX := hid (show ∀ W, Qu wA W -> Src Tryz.prog 1 58 (.slice AR (pls.getD k []).length cR) (pls.getD k []).length vsL W from fun W hW =>
     zqG (E := E) Tryz.underlying58 (zx (zx q6 bA) (hW.below _)) (fun i x hx => by
      obtain ⟨u, hu, hsl⟩ := q9 i x hx
      exact ⟨u, hu, hsl.kept (fun j hj => ((bA.trans ((hW.below wr.heap.size))).block j (q2 j (q8 j hj).1)))⟩))
    have HMK := hid (fun v' w7 w8 v8 b7 z7 fz c0 c1 ho hv hg8 hb8 hat8 ho8 => zqu (v' := v') (w7 := w7) (w8 := w8) (v8 := v8) hlt (by omega) (by omega) (fun g hg => by have := (HOL.out g hg).2; omega) hown hds hb hRO q2 q8 q9 b7 z7 fz c0 c1 ho hv hg8 hb8 hat8 ho8)
    have HWA := hid hwA; have HA0 := hid a0; have HAF := hid af; have BA := hid bA; have HO := hid hown
    have hNs : N <= wr.heap.size := by omega
    clear hwA hds hb hRO hown hrw q2 q3 q6 q7 q8 q9 bA af hgc
    generalize dimL s k = dl at *
    generalize (pls.getD k []).length = ln at *
    go_upto_region 9 with (fail)
    rw [<- HWA.out]
    go_region_law (first
     | (refine zcn (.tmp 52) (.tmp 62) 58 58 (by rfl) (by rfl) wr.heap.size 23 i1 (.slice none 0 0) 1 24 Tryz.underlying58 hi1 hz1 hy1 hx1 rfl (by omega) (.slice none 0 0) 0 [] (by rfl) (World.ownsRow_nil _ _ _ _) (.slice AR ln cR) ln vsL (by rfl) (HSX.out _ ⟨1, rfl⟩) (by unfold maxLen; omega) (by omega) (by simp; omega) ?_; intro v' w6 ho6 hg6 hb6 hat6; rw [Nat.zero_add, List.nil_append] at ho6; have HO6 := hid ho6; have HG6 := hid hg6; have HB6 := hid hb6; have HA6 := hid hat6; obtain ⟨A6, c6, rfl⟩ := zu ho6; have HFB := hid (show w6.heap[wr.heap.size]? = wA.heap[wr.heap.size]? from hg6.block _ (by simp; omega) (fun e => by simp [Value.ownBlock] at e)); have m1 := (World.cell?_of_block (a := ⟨wr.heap.size, 1, none⟩) HFB.out).trans a1; have mf := (World.frozen?_of_block (a := ⟨wr.heap.size, 1, none⟩) HFB.out).trans af1; clear ho6 hg6 hb6 hat6))
    all_goals
     have hs6 : wr.heap.size + 1 <= w6.heap.size := by have := HG6.out.size; simp at this; omega
     have ho6 := HO6.out
     obtain ⟨W7, hW7⟩ : ∃ W, W = w6.setCell ⟨wr.heap.size, 1, none⟩ (.slice A6 ln c6) := ⟨_, rfl⟩
     have z7 : W7.heap.size = w6.heap.size := by rw [hW7]; simp [World.setCell]
     have h76 : ∀ g, g ≠ wr.heap.size -> W7.heap[g]? = w6.heap[g]? := fun g hg => by rw [hW7]; exact Below.heap_setCell _ _ _ g (by simp; omega)
     have b6 : Below wr.heap.size wr w6 := BA.out.trans (((Below.refl wr.heap.size wA).drew).trans HB6.out)
     have b7 : Below wr.heap.size wr W7 := by rw [hW7]; exact b6.setCell (Nat.le_refl _) _
     have c0 : W7.cell? ⟨wr.heap.size, 0, none⟩ = some (.int .i64 dl) := by rw [hW7]; exact zb (by omega) ((World.cell?_of_block (a := ⟨wr.heap.size, 0, none⟩) HFB.out).trans HA0.out)
     have c1' : W7.cell? ⟨wr.heap.size, 1, none⟩ = some (.slice A6 ln c6) := by rw [hW7]; exact zt m1
     have hfz : ∀ i, i < 2 -> W7.frozen? ⟨wr.heap.size, i, none⟩ = false := fun i hi => by rw [hW7]; exact frozen_far ((World.frozen?_of_block (a := ⟨wr.heap.size, i, none⟩) HFB.out).trans (HAF.out i hi))
     have hne : ∀ g, (Value.slice A6 ln c6).ownBlock = some g -> g ≠ wr.heap.size := fun g hg e => by
      rcases HA6.out with h | h
      ·rw [h] at hg; simp [Value.ownBlock] at hg
      ·rw [h] at hg; injection hg with hg; simp at hg; omega
     have ho7 : W7.ownsRow wr.heap.size 23 1 (.slice A6 ln c6) ln vsL := zo ho6 (fun g hg => h76 g (hne g hg))
     have hod : W7.ownsRow N 97 1 (.slice Ad k cd) k (ptrs rp' k) := zx HO.out b7
     have HB7 := hid b7; have HC0 := hid c0; have HC1 := hid c1'; have HFZ7 := hid hfz; have HNE := hid hne; have HO7 := hid ho7; have HOD := hid hod; have HW7 := hid hW7; have Z7 := hid z7
     clear z7 ho6 hW7 h76 b6 b7 c0 c1' hfz hne ho7 hod a0 a1 af1 m1 mf d4a hpca q5a
     go_upto_region 10 with (fail)
     rw [<- HW7.out]
     go_wp2_with (at_builtin; refine zr ?_)
     refine zar ?_
     refine zN (.tmp 66) (.tmp 68) 69 69 rfl rfl N 97 i0 (.pointer none) 1 8 Tryz.underlying69 hi0 hz0 hy0 hx0 rfl (by decide) (.slice Ad k cd) k (ptrs rp' k) rfl (HOD.out.alloc _) (.slice (some ⟨W7.heap.size, 0, none⟩) 1 1) 1 [.pointer (some ⟨wr.heap.size, 0, none⟩)] rfl (Src.ofSlice _ Tryz.underlying69 _ 1 1 _ rfl (cell_one_new _ _ _) (by simp; rfl)) (by unfold maxLen; omega) (by omega) (by have := Z7.out; simp; omega) ?_
     intro v8 w8 ho8 hg8 hb8 hat8
     obtain ⟨A8, c8, rfl⟩ := zu ho8
     have hlt7 : wr.heap.size < W7.heap.size := by have := Z7.out; omega
     have HREL := hid (HMK.out _ _ w8 _ (HB7.out.alloc (by omega) _) (by simp; omega) (fun i hi => zal hlt7 (HFZ7.out i hi)) (zv hlt7 HC0.out) (zv hlt7 HC1.out) (HO7.out.alloc _) HNE.out hg8 hb8 hat8 ho8)
     clear ho8 hg8 hb8 hat8
     go_wp2
     go_roundw
     case rel => exact HREL.out
     case measure => simp [intOf]; omega
   ·obtain rfl : k = pls.length := by omega
    have HR2 := hid (show LpF w1 N O b s pls fs rp' (.slice Ad pls.length cd) (.int .i64 0) wr from ⟨0, Rf, vf, by omega, rfl, rfl, hown, hds, hb⟩)
    clear hown hds hb hsb hNN
    go_wp2
    clear d4w
    go_loopw [9, 10, 11, 12] (fun iv _ _ _ wr => LpF w1 N O b s pls fs rp' (.slice Ad pls.length cd) iv wr) (fun iv _ _ _ _ => fs.length - (intOf iv).toNat)
    case atStart => exact HR2.out
    case round =>
     obtain ⟨wo, rfl⟩ : ∃ wo : World, wo = wr := ⟨_, rfl⟩
     obtain ⟨k, Rf2, vf2, hk, rfl, he, hown, hds, hb⟩ := hrel
     have HE := hid he
     clear he
     by_cases hlt : k < fs.length
     ·have HG0 := hid (show LpG w1 N O b s (zS s pls fs k).1 pls.length (fs.getD k ([], [])).1 rp' (.slice Ad pls.length cd) (.int .i64 0) wo from ⟨0, Rf2, vf2, by omega, rfl, rfl, hown, hds, hb⟩)
      clear hown hds hb
      go_wp2
      go_loopw [10, 11, 12] (fun iv _ _ wr => LpG w1 N O b s (zS s pls fs k).1 pls.length (fs.getD k ([], [])).1 rp' (.slice Ad pls.length cd) iv wr) (fun iv _ _ _ => pls.length - (intOf iv).toNat)
      case atStart => exact HG0.out
      case round =>
       obtain ⟨i, Rf3, vf3, hi, rfl, hei, hown, hds, hb⟩ := hrel
       have HEI := hid hei
       clear hei
       have hsb := hb.size
       have hNN := HN.out
       by_cases hlt2 : i < pls.length
       ·have hgd : fs.getD k ([], []) = fs[k] := by rw [List.getD_eq_getElem?_getD, List.getElem?_eq_getElem hlt]; rfl
        obtain ⟨hfl, -⟩ := zeq (HFIT.out _ (List.getElem_mem hlt))
        have hips : i < s.1.length := by rw [<- HOK.out.1]; exact hlt2
        have hip : i < fs[k].1.length := by rw [hfl]; exact hips
        have hBH : Below H w wr := (B1.out.mono hH).trans (hb.mono (by omega))
        obtain ⟨bF, oF, AP, cP, AV, cV, rfl, hbF, x0, -, hpp, -⟩ := zbD (zab.stays HF.out hBH) hlt
        obtain ⟨bP, oP, AM, cM, rfl, hbP, xp, hst⟩ := zbt hpp hip
        obtain ⟨AD2, cD2, e2, -, -, hgc⟩ := zaa hown
        injection e2 with e2 _ e3
        subst e2; subst e3
        obtain ⟨gd, rfl, -, -, -, hgc⟩ := hgc (by omega)
        have hpc := (hgc i (by omega)).trans (zdl hlt2)
        have hps : (fs.getD k ([], [])).1.getD i [] = fs[k].1[i] := by rw [hgd, List.getD_eq_getElem?_getD, List.getElem?_eq_getElem hip]; rfl
        have hok := zkq s (zS s pls fs k).1 (fs.getD k ([], [])).1 i (zcC s pls fs k HOK.out.2.1).2
        have hlP : (zaB s (zS s pls fs k).1 (fs.getD k ([], [])).1 i).1.length = pls.length := hok.1.trans (zcC s pls fs k HOK.out.2.1).1
        have hst2 := zcT HEI.out
        rw [hps] at hst2
        have hle : ((zaB s (zS s pls fs k).1 (fs.getD k ([], [])).1 i).1.getD i []).length <= 40 := zhQ hok.2 i
        have HADD := hid (fun W (hq : Qu wr W) => zif (Rf3 i) (rp' i) (dimL s i) _ (.slice AM fs[k].1[i].length cM) fs[k].1[i] W ((hds.d i hlt2).below (hq.below _)) (Nat.le_trans hle (by omega)) (zjN (zQ.stays hst (hq.below _)) (fun g hg hR => by
         have h9 := (hds.o i hlt2 g hR).1
         rcases h9 with h9 | h9
         ·have := (HOL.out g h9).1; omega
         ·omega)))
        have HST := hid hst2; have HDS := hid hds; have HOW := hid hown; have HB := hid hb; have HLP := hid hlP
        have HDV := hid (fun g (hg : (Value.slice (some ⟨gd, 0, none⟩) pls.length cd).ownBlock = some g) => hown.lt g hg)
        clear hst2 hds hown hb hok hle hlP hps hgc hpp hst hBH
        generalize addR ((zaB s (zS s pls fs k).1 (fs.getD k ([], [])).1 i).1.getD i []) (dimL s i) fs[k].1[i] = ar at *
        go_wp2
        go_region_law (first
         | (go_simp; go_at_call 50; refine (HADD.out _ ⟨1, rfl⟩).mono ?_; rintro e w5 ⟨v5, R5, rfl, hsl5, hgr5, hrw5, -, htl5⟩; obtain ⟨A5, c5, rfl, -⟩ := hsl5; have HADS := hid (DsR.add (HDS.out.on (Below.refl _ wr).drew) (by rw [HLP.out]; exact Nat.le_refl _) hlt2 (by show N <= wr.heap.size; omega) (by show b < wr.heap.size; omega) (fun g hg => (HDV.out g hg).2) hgr5 hrw5 htl5); clear hgr5 hrw5 htl5))
        all_goals
         obtain ⟨⟨Rf', vf', hds'⟩, hbN, hDk⟩ := HADS.out
         have hb5 := HB.out.trans ((Below.refl N wr).drew.trans hbN)
         have HB5 := hid hb5
         have HDS5 := hid hds'
         have HOW5 := hid (zo HOW.out hDk)
         clear hds' hbN hDk hb5 x0 xp hpc
         by_cases her : ar.2.2 = 0
         ·have t0 : (ar.2.2 != 0) = false := by rw [her]; rfl
          have HER := hid her
          clear her
          go_wp2
          go_roundw
          case rel =>
                      have hst := HST.out
                      exact ⟨i + 1, Rf', vf', by omega, by go_num, by rw [hst]; exact HER.out, HOW5.out, by rw [hst]; exact HDS5.out, HB5.out⟩
          case measure => simp [intOf]; omega
         ·have t0 : (ar.2.2 != 0) = true := by rw [bne_iff_ne]; exact her
          have hst := HST.out
          have e1 : zaB s (zS s pls fs k).1 (fs.getD k ([], [])).1 pls.length = zaB s (zS s pls fs k).1 (fs.getD k ([], [])).1 (i + 1) := zdR (by rw [hst]; exact her) (by omega)
          have e2 := zbK (s := s) (pls := pls) HE.out
          rw [e1, hst] at e2
          have e3 : zS s pls fs fs.length = zS s pls fs (k + 1) := zcZ (by rw [e2]; exact her) (by omega)
          have hap := HAP.out
          rw [e3, e2, if_pos her] at hap
          have HAP2 := hid hap
          clear hap e1 e2 e3 hst her
          go_wp2
          go_ret
          rw [HAP2.out]
          exact HSAME.out ar.2.2 _ (B1.out.trans (HB5.out.mono (by omega)))
       ·obtain rfl : i = pls.length := by omega
        have e2 := zbK (s := s) (pls := pls) HE.out
        have HREL := hid (show LpF w1 N O b s pls fs rp' (.slice Ad pls.length cd) (.int .i64 ((k : Int) + 1)) wr from ⟨k + 1, Rf3, vf3, by omega, by go_num, by rw [e2]; exact HEI.out, hown, by rw [e2]; exact hds, hb⟩)
        clear hown hds hb e2
        go_wp2
        go_roundw
        case rel => exact HREL.out
        case measure => simp [intOf]; omega
     ·obtain rfl : k = fs.length := by omega
      have hsb := hb.size
      have hNN := HN.out
      have hap := HAP.out
      rw [if_neg (by rw [HE.out]; simp)] at hap
      have HAP2 := hid hap
      have hBH : Below H w wo := (B1.out.mono hH).trans (hb.mono (by omega))
      obtain ⟨fx0, hf0, hsrc0, hrd0⟩ := zc8.src (tx := 61) Tryz.underlying61 (HFAC.out.kept hBH (fun g hg => (B1.out.trans (hb.mono (by omega))).block g (HOL.out g (HLO.out g hg).1).2)) (show H <= wo.heap.size by omega)
      have HR0' := hid hrd0; have HS0 := hid hsrc0; have HB := hid hb; have HDS := hid hds; have HOW := hid hown; have HBH := hid hBH
      have l3o := zc hb (by omega) l3
      clear hap hsrc0 hrd0 hb hds hown hBH
      go_wp2_with (at_builtin; refine zr ?_)
      refine zar ?_
      refine zN (.tmp 101) (.tmp 105) 61 61 rfl rfl wo.heap.size 60 i2 (.agg #[.slice none 0 0, .slice none 0 0]) 2 48 Tryz.underlying61 hi2 hz2 hy2 hx2 rfl (by decide) (.slice none 0 0) 0 [] rfl (World.ownsRow_nil _ _ _ _) (.slice AL Ls.length cL) Ls.length (zaM fx0) rfl HS0.out (by simp only [maxLen]; omega) (by omega) (Nat.le_refl _) ?_
      intro v2 w2 ho2 hg2 hb2 hat2
      simp only [Nat.zero_add, List.nil_append] at ho2
      obtain ⟨Aa, ca, rfl⟩ := zu ho2
      obtain ⟨fx1, hf1', -, hsrc1, hrd1⟩ := znv (tx := 61) Tryz.underlying61 (zab.stays HF.out (HBH.out.trans (hb2.mono (by omega))))
      have HO2 := hid ho2; have HB2 := hid hb2; have HS1 := hid hsrc1; have HR1' := hid hrd1
      have hs2 := hb2.size
      clear ho2 hg2 hb2 hat2 hsrc1 hrd1
      go_wp2_with (at_builtin; refine zr ?_)
      refine zar ?_
      refine zN (.tmp 107) (.tmp 108) 61 61 rfl rfl wo.heap.size 60 i2 (.agg #[.slice none 0 0, .slice none 0 0]) 2 48 Tryz.underlying61 hi2 hz2 hy2 hx2 rfl (by decide) (.slice Aa Ls.length ca) Ls.length (zaM fx0) rfl HO2.out (.slice AF fs.length cF) fs.length (zaM fx1) rfl HS1.out (by simp only [maxLen]; omega) (by omega) hs2 ?_
      intro v3 w3 ho3 hg3 hb3 hat3
      obtain ⟨Ab, cb, rfl⟩ := zu ho3
      have hbo3 : Below wo.heap.size wo w3 := HB2.out.trans hb3
      have hs3 := hb3.size
      have hwo3 := hbo3.size
      have hB1 : Below H w w3 := HBH.out.trans (hbo3.mono (by omega))
      have hfac3 : zc8 w3 H (.slice Ab (Ls.length + fs.length) cb) (Ls ++ fs) := zc8.join hf0 hf1' (by omega) ho3 (fun j hj => ⟨zB.stays (HR0'.out j hj).1 (hbo3.mono (by omega)), zm.stays (HR0'.out j hj).2 (hbo3.mono (by omega))⟩) (fun j hj => ⟨zB.stays (HR1'.out j hj).1 (hb3.mono (by omega)), zm.stays (HR1'.out j hj).2 (hb3.mono (by omega))⟩)
      have hav : ∀ g, (Value.slice Ab (Ls.length + fs.length) cb).ownBlock = some g -> N <= g := fun g hg => by have := (ho3.lt g hg).1; omega
      have hw3 : Below w.heap.size w w3 := B1.out.trans ((HB.out.mono (by omega)).trans (hbo3.mono (by omega)))
      have s0' := zc hbo3 (by omega) (zc HB.out (by omega) s0)
      have s1' := zc hbo3 (by omega) (zc HB.out (by omega) s1)
      have s2' := zc hbo3 (by omega) (zc HB.out (by omega) s2)
      have l3' := zc hbo3 (by omega) (zc HB.out (by omega) l3)
      have d4' := zc hbo3 (by omega) (zc HB.out (by omega) d4)
      have HVW := hid (zcB _ s w3 ((HSV.out.below hB1).more (show H <= w3.heap.size by omega)) hs (by omega))
      have HFA := hid hfac3; have HAV := hid hav; have HB13 := hid hB1; have HW3 := hid hw3; have HDS3 := hid (HDS.out.on hbo3); have HOW3 := hid (zx HOW.out hbo3)
      have hlX : ∀ x ∈ zh s, x.length = s.1.length := fun x hx => by
       unfold zh at hx
       rcases List.mem_cons.1 hx with rfl | hx
       ·simp [zV]
       ·exact HVL.out x hx
      have HLX := hid hlX
      have hvn : (zh s).length <= 7 := by unfold zh; rw [List.length_cons]; omega
      have HALL := hid (show ∀ f ∈ Ls ++ fs, f.1.length = s.1.length /\ ∀ p ∈ f.1, p.length <= 1000 from fun f hf => by
       rcases List.mem_append.1 hf with hf | hf
       ·exact HOK.out.2.2 f hf
       ·exact ⟨(zeq (HFIT.out f hf)).1, zeB (HFIT.out f hf)⟩)
      have hal : (Ls ++ fs).length <= 508 := by rw [List.length_append]; omega
      clear l3o ho3 hg3 hb3 hat3 hbo3 hfac3 hav hB1 hw3 hlX hs2 s0 s1 s2 l3 d4 HS0 HS1 HR0' HR1' HO2 HB2
      generalize Ls ++ fs = all at *
      generalize Ls.length + fs.length = an at *
      go_wp2_with fail
      refine HVW.out.mono ?_
      rintro e w4 ⟨vv, rfl, hvv, hb4⟩
      obtain ⟨AV, cV, e, hcV, hmV⟩ := hvv.open_
      simp only [List.cons.injEq, and_true] at e
      subst e
      have HVV := hid hvv; have HB4 := hid hb4
      have hs4 := hb4.size
      have s0 := zc hb4 (by omega) s0'
      have s1 := zc hb4 (by omega) s1'
      have s2 := zc hb4 (by omega) s2'
      have l3 := zc hb4 (by omega) l3'
      have d4 := zc hb4 (by omega) d4'
      clear hvv hb4 s0' s1' s2' l3' d4'
      go_wp2
      go_loopw [15, 16, 17] (fun iv _ _ wr => LpV s all (zh s).length w4 iv wr) (fun iv _ _ _ => (zh s).length - (intOf iv).toNat)
      case atStart => exact ⟨0, by omega, rfl, rfl, Below.refl _ _⟩
      case round =>
       obtain ⟨i, hi, rfl, hei, hb⟩ := hrel
       have HEI := hid hei; have HB5 := hid hb
       have hs5 := hb.size
       have s0w := zc hb (by omega) s0
       have s1w := zc hb (by omega) s1
       have s2w := zc hb (by omega) s2
       clear hei hb
       by_cases hlt : i < (zh s).length
       ·obtain ⟨bV, oV, Ak, ck, rfl, hbV, xv, hrd⟩ := zdb ((zas zm).on HVV.out HB5.out) hlt
        have hgd : (zh s).getD i [] = (zh s)[i] := by rw [List.getD_eq_getElem?_getD, List.getElem?_eq_getElem hlt]; rfl
        have hln := HLX.out _ (List.getElem_mem hlt)
        have hst := zfc HEI.out
        rw [hgd] at hst
        have HROWS := hid (fun W (hq : Qu wr W) => zeY A1 A2 A3 s.1.length s.2.1.length s.2.2.length c1 c2 c3 (.slice Ab an cb) (.slice Ak (zh s)[i].length ck) all (zh s)[i] W
         (zc8.rd (H := H) (HFA.out.kept ((HB4.out.mono (by omega)).trans ((HB5.out.mono (by omega)).trans (hq.below _))) (fun g hg => by
          have hgl := (HFA.out.choose_spec.2.1.lt g hg).2
          exact ((HB4.out.trans ((HB5.out.mono (by omega)).trans (hq.below _))).block g hgl))) (by have := (hq.below wr.heap.size).size; omega))
         (zm.on hrd (hq.below _)) (fun f hf => ⟨by rw [(HALL.out f hf).1, hln]; exact Nat.le_refl _, (HALL.out f hf).2⟩) (by omega) (by omega) (by omega))
        generalize zan (s.2.1.length : Int) all (zh s)[i] all.length = rr at *
        have HST := hid hst
        clear hst hgd hrd hln
        go_wp2
        go_region_law (first
         | (go_simp; go_at_call 51; refine (HROWS.out _ ⟨1, rfl⟩).mono ?_; rintro e w6 ⟨o6, rfl, -, hb6⟩; have HB6 := hid ((HB5.out.trans ((Below.refl w4.heap.size wr).drew.trans (hb6.mono (by show w4.heap.size <= wr.heap.size; omega))))); clear hb6))
        all_goals
         clear s0w s1w s2w xv
         by_cases her : rr.2 = 0
         ·have t0 : (rr.2 != 0) = false := by rw [her]; rfl
          have HER := hid her
          clear her
          go_wp2
          go_roundw
          case rel => exact ⟨i + 1, by omega, by go_num, by rw [HST.out, if_neg (by rw [HER.out]; simp)], HB6.out⟩
          case measure => simp [intOf]; omega
         ·have t0 : (rr.2 != 0) = true := by rw [bne_iff_ne]; exact her
          have hst := HST.out
          rw [if_pos her] at hst
          have e3 : zbn s all (zh s).length = 14 := by rw [zgr (k := i + 1) (by rw [hst]; decide) (by omega), hst]
          have hap := HAP2.out
          rw [e3, if_pos (by decide)] at hap
          have HAP3 := hid hap
          clear hap e3 hst her
          go_wp2
          go_ret
          rw [HAP3.out]
          exact HSAME.out 14 _ (HW3.out.trans ((HB4.out.mono (by omega)).trans (HB6.out.mono (by omega))))
       ·obtain rfl : i = (zh s).length := by omega
        have l3w := zc HB5.out (by omega) l3
        have d4w := zc HB5.out (by omega) d4
        have hb3r : Below w3.heap.size w3 wr := HB4.out.trans (HB5.out.mono (by omega))
        have hwr : Below w.heap.size w wr := HW3.out.trans (hb3r.mono (by omega))
        have f3 : wr.frozen? ⟨b, 3, none⟩ = false := zy hwr hbl (HFZ.out 3 (by omega))
        have f4 : wr.frozen? ⟨b, 4, none⟩ = false := zy hwr hbl (HFZ.out 4 (by omega))
        have hlen : (zS s pls fs fs.length).1.length = pls.length := (zcC s pls fs fs.length HOK.out.2.1).1
        obtain ⟨e1, e2⟩ := zqy (N := N) (P := (zS s pls fs fs.length).1) hwr (by omega) HOB.out HOL.out hH HFZ.out s0w s1w s2w l3w d4w (HSV.out.below (HB13.out.trans (hb3r.mono (by omega)))) (HFA.out.kept (hb3r.mono (by omega)) (fun g hg => hb3r.block g (HFA.out.choose_spec.2.1.lt g hg).2)) HAV.out (by rw [hlen]; exact zx HOW3.out hb3r) (by rw [hlen]; exact HDS3.out.on hb3r)
        have hap := HAP2.out
        rw [if_neg (by rw [HEI.out]; simp)] at hap
        have HE1 := hid e1; have HE2 := hid e2; have HAP3 := hid hap
        clear e1 e2 hap hb3r hwr
        go_wp2
        go_ret
        rw [HAP3.out]
        exact ⟨_, _, rfl, HE1.out, HE2.out, fun g hg => by
         rcases hg with hg | hg
         ·exact .inl hg
         ·exact .inr (by omega)⟩
end Go.Proofs.YtgoapnkdcfcjgaaGreat
