/- 2 texts of this claim, in build order. -/
import Derived.Test.YtgoapnkdcfcjgaaGreatPcjenhmkf
import Derived.Test.YtgoapnkdcfcjgaaGreatPhpfbkhaa
import Derived.Test.YtgoapnkdcfcjgaaGreatPmlhmhnhg
set_option linter.unusedVariables false
set_option linter.unusedSimpArgs false
namespace Go.Proofs.YtgoapnkdcfcjgaaGreat
open Go.ChangeShapes Go.WideShapes Go.ChangeAt Go.RowKit
set_option maxRecDepth 100000 in
set_option maxHeartbeats 800000 in
theorem zlX (m : Int) (v : Value) (l : List Int) (w : World) (B : Nat) (hv : Sl w B v (zk l)) :
  Calls Tryz.prog 113 #[.int .i64 m, v] w (za5 (.bool (zaU m l)) w) := by
 obtain ⟨A1, c1, rfl, hc1, hm1⟩ := hv.formI
 unfold maxLen at hm1
 have S1 := hid hv; clear hv
 go_enter Tryz.func113, Tryz.ntmps113
 by_cases hl : (l.length : Int) = m
 ·have hval : zaU m l = l.all (fun x => inB x VAL) := by unfold zaU; rw [decide_eq_true hl, Bool.true_and]
  rw [hval]
  have u0 : ((l.length : Int) != m) = false := by simp [hl]
  clear hl hval
  go_wp2
  go_loopw [5] (fun i wr => zp6 l w i wr) (fun i _ => l.length - (intOf i).toNat)
  case atStart => exact ⟨0, by omega, rfl, by simp, Qu.refl _⟩
  case round =>
   obtain ⟨k, hk, rfl, hall, hq⟩ := hrel
   have HA := hid hall; clear hall
   by_cases hlt : k < l.length
   ·obtain ⟨b1, o1, rfl, hb1, hx1⟩ := S1.out.int hlt
    have g1 : wr.cell? ⟨b1, o1 + k, none⟩ = _ := (hq.cell _).trans hx1
    clear hx1
    have hm := zg9 hlt
    have hn := zdF HA.out hlt
    generalize l.getD k 0 = x at *
    have HM := hid hm; have HN := hid hn; clear hm hn
    have hf := fun w => zgt x 2305843009213693952 w (by omega) (by omega)
    cases hb : inB x 2305843009213693952
    ·rw [hb] at hf
     have HF := hid hf; have HB := hid hb; clear hf hb
     go_wp2_with fail
     refine (HF.out _).mono ?_
     rintro e w1 ⟨rfl, hq1⟩
     go_wp2
     go_ret
     refine ⟨zZ ?_, hq.trans hq1⟩
     symm
     rw [<- Bool.not_eq_true, List.all_eq_true]
     intro h
     have := h x HM.out
     rw [show inB x VAL = inB x 2305843009213693952 from rfl, HB.out] at this
     cases this
    ·rw [hb] at hf
     have HF := hid hf; have HB := hid hb; clear hf hb
     go_wp2_with fail
     refine (HF.out _).mono ?_
     rintro e w1 ⟨rfl, hq1⟩
     go_wp2
     go_roundw
     case rel => exact ⟨k + 1, by omega, by go_num, HN.out HB.out, hq.trans hq1⟩
     case measure => simp [intOf]; omega
   ·have := HA.out
    rw [List.take_of_length_le (by omega)] at this
    have HT := hid this; clear this
    go_wp2
    go_ret
    exact ⟨zZ (List.all_eq_true.2 (by simpa using HT.out)).symm, hq⟩
 ·have hval : zaU m l = false := by unfold zaU; rw [decide_eq_false hl, Bool.false_and]
  have u0 : ((l.length : Int) != m) = true := by simpa using hl
  have HV := hid hval
  clear hl hval
  go_wp2
  go_ret
  exact ⟨zZ HV.out.symm, Qu.refl _⟩
theorem zon {q : Nat} {l : List (List Int)} (hq : q <= 2) (hl : l ≠ []) (hn : l.length <= 1000) (hv : l.all (zaU q) = true) (h : ∀ i, i < q -> zfW (colL l i).sum = true) : mayC (zi q l) = true :=
 zaO.2 ((zc2 hq hl (by omega) (List.all_eq_true.1 hv)).2 (fun i hi => zdD.1 (h i hi)))
theorem zfZ {l : List Int} (h : l ≠ []) : l.foldl min (l.getD 0 0) = minL l := by
 cases l with
 | nil => exact absurd rfl h
 | cons x l => show l.foldl min (min x x) = _; rw [Int.min_self]; rfl
theorem zf7 {l : List Int} (h : l ≠ []) : l.foldl max (l.getD 0 0) = maxL l := by
 cases l with
 | nil => exact absurd rfl h
 | cons x l => show l.foldl max (max x x) = _; rw [Int.max_self]; rfl
theorem zcL {f : Int -> Int -> Int} {l : List Int} {k : Nat} {x0 : Int} (hk : k < l.length) : (l.take (k + 1)).foldl f x0 = f ((l.take k).foldl f x0) (l.getD k 0) := by
 rw [zP l k hk, List.foldl_append]; rfl
def FRel (q : Nat) (l : List (List Int)) (wb : World) (C : Nat) (s9 : Value) (wr : World) : Prop :=
 ∃ (i : Nat) (V : Nat -> Value), i <= q /\ s9 = .int .i64 i /\ (∀ j, j < i -> zfW (colL l j).sum = true) /\ Bld wr (C + 1) C (l.length : Int) V (X4 (zi q l).s (zi q l).lo (zi q l).hi i) /\ Below C wb wr
def BRel (l : List (List Int)) (i : Nat) (wo : World) (s10 s11 s12 s13 : Value) (wr : World) : Prop :=
 ∃ k : Nat, k <= l.length /\ s13 = .int .i64 k /\ wr.ownsRow wo.heap.size 3 1 s10 k (zk ((colL l i).take k)) /\ s11 = .int .i64 (((colL l i).take k).foldl min ((colL l i).getD 0 0)) /\ s12 = .int .i64 (((colL l i).take k).foldl max ((colL l i).getD 0 0)) /\ Below wo.heap.size wo wr
set_option maxRecDepth 100000 in
set_option maxHeartbeats 6400000 in
theorem ziY (m : Int) (v : Value) (l : List (List Int)) (w : World) (hv : zjY w w.heap.size v l) (hn : l.length <= 1000) :
  Calls Tryz.prog 79 #[.int .i64 m, v] w (zfA (zaQ m l) w) := by
 obtain ⟨i0, hi, hz0, hz1, hz2⟩ := info_parts zaE
 have HROWS := hid hv
 obtain ⟨A, c, rfl, hc, hcm, -⟩ := hv
 unfold maxLen at hcm
 have hrow : ∀ W, Below w.heap.size w W -> ∀ i, i < l.length -> ∃ b off u, A = some ⟨b, off, none⟩ /\ b < w.heap.size /\ W.cell? ⟨b, off + i, none⟩ = some u /\ Sl W w.heap.size u (zk (l.getD i [])) := fun W hb => by
  obtain ⟨A', c', e, -, -, h⟩ := HROWS.out.below hb
  injection e with e1 _ _
  subst e1
  exact h
 have HRW := hid hrow; clear hrow
 go_enter Tryz.func79, Tryz.ntmps79
 obtain ⟨W0, hW0⟩ : ∃ W, W = w.alloc (.cells #[.int .i64 0, .slice none 0 0, .slice none 0 0, .slice none 0 0] 125) := ⟨_, rfl⟩
 have hb0 : Below w.heap.size w W0 := by rw [hW0]; exact bl1 _ _
 have hs0 : W0.heap.size = w.heap.size + 1 := by rw [hW0]; simp
 have br : Blk W0 w.heap.size (.int .i64 0) (.slice none 0 0) (.slice none 0 0) (.slice none 0 0) := by rw [hW0]; exact Blk.new _ _ _ _ _ _
 have HB0 := hid hb0; have BR := hid br; have HS0 := hid hs0; have HW0 := hid hW0
 clear hb0 br hs0 hW0
 by_cases hm : m < 0 \/ 2 < m
 ·have HRR := hid (show zaQ m l = (nilC, 1) by unfold zaQ; rw [if_pos hm])
  obtain ⟨r0, r1, r2, r3, f0, f1, f2, f3⟩ := BR.out
  have hbel := fun v0 v1 v2 v3 => fin4 (b := w.heap.size) HB0.out (by omega) (by have := HS0.out; omega) v0 v1 v2 v3
  rw [HW0.out] at hbel r0 r1 r2 r3 f0 f1 f2 f3
  have HBL := hid hbel; clear hbel
  have hm' : m < 0 \/ (¬ m < 0 /\ 2 < m) := by omega
  clear hm
  rcases hm' with z1 | ⟨z1, z2⟩
  all_goals
   go_wp2
   exact bodyPost_ret (v := .tuple #[.agg #[.int .i64 0, .slice none 0 0, .slice none 0 0, .slice none 0 0], .int .i64 1]) (by simp [results, Tryz.results79, go_sem]; done) rfl (znd HRR.out rfl zaZ.nil_ (bl1 _ _))
 ·have HM := hid hm
  have z1 : ¬ m < 0 := by omega
  have z2 : ¬ 2 < m := by omega
  clear hm
  go_wp2
  rw [<- HW0.out]
  go_loopw [6] (fun i wr => VRel m l W0 i wr) (fun i _ => l.length - (intOf i).toNat)
  case atStart => exact ⟨0, by omega, rfl, fun j hj => by omega, Qu.refl _⟩
  case round =>
   obtain ⟨k, hk, rfl, hall, hq⟩ := hrel
   have HA := hid hall; clear hall
   have HQ := hid hq
   by_cases hlt : k < l.length
   ·obtain ⟨b, off, u, rfl, hb, hcu, hsu⟩ := HRW.out wr (HB0.out.trans (hq.below _)) k hlt
    have hbad := fun h => zkk (k := k) HM.out hlt h
    generalize hr : l.getD k [] = r at *
    have hvals := fun W (h : Qu wr W) => zlX m u r W w.heap.size (hsu.qu' h)
    obtain ⟨r0, r1, r2, r3, f0, f1, f2, f3⟩ := BR.out.qu hq
    have hsz := HS0.out
    have hqs := hq.size
    have HR := hid hr
    have HBAD := hid hbad
    clear hr hsu hbad
    cases hvb : zaU m r
    ·rw [hvb] at hvals
     have HVL := hid hvals
     have HRR := hid (HBAD.out hvb)
     clear hvals hvb
     go_wp2_with fail
     refine (HVL.out _ (Qu.refl _)).mono ?_
     rintro e w1 ⟨rfl, n1, rfl⟩
     have HBL := hid (fun v0 v1 v2 v3 => fin4 (b := w.heap.size) (zn (HB0.out.trans (HQ.out.below _)) n1) (Nat.le_refl _) (show w.heap.size < (wr.drewN n1).heap.size by show w.heap.size < wr.heap.size; omega) v0 v1 v2 v3)
     go_wp2
     exact bodyPost_ret (v := .tuple #[.agg #[.int .i64 0, .slice none 0 0, .slice none 0 0, .slice none 0 0], .int .i64 1]) (by simp [results, Tryz.results79, go_sem, r0, r1, r2, r3]; done) rfl (znd HRR.out rfl zaZ.nil_ (HBL.out _ _ _ _))
    ·rw [hvb] at hvals
     have HVL := hid hvals
     have HOK := hid hvb
     clear hvals hvb
     go_wp2_with fail
     refine (HVL.out _ (Qu.refl _)).mono ?_
     rintro e w1 ⟨rfl, hq1⟩
     go_wp2
     go_roundw
     case rel => exact ⟨k + 1, by omega, by go_num, zc3 (p := fun j => zaU m (l.getD j []) = true) HA.out (by rw [HR.out]; exact HOK.out), HQ.out.trans hq1⟩
     case measure => simp [intOf]; omega
   ·have hallv := zfT (m := m) (l := l) (fun j hj => HA.out j (by omega))
    have HALL := hid hallv
    clear hallv HA
    obtain ⟨q, rfl⟩ := Int.eq_ofNat_of_zero_le (show 0 <= m by omega)
    have hq2 : q <= 2 := by omega
    have HE := hid (fun W => zhg (q : Int) W)
    rw [zjR hq2] at HE
    have HW0r := hid (HB0.out.trans (hq.below w.heap.size))
    have hwr : w.heap.size < wr.heap.size := by have := HS0.out; have := hq.size; omega
    have BRr := hid (BR.out.qu hq)
    obtain rfl : k = l.length := by omega
    clear hq
    obtain ⟨wb, rfl⟩ : ∃ wb : World, wb = wr := ⟨_, rfl⟩
    by_cases hne : l = []
    ·have u0 : ((l.length : Int) == 0) = true := by simp [hne]
     have HRR := hid (show zaQ (q : Int) l = (zz q, 0) by unfold zaQ; rw [if_neg HM.out, if_neg (by rw [HALL.out]; simp), if_pos hne, Int.toNat_natCast])
     clear hne
     go_wp2_with fail
     refine (HE.out _).mono ?_
     rintro e w2 ⟨y, rfl, hoc, hb2⟩
     have hs2 := hb2.size
     have hoc' := hoc
     obtain ⟨y1, y2, y3, rfl, ho1, ho2, ho3, -, -⟩ := hoc
     obtain ⟨e1, g1, rfl, -, -, -⟩ := zl ho1
     obtain ⟨e2, g2, rfl, -, -, -⟩ := zl ho2
     obtain ⟨e3, g3, rfl, -, -, -⟩ := zl ho3
     have BR2 := hid (BRr.out.below hb2 (by omega))
     have HW2 := hid (HW0r.out.trans (hb2.mono (by omega)))
     have HFI := hid (fun v0 v1 v2 v3 => (hoc'.upd (upd4 w.heap.size w2 v0 v1 v2 v3) (by omega)).read)
     have HBL := hid (fun v0 v1 v2 v3 => fin4 (b := w.heap.size) HW2.out (Nat.le_refl _) (by omega) v0 v1 v2 v3)
     obtain ⟨r0, r1, r2, r3, f0, f1, f2, f3⟩ := BR2.out
     clear ho1 ho2 ho3 hoc' hb2
     go_wp2
     exact bodyPost_ret (v := .tuple #[.agg #[.int .i64 (zz q).n, .slice e1 (zz q).s.length g1, .slice e2 (zz q).lo.length g2, .slice e3 (zz q).hi.length g3], .int .i64 0]) (by simp [results, Tryz.results79, go_sem, r0, r1, r2, r3]; done) rfl (znd HRR.out rfl (HFI.out _ _ _ _) (HBL.out _ _ _ _))
    ·have hF := zkS hq2 hne hn HALL.out
     have HYS := hid (fun h => zon hq2 hne hn HALL.out h)
     have HF := hid hF
     have hpos := hF.pos
     have hl1000 := hF.n1000
     have u0 : ((l.length : Int) == 0) = false := by simp; omega
     clear hF hne
     go_wp2
     go_loopw [9] (fun s9 wx => FRel q l wb wb.heap.size s9 wx) (fun s9 _ => q - (intOf s9).toNat)
     case atStart => exact ⟨0, _, by omega, rfl, fun j hj => by omega, zbv (Bld.start rfl) (fun _ _ _ => rfl) (zbk rfl rfl rfl), bl1 _ _⟩
     case round =>
      obtain ⟨i, V, hi', rfl, hall, hbl, hw⟩ := hrel
      have HA := hid hall; have HBl := hid hbl; have HWr := hid hw
      have hsw := hw.size
      have HWW := hid (show Below w.heap.size w wr from HW0r.out.trans (hw.mono (by omega)))
      have BRx := hid (BRr.out.below hw (by omega))
      clear hall hbl hw
      by_cases hlt : i < q
      ·have hcv := HF.out.cv i hlt
       have hsb := znq (colL l i) hcv
       rw [zeQ] at hsb
       have HNO := hid (fun h => HF.out.no i hlt h)
       have HCL := hid (zeQ l i)
       have hcne : colL l i ≠ [] := List.ne_nil_of_length_pos (by rw [HCL.out]; exact hpos)
       have HMN := hid (zfZ hcne); have HMX := hid (zf7 hcne)
       have HCV := hid hcv; have HSB := hid hsb
       have E1 := hid (show (zi q l).s.take (i + 1) = (zi q l).s.take i ++ [(colL l i).sum] by rw [zP _ _ (by simp [zi]; exact hlt)]; congr 2; exact zF hlt)
       have E2 := hid (show (zi q l).lo.take (i + 1) = (zi q l).lo.take i ++ [minL (colL l i)] by rw [zP _ _ (by simp [zi]; exact hlt)]; congr 2; exact zF hlt)
       have E3 := hid (show (zi q l).hi.take (i + 1) = (zi q l).hi.take i ++ [maxL (colL l i)] by rw [zP _ _ (by simp [zi]; exact hlt)]; congr 2; exact zF hlt)
       have LK1 := hid (show ((zi q l).s.take i).length = i by rw [List.length_take]; simp [zi]; omega)
       have LK2 := hid (show ((zi q l).lo.take i).length = i by rw [List.length_take]; simp [zi]; omega)
       have LK3 := hid (show ((zi q l).hi.take i).length = i by rw [List.length_take]; simp [zi]; omega)
       obtain ⟨wo, rfl⟩ : ∃ wo : World, wo = wr := ⟨_, rfl⟩
       obtain ⟨b0, off0, u0', rfl, hb0', hcu0, hsu0⟩ := HRW.out wo HWW.out 0 hpos
       have hrl0 := HF.out.row 0 hpos
       have hgd0 := zfp l i 0 hpos
       obtain ⟨Ar0, cr0, rfl, hcr0, hcmr0⟩ := hsu0.formI
       unfold maxLen at hcmr0
       have hir0 : i < (l.getD 0 []).length := by omega
       obtain ⟨b20, o20, rfl, hb20, hx0⟩ := hsu0.int hir0
       rw [<- hgd0] at hx0
       rw [Nat.add_zero] at hcu0
       clear hcv hsb hcne hsu0 hgd0
       generalize hr0 : (l.getD 0 []).length = rl0 at *
       clear hr0
       go_wp2
       go_loopw [10, 11, 12, 13] (fun s10 s11 s12 s13 wx => BRel l i wo s10 s11 s12 s13 wx) (fun _ _ _ s13 _ => l.length - (intOf s13).toNat)
       case atStart => exact ⟨0, by omega, rfl, World.ownsRow_nil _ _ _ _, rfl, rfl, Below.refl _ _⟩
       case round =>
        obtain ⟨j, hj, rfl, hown, rfl, rfl, hba⟩ := hrel
        have HBA := hid hba
        have hsa := hba.size
        have HOWN := hid hown
        clear hown
        by_cases hlj : j < l.length
        ·obtain ⟨b, off, u, hA', hb, hcu, hsu⟩ := HRW.out wr (HWW.out.trans (hba.mono (by omega))) j hlj
         injection hA' with hA'
         injection hA' with hA1 hA2 _
         subst hA1; subst hA2
         have hrl := HF.out.row j hlj
         have hgd := zfp l i j hlj
         have htk := zP (colL l i) j (by rw [HCL.out]; exact hlj)
         have hfm := zcL (f := min) (x0 := (colL l i).getD 0 0) (show j < (colL l i).length by rw [HCL.out]; exact hlj)
         have hfx := zcL (f := max) (x0 := (colL l i).getD 0 0) (show j < (colL l i).length by rw [HCL.out]; exact hlj)
         rw [hgd] at htk hfm hfx
         have HTK := hid htk; have HFM := hid hfm; have HFX := hid hfx
         clear hgd htk hfm hfx
         generalize l.getD j [] = r at *
         obtain ⟨Ar, cr, rfl, hcr, hcmr⟩ := hsu.formI
         unfold maxLen at hcmr
         have hir : i < r.length := by omega
         obtain ⟨b2, o2, rfl, hb2', hx⟩ := hsu.int hir
         generalize r.getD i 0 = x at *
         generalize ((colL l i).take j).foldl min ((colL l i).getD 0 0) = le at *
         generalize ((colL l i).take j).foldl max ((colL l i).getD 0 0) = ge at *
         have HRL := hid hrl
         clear hsu hba hrl
         go_wp2_with (at_builtin; refine zr ?_)
         refine zar ?_
         refine zav (.tmp 69) (.tmp 77) 27 27 rfl rfl wo.heap.size 3 i0 (.int .i64 0) 1 8 Tryz.underlying27 hi hz0 hz1 hz2 rfl (by decide) _ _ _ rfl (HOWN.out.alloc _) (.slice (some ⟨wr.heap.size, 0, none⟩) 1 1) 1 (zk [x]) rfl (Src.ofSlice _ Tryz.underlying27 _ 1 1 _ rfl (zaK _ _ _ rfl) (by simp [zk]; rfl)) (by first | omega | (simp only [maxLen]; omega)) (by first | omega | (simp only [maxLen]; omega)) (by rw [World.size_alloc]; omega) ?_
         intro v' w' hown' hg' hb'
         have HOW' := hid hown'; have HBW' := hid ((HBA.out.alloc hsa _).trans hb')
         have hbw : Below wo.heap.size wr w' := ((Below.refl _ _).alloc hsa _).trans hb'
         have hcu' := zc hbw (by omega) hcu
         have hx' := zc hbw (by omega) hx
         clear hown' hg' hb' hbw
         rcases (show (x < le /\ min le x = x) \/ (¬ x < le /\ min le x = le) by omega) with ⟨y1, y2⟩ | ⟨y1, y2⟩
         all_goals have Y2 := hid y2; clear y2
         all_goals rcases (show (ge < x /\ max ge x = x) \/ (¬ ge < x /\ max ge x = ge) by omega) with ⟨y3, y4⟩ | ⟨y3, y4⟩
         all_goals
          have Y4 := hid y4; clear y4
          go_wp2
          go_roundw
          case rel => exact ⟨j + 1, by omega, by go_num, by rw [HTK.out]; have := HOW'.out; simpa [zk] using this, by rw [HFM.out, Y2.out], by rw [HFX.out, Y4.out], HBW'.out⟩
          case measure => simp [intOf]; omega
        ·obtain rfl : j = l.length := by omega
         have hown := HOWN.out
         have hful : (colL l i).take l.length = colL l i := List.take_of_length_le (by rw [HCL.out]; exact Nat.le_refl _)
         rw [hful] at hown ⊢
         rw [HMN.out, HMX.out]
         have HOW := hid hown
         obtain ⟨sb1, sb2⟩ := HSB.out
         unfold VAL at sb1 sb2
         have htot := znR u10 (colL l i) wr (by rw [HCL.out]; omega) (Sl.of_own hown) (by omega) (by omega)
         unfold zp9 at htot
         have HTOT := hid htot
         have hyes : zfW (colL l i).sum = true -> _ := fun h => zc3 (p := fun j => zfW (colL l j).sum = true) HA.out h
         have HYES := hid hyes
         generalize (colL l i).sum = sm at *
         generalize minL (colL l i) = mn at *
         generalize maxL (colL l i) = mx at *
         clear htot hown hba hful hyes
         cases hok : zfW sm
         ·rw [hok] at HTOT
          have hr := HF.out.res
          rw [HNO.out (fun h => by rw [zdD.2 h] at hok; cases hok), if_neg (by simp)] at hr
          have HRR := hid hr
          clear hr hok
          go_wp2_with fail
          refine HTOT.out.mono ?_
          rintro e w3 ⟨⟨s0, rfl, hs0⟩, hb3⟩
          have s3 := hb3.size
          have hbw := HBA.out.trans (hb3.mono hsa)
          obtain ⟨r0, r1, r2, r3, f0, f1, f2, f3⟩ := BRx.out.below hbw (by omega)
          have HBL := hid (fun v0 v1 v2 v3 => fin4 (b := w.heap.size) (HWW.out.trans (hbw.mono (by omega))) (Nat.le_refl _) (by omega) v0 v1 v2 v3)
          clear hb3 hbw hs0
          go_wp2
          exact bodyPost_ret (v := .tuple #[.agg #[.int .i64 0, .slice none 0 0, .slice none 0 0, .slice none 0 0], .int .i64 14]) (by simp [results, Tryz.results79, go_sem, r0, r1, r2, r3]; done) rfl (znd HRR.out rfl zaZ.nil_ (HBL.out _ _ _ _))
         ·have HOK := hid hok
          rw [hok] at HTOT
          clear hok
          go_wp2_with fail
          refine HTOT.out.mono ?_
          rintro e w3 ⟨⟨s0, rfl, hs0⟩, hb3⟩
          obtain rfl : s0 = sm := hs0 (by first | trivial | rfl)
          have s3 := hb3.size
          have hbw := HBA.out.trans (hb3.mono hsa)
          have HBW := hid hbw
          have HK3 := hid (HBl.out.kept hbw)
          clear hb3 hbw hs0
          have sz1 : wb.heap.size + 1 <= (w3).heap.size := HK3.out.hs
          have o1 : (w3).ownsRow (wb.heap.size + 1) 3 1 (V 1) (i) (zk ((zi q l).s.take i)) := by have h : (w3).ownsRow (wb.heap.size + 1) 3 1 (V 1) ((zi q l).s.take i).length (zk ((zi q l).s.take i)) := HK3.out.own 1 (by omega) (by omega); rwa [show ((zi q l).s.take i).length = i from LK1.out] at h
          obtain ⟨za1, zd1, sh1, hc1, hm1, -⟩ := zl o1
          have q1 : (w3).cell? ⟨wb.heap.size, 1, none⟩ = some (V 1) := (HK3.out.cj 1 (by omega) (by omega))
          rw [sh1] at q1 o1; clear hc1 hm1
          go_wp2_with (at_builtin; refine zr ?_)
          refine zar ?_
          refine zN (.tmp 120) (.tmp 122) 27 27 rfl rfl (wb.heap.size + 1) 3 i0 (.int .i64 0) 1 8 Tryz.underlying27 hi hz0 hz1 hz2 rfl (by decide) (.slice za1 (i) zd1) _ _ rfl (o1.alloc _) (.slice (some ⟨w3.heap.size, 0, none⟩) 1 1) 1 (zk [s0]) rfl (Src.ofSlice _ Tryz.underlying27 _ 1 1 _ rfl (zaK _ _ _ rfl) (by simp [zk]; rfl)) (by first | omega | (simp only [maxLen]; omega)) (by first | omega | (simp only [maxLen]; omega)) (by rw [World.size_alloc]; omega) ?_
          intro zv1 zw1 hown1 hg1 _ hat1
          rw [<- sh1] at hg1 hat1
          obtain ⟨mm1, ff1, st1, far1⟩ := HK3.out.step 1 (by omega) (by omega) (bl1 _ _) hown1 hg1 hat1
          obtain ⟨zb1, ze1, rfl, -, -, -⟩ := zl hown1
          replace mm1 : zw1.cell? ⟨wb.heap.size, 1, none⟩ = some (.slice za1 (i) zd1) := mm1.trans (congrArg some sh1)
          have HB1 := hid st1; have HF1 := hid far1; clear st1 far1 hown1 hg1 hat1 q1 o1 sh1
          have sz2 : wb.heap.size + 1 <= (zw1.setCell ⟨wb.heap.size, 1, none⟩ (.slice zb1 (i + 1) ze1)).heap.size := HB1.out.hs
          have o2 : (zw1.setCell ⟨wb.heap.size, 1, none⟩ (.slice zb1 (i + 1) ze1)).ownsRow (wb.heap.size + 1) 3 1 (V 2) (i) (zk ((zi q l).lo.take i)) := by have h : (zw1.setCell ⟨wb.heap.size, 1, none⟩ (.slice zb1 (i + 1) ze1)).ownsRow (wb.heap.size + 1) 3 1 (V 2) ((zi q l).lo.take i).length (zk ((zi q l).lo.take i)) := HB1.out.own 2 (by omega) (by omega); rwa [show ((zi q l).lo.take i).length = i from LK2.out] at h
          obtain ⟨za2, zd2, sh2, hc2, hm2, -⟩ := zl o2
          have q2 : (zw1.setCell ⟨wb.heap.size, 1, none⟩ (.slice zb1 (i + 1) ze1)).cell? ⟨wb.heap.size, 2, none⟩ = some (V 2) := (HB1.out.cj 2 (by omega) (by omega))
          rw [sh2] at q2 o2; clear hc2 hm2
          go_wp2_with (at_builtin; refine zr ?_)
          refine zar ?_
          refine zN (.tmp 126) (.tmp 128) 27 27 rfl rfl (wb.heap.size + 1) 3 i0 (.int .i64 0) 1 8 Tryz.underlying27 hi hz0 hz1 hz2 rfl (by decide) (.slice za2 (i) zd2) _ _ rfl (o2.alloc _) (.slice (some ⟨zw1.heap.size, 0, none⟩) 1 1) 1 (zk [mn]) rfl (Src.ofSlice _ Tryz.underlying27 _ 1 1 _ rfl (zaK _ _ _ (by simp [World.setCell])) (by simp [zk]; rfl)) (by first | omega | (simp only [maxLen]; omega)) (by first | omega | (simp only [maxLen]; omega)) (by rw [World.size_alloc]; omega) ?_
          intro zv2 zw2 hown2 hg2 _ hat2
          rw [<- sh2] at hg2 hat2
          obtain ⟨mm2, ff2, st2, far2⟩ := HB1.out.step 2 (by omega) (by omega) (bl1 _ _) hown2 hg2 hat2
          obtain ⟨zb2, ze2, rfl, -, -, -⟩ := zl hown2
          replace mm2 : zw2.cell? ⟨wb.heap.size, 2, none⟩ = some (.slice za2 (i) zd2) := mm2.trans (congrArg some sh2)
          have HB2 := hid st2; have HF2 := hid far2; clear st2 far2 hown2 hg2 hat2 q2 o2 sh2
          have sz3 : wb.heap.size + 1 <= (zw2.setCell ⟨wb.heap.size, 2, none⟩ (.slice zb2 (i + 1) ze2)).heap.size := HB2.out.hs
          have o3 : (zw2.setCell ⟨wb.heap.size, 2, none⟩ (.slice zb2 (i + 1) ze2)).ownsRow (wb.heap.size + 1) 3 1 (V 3) (i) (zk ((zi q l).hi.take i)) := by have h : (zw2.setCell ⟨wb.heap.size, 2, none⟩ (.slice zb2 (i + 1) ze2)).ownsRow (wb.heap.size + 1) 3 1 (V 3) ((zi q l).hi.take i).length (zk ((zi q l).hi.take i)) := HB2.out.own 3 (by omega) (by omega); rwa [show ((zi q l).hi.take i).length = i from LK3.out] at h
          obtain ⟨za3, zd3, sh3, hc3, hm3, -⟩ := zl o3
          have q3 : (zw2.setCell ⟨wb.heap.size, 2, none⟩ (.slice zb2 (i + 1) ze2)).cell? ⟨wb.heap.size, 3, none⟩ = some (V 3) := (HB2.out.cj 3 (by omega) (by omega))
          rw [sh3] at q3 o3; clear hc3 hm3
          go_wp2_with (at_builtin; refine zr ?_)
          refine zar ?_
          refine zN (.tmp 132) (.tmp 134) 27 27 rfl rfl (wb.heap.size + 1) 3 i0 (.int .i64 0) 1 8 Tryz.underlying27 hi hz0 hz1 hz2 rfl (by decide) (.slice za3 (i) zd3) _ _ rfl (o3.alloc _) (.slice (some ⟨zw2.heap.size, 0, none⟩) 1 1) 1 (zk [mx]) rfl (Src.ofSlice _ Tryz.underlying27 _ 1 1 _ rfl (zaK _ _ _ (by simp [World.setCell])) (by simp [zk]; rfl)) (by first | omega | (simp only [maxLen]; omega)) (by first | omega | (simp only [maxLen]; omega)) (by rw [World.size_alloc]; omega) ?_
          intro zv3 zw3 hown3 hg3 _ hat3
          rw [<- sh3] at hg3 hat3
          obtain ⟨mm3, ff3, st3, far3⟩ := HB2.out.step 3 (by omega) (by omega) (bl1 _ _) hown3 hg3 hat3
          obtain ⟨zb3, ze3, rfl, -, -, -⟩ := zl hown3
          replace mm3 : zw3.cell? ⟨wb.heap.size, 3, none⟩ = some (.slice za3 (i) zd3) := mm3.trans (congrArg some sh3)
          have HB3 := hid st3; have HF3 := hid far3; clear st3 far3 hown3 hg3 hat3 q3 o3 sh3
          go_wp2
          go_roundw
          case rel => exact ⟨i + 1, _, by omega, by go_num, HYES.out HOK.out, zbv HB3.out (fun _ _ _ => rfl) (zbk E1.out.symm E2.out.symm E3.out.symm), HF3.out _ _ (by omega) (by omega) (HF2.out _ _ (by omega) (by omega) (HF1.out _ _ (by omega) (by omega) (HWr.out.trans (HBW.out.mono hsw))))⟩
          case measure => simp [intOf]; omega
      ·obtain rfl : i = q := by omega
       have z1 : X4 (zi i l).s (zi i l).lo (zi i l).hi i 1 = (zi i l).s := List.take_of_length_le (by simp [zi])
       have z2 : X4 (zi i l).s (zi i l).lo (zi i l).hi i 2 = (zi i l).lo := List.take_of_length_le (by simp [zi])
       have z3' : X4 (zi i l).s (zi i l).lo (zi i l).hi i 3 = (zi i l).hi := List.take_of_length_le (by simp [zi])
       have hr := HF.out.res
       rw [HYS.out HA.out, if_pos rfl] at hr
       have HRR := hid hr
       have q0 := HBl.out.c0
       have q1 := HBl.out.cj 1 (by omega) (by omega)
       have q2 := HBl.out.cj 2 (by omega) (by omega)
       have q3 := HBl.out.cj 3 (by omega) (by omega)
       have ow := HBl.out.own
       obtain ⟨e1, g1, sh1, -, -, -⟩ := zl (ow 1 (by omega) (by omega))
       obtain ⟨e2, g2, sh2, -, -, -⟩ := zl (ow 2 (by omega) (by omega))
       obtain ⟨e3, g3, sh3, -, -, -⟩ := zl (ow 3 (by omega) (by omega))
       have hbel := fun v0 v1 v2 v3 => fin4 (b := w.heap.size) HWW.out (Nat.le_refl _) (by omega) v0 v1 v2 v3
       have hres := fun v0 v1 v2 v3 => (HBl.out.upd (upd4 w.heap.size wr v0 v1 v2 v3) (by omega) (by omega)).read
       rw [z1, z2, z3'] at hres
       generalize (X4 (zi i l).s (zi i l).lo (zi i l).hi i 1).length = m1 at *
       generalize (X4 (zi i l).s (zi i l).lo (zi i l).hi i 2).length = m2 at *
       generalize (X4 (zi i l).s (zi i l).lo (zi i l).hi i 3).length = m3 at *
       rw [sh1, sh2, sh3] at hres
       rw [sh1] at q1
       rw [sh2] at q2
       rw [sh3] at q3
       have HRES := hid hres; have HBL := hid hbel
       obtain ⟨r0, r1, r2, r3, f0, f1, f2, f3⟩ := BRx.out
       clear hres hbel hr z1 z2 z3' sh1 sh2 sh3 ow
       go_wp2
       exact bodyPost_ret (v := .tuple #[.agg #[.int .i64 (l.length : Int), .slice e1 m1 g1, .slice e2 m2 g2, .slice e3 m3 g3], .int .i64 0]) (by simp [results, Tryz.results79, go_sem, r0, r1, r2, r3]; done) rfl (znd HRR.out rfl (HRES.out _ _ _ _) (HBL.out _ _ _ _))
end Go.Proofs.YtgoapnkdcfcjgaaGreat
