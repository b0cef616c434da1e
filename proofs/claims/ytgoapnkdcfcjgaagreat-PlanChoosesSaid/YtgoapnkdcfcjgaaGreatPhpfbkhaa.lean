/- 1 text of this claim, in build order. -/
import Derived.Test.YtgoapnkdcfcjgaaGreatPcjenhmkf
set_option linter.unusedVariables false
set_option linter.unusedSimpArgs false
namespace Go.Proofs.YtgoapnkdcfcjgaaGreat
open Go.ChangeShapes Go.WideShapes Go.ChangeAt Go.RowKit
def zjY (w : World) (B : Nat) (v : Value) (l : List (List Int)) : Prop := ∃ A c, v = .slice A l.length c /\ l.length <= c /\ c <= maxLen /\
 ∀ i, i < l.length -> ∃ b off u, A = some ⟨b, off, none⟩ /\ b < B /\ w.cell? ⟨b, off + i, none⟩ = some u /\ Sl w B u (zk (l.getD i []))
theorem zjY.below {w w' : World} {B : Nat} {v : Value} {l : List (List Int)} (h : zjY w B v l) (hb : Below B w w') : zjY w' B v l := by
 obtain ⟨A, c, e, h1, h2, h3⟩ := h
 refine ⟨A, c, e, h1, h2, fun i hi => ?_⟩
 obtain ⟨b, off, u, e1, h4, h5, h6⟩ := h3 i hi
 exact ⟨b, off, u, e1, h4, zc hb h4 h5, h6.below hb⟩
def VRel (m : Int) (l : List (List Int)) (w : World) (i : Value) (wr : World) : Prop := ∃ k : Nat, k <= l.length /\ i = .int .i64 k /\ (∀ j, j < k -> zaU m (l.getD j []) = true) /\ Qu w wr
theorem zfT {m : Int} {l : List (List Int)} (h : ∀ j, j < l.length -> zaU m (l.getD j []) = true) : l.all (zaU m) = true := by
 rw [List.all_eq_true]
 intro x hx
 obtain ⟨j, hj, rfl⟩ := List.getElem_of_mem hx
 have := h j hj
 rwa [List.getD_eq_getElem?_getD, List.getElem?_eq_getElem hj] at this
theorem zkk {m : Int} {l : List (List Int)} {k : Nat} (hm : ¬ (m < 0 \/ 2 < m)) (hk : k < l.length) (h : zaU m (l.getD k []) = false) : zaQ m l = (nilC, 1) := by
 unfold zaQ
 rw [if_neg hm, if_pos]
 rw [<- Bool.not_eq_true, List.all_eq_true]
 intro h'
 have := h' (l.getD k []) (by rw [List.getD_eq_getElem?_getD, List.getElem?_eq_getElem hk]; exact List.getElem_mem hk)
 rw [h] at this; cases this
theorem znq (l : List Int) (hr : ∀ x ∈ l, -VAL <= x /\ x <= VAL) : -VAL * (l.length : Int) <= l.sum /\ l.sum <= VAL * (l.length : Int) := by
 unfold VAL at *
 induction l with
 | nil => simp
 | cons x l ih =>
   have h1 := hr x List.mem_cons_self
   have h2 := ih (fun y hy => hr y (List.mem_cons_of_mem _ hy))
   rw [List.sum_cons, List.length_cons]
   omega
theorem zeQ (l : List (List Int)) (i : Nat) : (colL l i).length = l.length := by simp [colL]
theorem zfp (l : List (List Int)) (i k : Nat) (hk : k < l.length) : (colL l i).getD k 0 = (l.getD k []).getD i 0 := by
 simp [colL, List.getD_eq_getElem?_getD, List.getElem?_eq_getElem hk]
structure FoldF (q : Nat) (l : List (List Int)) : Prop where
 q2 : q <= 2
 ne : l ≠ []
 pos : 0 < l.length
 n1000 : l.length <= 1000
 row : ∀ j, j < l.length -> (l.getD j []).length = q
 cv : ∀ i, i < q -> ∀ x ∈ colL l i, -VAL <= x /\ x <= VAL
 no : ∀ i, i < q -> ¬ (-SUM <= (colL l i).sum /\ (colL l i).sum <= SUM) -> mayC (zi q l) = false
 res : zaQ (q : Int) l = if mayC (zi q l) then (zi q l, 0) else (nilC, 14)
theorem zkS {q : Nat} {l : List (List Int)} (hq : q <= 2) (hl : l ≠ []) (hn : l.length <= 1000) (hv : l.all (zaU q) = true) : FoldF q l := by
 have hv' : ∀ v ∈ l, zaU q v = true := List.all_eq_true.1 hv
 have hm := zc2 hq hl (by omega) hv'
 refine ⟨hq, hl, List.length_pos_iff.2 hl, hn, fun j hj => ?_, fun i hi => zig hv' hi, fun i hi h => ?_, ?_⟩
 ·have h := hv' (l.getD j []) (by rw [List.getD_eq_getElem?_getD, List.getElem?_eq_getElem hj]; exact List.getElem_mem hj)
  have := (zcH.1 h).1
  omega
 ·rw [zeJ, hm]
  exact fun h' => h (h' i hi)
 ·unfold zaQ
  rw [if_neg (by omega), if_neg (by rw [hv]; simp), if_neg hl, Int.toNat_natCast]
def ARel (l : List (List Int)) (i : Nat) (wo : World) (s10 s55 : Value) (wr : World) : Prop :=
 ∃ k : Nat, k <= l.length /\ s55 = .int .i64 k /\ wr.ownsRow wo.heap.size 3 1 s10 k (zk ((colL l i).take k)) /\ Below wo.heap.size wo wr
def zmJ (f : Int -> Int -> Int) (l : List Int) (w : World) (m i : Value) (wr : World) : Prop := ∃ k : Nat, 1 <= k /\ k <= l.length /\ i = .int .i64 k /\ m = .int .i64 ((l.take k).tail.foldl f (l.getD 0 0)) /\ w = wr
set_option maxRecDepth 100000 in
set_option maxHeartbeats 800000 in
theorem zpD (v : Value) (l : List Int) (w : World) (B : Nat) (hv : Sl w B v (zk l)) (h0 : l ≠ []) :
  Calls Tryz.prog 103 #[v] w (fun e w' => e = .returned (.int .i64 (minL l)) /\ w = w') := by
 rw [zot h0]
 obtain ⟨A1, c1, rfl, hc1, hm1⟩ := hv.formI
 unfold maxLen at hm1
 have hpos := List.length_pos_iff.2 h0
 obtain ⟨b1, o1, rfl, hb1, hx0⟩ := hv.int hpos
 rw [Nat.add_zero] at hx0
 have S1 := hid hv; clear hv h0
 go_enter Tryz.func103, Tryz.ntmps103
 go_wp2
 go_loopw [3, 4] (fun m i wr => zmJ min l w m i wr) (fun _ i _ => l.length - (intOf i).toNat)
 case atStart => exact ⟨1, by omega, by omega, rfl, by rw [show (l.take 1).tail = [] by cases l <;> simp]; simp [List.getD_eq_getElem?_getD, List.getElem?_eq_getElem hpos], rfl⟩
 case round =>
  obtain ⟨k, hk1, hk, rfl, rfl, rfl⟩ := hrel
  by_cases hlt : k < l.length
  ·obtain ⟨b2, o2, e, hb2, hx1⟩ := S1.out.int hlt
   injection e with e; injection e with e1 e2 _; subst e1 e2
   have g1 : w.cell? ⟨b1, o1 + k, none⟩ = _ := hx1
   clear hx1
   have hs := zh5 (f := min) hk1 hlt
   generalize l.getD k 0 = x at *
   generalize (l.take k).tail.foldl min (l.getD 0 0) = y at *
   have HS := hid hs; clear hs
   go_wp2
   go_roundw
   case rel => exact ⟨k + 1, by omega, by omega, by go_num, by rw [HS.out] <;> (congr 1; rw [Int.min_def]; split <;> split <;> omega), rfl⟩
   case measure => simp [intOf]; omega
  ·obtain rfl : k = l.length := by omega
   go_wp2
   go_ret
   exact ⟨by first | rfl | (rw [List.take_length]; rfl), rfl⟩
set_option maxRecDepth 100000 in
set_option maxHeartbeats 800000 in
theorem zpi (v : Value) (l : List Int) (w : World) (B : Nat) (hv : Sl w B v (zk l)) (h0 : l ≠ []) :
  Calls Tryz.prog 104 #[v] w (fun e w' => e = .returned (.int .i64 (maxL l)) /\ w = w') := by
 rw [zoa h0]
 obtain ⟨A1, c1, rfl, hc1, hm1⟩ := hv.formI
 unfold maxLen at hm1
 have hpos := List.length_pos_iff.2 h0
 obtain ⟨b1, o1, rfl, hb1, hx0⟩ := hv.int hpos
 rw [Nat.add_zero] at hx0
 have S1 := hid hv; clear hv h0
 go_enter Tryz.func104, Tryz.ntmps104
 go_wp2
 go_loopw [3, 4] (fun m i wr => zmJ max l w m i wr) (fun _ i _ => l.length - (intOf i).toNat)
 case atStart => exact ⟨1, by omega, by omega, rfl, by rw [show (l.take 1).tail = [] by cases l <;> simp]; simp [List.getD_eq_getElem?_getD, List.getElem?_eq_getElem hpos], rfl⟩
 case round =>
  obtain ⟨k, hk1, hk, rfl, rfl, rfl⟩ := hrel
  by_cases hlt : k < l.length
  ·obtain ⟨b2, o2, e, hb2, hx1⟩ := S1.out.int hlt
   injection e with e; injection e with e1 e2 _; subst e1 e2
   have g1 : w.cell? ⟨b1, o1 + k, none⟩ = _ := hx1
   clear hx1
   have hs := zh5 (f := max) hk1 hlt
   generalize l.getD k 0 = x at *
   generalize (l.take k).tail.foldl max (l.getD 0 0) = y at *
   have HS := hid hs; clear hs
   go_wp2
   go_roundw
   case rel => exact ⟨k + 1, by omega, by omega, by go_num, by rw [HS.out] <;> (congr 1; rw [Int.max_def]; split <;> split <;> omega), rfl⟩
   case measure => simp [intOf]; omega
  ·obtain rfl : k = l.length := by omega
   go_wp2
   go_ret
   exact ⟨by first | rfl | (rw [List.take_length]; rfl), rfl⟩
set_option maxRecDepth 100000 in
set_option maxHeartbeats 6400000 in
theorem zkf (m : Int) (v : Value) (l : List (List Int)) (w : World) (hv : zjY w w.heap.size v l) (hn : l.length <= 1000) :
  Calls Tryz.prog 71 #[.int .i64 m, v] w (zhk (zaQ m l) w) := by
 obtain ⟨i0, hi, hz0, hz1, hz2⟩ := info_parts zaE
 have HROWS := hid hv
 obtain ⟨A, c, rfl, hc, hcm, -⟩ := hv
 unfold maxLen at hcm
 have hrow : ∀ W, Below w.heap.size w W -> ∀ i, i < l.length -> ∃ b off u, A = some ⟨b, off, none⟩ /\ b < w.heap.size /\ W.cell? ⟨b, off + i, none⟩ = some u /\ Sl W w.heap.size u (zk (l.getD i [])) := fun W hb => by
  obtain ⟨A', c', e, -, -, h⟩ := HROWS.out.below hb
  injection e with e1 _ _
  subst e1
  exact h
 have HRW := hid hrow; clear hrow
 go_enter Tryz.func71, Tryz.ntmps71
 obtain ⟨W0, hW0⟩ : ∃ W, W = w.alloc (.cells #[.int .i64 0, .slice none 0 0, .slice none 0 0, .slice none 0 0] 125) := ⟨_, rfl⟩
 have hb0 : Below w.heap.size w W0 := by rw [hW0]; exact bl1 _ _
 have hs0 : W0.heap.size = w.heap.size + 1 := by rw [hW0]; simp
 have br : Blk W0 w.heap.size (.int .i64 0) (.slice none 0 0) (.slice none 0 0) (.slice none 0 0) := by rw [hW0]; exact Blk.new _ _ _ _ _ _
 have HB0 := hid hb0; have BR := hid br; have HS0 := hid hs0; have HW0 := hid hW0
 clear hb0 br hs0 hW0
 by_cases hm : m < 0 \/ 2 < m
 ·have HRR := hid (show zaQ m l = (nilC, 1) by unfold zaQ; rw [if_pos hm])
  obtain ⟨r0, r1, r2, r3, f0, f1, f2, f3⟩ := BR.out
  have hbel := fun v0 v1 v2 v3 => fin4 (b := w.heap.size) HB0.out (by omega) (by have := HS0.out; omega) v0 v1 v2 v3
  rw [HW0.out] at hbel r0 r1 r2 r3 f0 f1 f2 f3
  have HBL := hid hbel; clear hbel
  have hm' : m < 0 \/ (¬ m < 0 /\ 2 < m) := by omega
  clear hm
  rcases hm' with z1 | ⟨z1, z2⟩
  all_goals
   go_wp2
   exact bodyPost_ret (v := .tuple #[.agg #[.int .i64 0, .slice none 0 0, .slice none 0 0, .slice none 0 0], .int .i64 1]) (by simp [results, Tryz.results71, go_sem]; done) rfl (zdo HRR.out rfl (OwnC.nil_ _ _) (bl1 _ _))
 ·have HM := hid hm
  have z1 : ¬ m < 0 := by omega
  have z2 : ¬ 2 < m := by omega
  clear hm
  go_wp2
  rw [<- HW0.out]
  go_loopw [26] (fun i wr => VRel m l W0 i wr) (fun i _ => l.length - (intOf i).toNat)
  case atStart => exact ⟨0, by omega, rfl, fun j hj => by omega, Qu.refl _⟩
  case round =>
   obtain ⟨k, hk, rfl, hall, hq⟩ := hrel
   have HA := hid hall; clear hall
   have HQ := hid hq
   by_cases hlt : k < l.length
   ·obtain ⟨b, off, u, rfl, hb, hcu, hsu⟩ := HRW.out wr (HB0.out.trans (hq.below _)) k hlt
    have hbad := fun h => zkk (k := k) HM.out hlt h
    generalize hr : l.getD k [] = r at *
    obtain ⟨Ar, cr, rfl, hcr, hcmr⟩ := hsu.formI
    unfold maxLen at hcmr
    have HC := hid (fun W (h : Qu wr W) => zhh (.slice Ar r.length cr) r W w.heap.size (hsu.qu' h))
    obtain ⟨r0, r1, r2, r3, f0, f1, f2, f3⟩ := BR.out.qu hq
    have HBAD := hid hbad
    have hsz := HS0.out
    have hqs := hq.size
    have HR := hid hr
    clear hsu hbad hr
    by_cases hl : (r.length : Int) = m
    ·have hval : zaU m r = r.all (fun x => inB x VAL) := by unfold zaU; rw [decide_eq_true hl, Bool.true_and]
     have u0 : ((r.length : Int) != m) = false := by simp [hl]
     have HVAL := hid hval
     clear hl hval
     cases hbb : r.all (fun x => inB x VAL)
     ·rw [hbb] at HC
      have HRR := hid (HBAD.out (by rw [HVAL.out, hbb]))
      have HC' := hid (show ∀ W, Qu wr W -> Calls Tryz.prog 80 #[.slice Ar r.length cr, .func (Fn.func 98) #[] #[]] W (za5 (.bool true) W) from HC.out)
      clear HC hbb
      go_wp2_with fail
      refine (HC'.out _ (Qu.refl _)).mono ?_
      rintro e w1 ⟨rfl, n1, rfl⟩
      have hbel := fun v0 v1 v2 v3 => fin4 (b := w.heap.size) (zn (HB0.out.trans (hq.below _)) n1) (by omega) (show w.heap.size < (wr.drewN n1).heap.size by show w.heap.size < wr.heap.size; omega) v0 v1 v2 v3
      have HBL := hid hbel; clear hbel
      go_wp2
      exact bodyPost_ret (v := .tuple #[.agg #[.int .i64 0, .slice none 0 0, .slice none 0 0, .slice none 0 0], .int .i64 1]) (by simp [results, Tryz.results71, go_sem, r0, r1, r2, r3]; done) rfl (zdo HRR.out rfl (OwnC.nil_ _ _) (HBL.out _ _ _ _))
     ·rw [hbb] at HC
      have hok := hid (show zaU m r = true by rw [HVAL.out, hbb])
      have HC' := hid (show ∀ W, Qu wr W -> Calls Tryz.prog 80 #[.slice Ar r.length cr, .func (Fn.func 98) #[] #[]] W (za5 (.bool false) W) from HC.out)
      clear HC hbb
      go_wp2_with fail
      refine (HC'.out _ (Qu.refl _)).mono ?_
      rintro e w1 ⟨rfl, hq1⟩
      go_wp2
      go_roundw
      case rel => exact ⟨k + 1, by omega, by go_num, zc3 (p := fun j => zaU m (l.getD j []) = true) HA.out (by rw [HR.out]; exact hok.out), HQ.out.trans hq1⟩
      case measure => simp [intOf]; omega
    ·have hval : zaU m r = false := by unfold zaU; rw [decide_eq_false hl, Bool.false_and]
     have u0 : ((r.length : Int) != m) = true := by simpa using hl
     have HRR := hid (HBAD.out hval)
     clear hl hval
     have hbel := fun v0 v1 v2 v3 => fin4 (b := w.heap.size) (HB0.out.trans (hq.below _)) (by omega) (by omega) v0 v1 v2 v3
     have HBL := hid hbel; clear hbel
     go_wp2
     exact bodyPost_ret (v := .tuple #[.agg #[.int .i64 0, .slice none 0 0, .slice none 0 0, .slice none 0 0], .int .i64 1]) (by simp [results, Tryz.results71, go_sem, r0, r1, r2, r3]; done) rfl (zdo HRR.out rfl (OwnC.nil_ _ _) (HBL.out _ _ _ _))
   ·have hallv := zfT (m := m) (l := l) (fun j hj => HA.out j (by omega))
    have HALL := hid hallv
    clear hallv HA
    obtain ⟨q, rfl⟩ := Int.eq_ofNat_of_zero_le (show 0 <= m by omega)
    have hq2 : q <= 2 := by omega
    have HE := hid (fun W => zdM (q : Int) W)
    rw [zjR hq2] at HE
    have HW0r := hid (HB0.out.trans (hq.below w.heap.size))
    have hwr : wr.heap.size = w.heap.size + 1 := by have := HS0.out; have := hq.size; omega
    have BRr := hid (BR.out.qu hq)
    obtain rfl : k = l.length := by omega
    clear hq
    obtain ⟨wb, rfl⟩ : ∃ wb : World, wb = wr := ⟨_, rfl⟩
    go_wp2_with fail
    refine (HE.out _).mono ?_
    rintro e w2 ⟨y, rfl, hoc, hb2⟩
    have hs2 := hb2.size
    have hoc' := hoc
    obtain ⟨y1, y2, y3, rfl, ho1, ho2, ho3, -, -⟩ := hoc
    have hlen : (zz q).s.length = q /\ (zz q).lo.length = q /\ (zz q).hi.length = q := by simp [zz]
    obtain ⟨e1, g1, rfl, -, -, -⟩ := zl (show w2.ownsRow _ _ 1 y1 q _ by have := ho1; rwa [hlen.1] at this)
    obtain ⟨e2, g2, rfl, -, -, -⟩ := zl (show w2.ownsRow _ _ 1 y2 q _ by have := ho2; rwa [hlen.2.1] at this)
    obtain ⟨e3, g3, rfl, -, -, -⟩ := zl (show w2.ownsRow _ _ 1 y3 q _ by have := ho3; rwa [hlen.2.2] at this)
    have BR2 := hid (BRr.out.below hb2 (by omega))
    have HW2 := hid (HW0r.out.trans (hb2.mono (by omega)))
    have HO2 := hid hoc'; have HB2 := hid hb2
    obtain ⟨r0, r1, r2, r3, f0, f1, f2, f3⟩ := BR2.out
    clear ho1 ho2 ho3 hoc' hlen hb2
    by_cases hne : l = []
    ·have u0 : ((l.length : Int) == 0) = true := by simp [hne]
     have HRR := hid (show zaQ (q : Int) l = (zz q, 0) by unfold zaQ; rw [if_neg HM.out, if_neg (by rw [HALL.out]; simp), if_pos hne, Int.toNat_natCast])
     have HFI := hid (fun v0 v1 v2 v3 => (((OwnC.bld (c := zz q) HO2.out hs2 125 rfl).upd (upd4 w.heap.size _ v0 v1 v2 v3) (by omega) (by omega)).ownC).le (H' := w.heap.size) (by omega))
     obtain ⟨r0, r1, r2, r3, f0, f1, f2, f3⟩ := BR2.out.alloc (by omega) (.cells #[.int .i64 (zz q).n, .slice e1 q g1, .slice e2 q g2, .slice e3 q g3] 125)
     have HBL := hid (fun v0 v1 v2 v3 => fin4 (b := w.heap.size) (HW2.out.trans ((bl1 w2 (.cells #[.int .i64 (zz q).n, .slice e1 q g1, .slice e2 q g2, .slice e3 q g3] 125)).mono (by omega))) (Nat.le_refl _) (by simp only [World.size_alloc]; omega) v0 v1 v2 v3)
     go_wp2
     exact bodyPost_ret (v := .tuple #[.agg #[.int .i64 (zz q).n, .slice e1 q g1, .slice e2 q g2, .slice e3 q g3], .int .i64 0]) (by simp [results, Tryz.results71, go_sem, r0, r1, r2, r3]; done) rfl (zdo HRR.out rfl (HFI.out _ _ _ _) (HBL.out _ _ _ _))
    ·have hF := zkS hq2 hne hn HALL.out
     have HF := hid hF
     have hpos := hF.pos
     have hl1000 := hF.n1000
     have u0 : ((l.length : Int) == 0) = false := by simp; omega
     have ho4 : OwnC w2 wb.heap.size (.agg #[.int .i64 (l.length : Int), .slice e1 q g1, .slice e2 q g2, .slice e3 q g3]) ⟨(l.length : Int), (zz q).s, (zz q).lo, (zz q).hi⟩ := by
      obtain ⟨u1, u2, u3, e, h⟩ := HO2.out
      simp at e
      obtain ⟨rfl, rfl, rfl⟩ := e
      exact ⟨_, _, _, rfl, h⟩
     have hbd := OwnC.bld (c := ⟨(l.length : Int), (zz q).s, (zz q).lo, (zz q).hi⟩) ho4 hs2 125 rfl
     simp only at hbd
     clear ho4 hF hne
     have hV1 : V3 (.slice e1 q g1) (.slice e2 q g2) (.slice e3 q g3) 1 = .slice e1 q g1 := rfl
     have hV2 : V3 (.slice e1 q g1) (.slice e2 q g2) (.slice e3 q g3) 2 = .slice e2 q g2 := rfl
     have hV3 : V3 (.slice e1 q g1) (.slice e2 q g2) (.slice e3 q g3) 3 = .slice e3 q g3 := rfl
     generalize V3 (.slice e1 q g1) (.slice e2 q g2) (.slice e3 q g3) = V at *
     have HBD := hid hbd; have HV1 := hid hV1; have HV2 := hid hV2; have HV3 := hid hV3
     clear hbd hV1 hV2 hV3
     go_wp2
     go_loopw [50] (fun i wx => PRel (l.length : Int) q (zi q l) (zz q) V wb w2.heap.size i wx) (fun i _ => q - (intOf i).toNat)
     case atStart => exact ⟨0, by omega, rfl, zbv HBD.out (fun _ _ _ => rfl) (zbk rfl rfl rfl), HB2.out.trans ((bl1 w2 _).mono hs2)⟩
     case round =>
      obtain ⟨i, hi', rfl, hbl, hw⟩ := hrel
      have HBl := hid hbl
      have HWr := hid hw
      have hsw := hw.size
      have HWW := hid (show Below w.heap.size w wr from HW0r.out.trans (hw.mono (by omega)))
      have BRx := hid (BRr.out.below hw (by omega))
      have hyl := zp7 (z := zi q l) (o := zz q) (k := i) (n := q) (by simp [zi]) (by simp [zz]) (by simp [zi]) (by simp [zz]) (by simp [zi]) (by simp [zz]) hi'
      clear hbl hw
      by_cases hlt : i < q
      ·obtain ⟨gg1, rfl, hg1⟩ : ∃ g, e1 = some ⟨g, 0, none⟩ /\ wb.heap.size <= g := by
        obtain ⟨A, c, e, -, -, h⟩ := zl (HBl.out.own 1 (by omega) (by omega))
        rw [HV1.out] at e; injection e with e _ _; subst e
        obtain ⟨g, hg, hg', -⟩ := h (by rw [hyl 1 (by omega) (by omega)]; omega)
        exact ⟨g, hg, hg'⟩
       have gC1 : gg1 ≠ w2.heap.size := fun e => HBl.out.nC 1 (by omega) (by omega) (by rw [HV1.out, <- e]; rfl)
       have hC1 : w2.heap.size ≠ gg1 := fun e => gC1 e.symm
       obtain ⟨gg2, rfl, hg2⟩ : ∃ g, e2 = some ⟨g, 0, none⟩ /\ wb.heap.size <= g := by
        obtain ⟨A, c, e, -, -, h⟩ := zl (HBl.out.own 2 (by omega) (by omega))
        rw [HV2.out] at e; injection e with e _ _; subst e
        obtain ⟨g, hg, hg', -⟩ := h (by rw [hyl 2 (by omega) (by omega)]; omega)
        exact ⟨g, hg, hg'⟩
       have gC2 : gg2 ≠ w2.heap.size := fun e => HBl.out.nC 2 (by omega) (by omega) (by rw [HV2.out, <- e]; rfl)
       have hC2 : w2.heap.size ≠ gg2 := fun e => gC2 e.symm
       obtain ⟨gg3, rfl, hg3⟩ : ∃ g, e3 = some ⟨g, 0, none⟩ /\ wb.heap.size <= g := by
        obtain ⟨A, c, e, -, -, h⟩ := zl (HBl.out.own 3 (by omega) (by omega))
        rw [HV3.out] at e; injection e with e _ _; subst e
        obtain ⟨g, hg, hg', -⟩ := h (by rw [hyl 3 (by omega) (by omega)]; omega)
        exact ⟨g, hg, hg'⟩
       have gC3 : gg3 ≠ w2.heap.size := fun e => HBl.out.nC 3 (by omega) (by omega) (by rw [HV3.out, <- e]; rfl)
       have hC3 : w2.heap.size ≠ gg3 := fun e => gC3 e.symm
       have n12 : gg1 ≠ gg2 := fun e => HBl.out.ne 1 2 gg1 (by omega) (by omega) (by omega) (by omega) (by omega) (by rw [HV1.out]; rfl) (by rw [HV2.out, e]; rfl)
       have n13 : gg1 ≠ gg3 := fun e => HBl.out.ne 1 3 gg1 (by omega) (by omega) (by omega) (by omega) (by omega) (by rw [HV1.out]; rfl) (by rw [HV3.out, e]; rfl)
       have n23 : gg2 ≠ gg3 := fun e => HBl.out.ne 2 3 gg2 (by omega) (by omega) (by omega) (by omega) (by omega) (by rw [HV2.out]; rfl) (by rw [HV3.out, e]; rfl)
       have HL1 := hid (show i < (YM (zi q l) (zz q) i 1).length by rw [hyl 1 (by omega) (by omega)]; exact hlt)
       have HL2 := hid (show i < (YM (zi q l) (zz q) i 2).length by rw [hyl 2 (by omega) (by omega)]; exact hlt)
       have HL3 := hid (show i < (YM (zi q l) (zz q) i 3).length by rw [hyl 3 (by omega) (by omega)]; exact hlt)
       have M1 := hid (show (YM (zi q l) (zz q) i 1).set i ((colL l i).sum) = YM (zi q l) (zz q) (i + 1) 1 by
        have := zer (z := (zi q l).s) (o := (zz q).s) (k := i) (by simp [zi]; exact hlt) (by simp [zz]; exact hlt)
        rwa [show (zi q l).s.getD i 0 = (colL l i).sum from zF hlt] at this)
       have M2 := hid (show (YM (zi q l) (zz q) i 2).set i (minL (colL l i)) = YM (zi q l) (zz q) (i + 1) 2 by
        have := zer (z := (zi q l).lo) (o := (zz q).lo) (k := i) (by simp [zi]; exact hlt) (by simp [zz]; exact hlt)
        rwa [show (zi q l).lo.getD i 0 = minL (colL l i) from zF hlt] at this)
       have M3 := hid (show (YM (zi q l) (zz q) i 3).set i (maxL (colL l i)) = YM (zi q l) (zz q) (i + 1) 3 by
        have := zer (z := (zi q l).hi) (o := (zz q).hi) (k := i) (by simp [zi]; exact hlt) (by simp [zz]; exact hlt)
        rwa [show (zi q l).hi.getD i 0 = maxL (colL l i) from zF hlt] at this)
       have hcv := HF.out.cv i hlt
       have hsb := znq (colL l i) hcv
       rw [zeQ] at hsb
       have HNO := hid (fun h => HF.out.no i hlt h)
       have hcl := zeQ l i
       obtain ⟨wo, rfl⟩ : ∃ wo : World, wo = wr := ⟨_, rfl⟩
       have HCV := hid hcv; have HSB := hid hsb; have HCL := hid hcl
       clear hcv hsb hcl hyl
       go_wp2
       go_loopw [10, 55] (fun s10 s55 wx => ARel l i wo s10 s55 wx) (fun _ s55 _ => l.length - (intOf s55).toNat)
       case atStart => exact ⟨0, by omega, rfl, World.ownsRow_nil _ _ _ _, Below.refl _ _⟩
       case round =>
        obtain ⟨j, hj, rfl, hown, hba⟩ := hrel
        have HBA := hid hba
        have hsa := hba.size
        have HOWN := hid hown
        clear hown
        by_cases hlj : j < l.length
        ·obtain ⟨b, off, u, rfl, hb, hcu, hsu⟩ := HRW.out wr (HWW.out.trans (hba.mono (by omega))) j hlj
         have hrl := HF.out.row j hlj
         have hgd := zfp l i j hlj
         have htk := zP (colL l i) j (by rw [HCL.out]; exact hlj)
         rw [hgd] at htk
         have HTK := hid htk
         generalize l.getD j [] = r at *
         obtain ⟨Ar, cr, rfl, hcr, hcmr⟩ := hsu.formI
         unfold maxLen at hcmr
         have hir : i < r.length := by omega
         obtain ⟨b2, o2, rfl, hb2', hx⟩ := hsu.int hir
         generalize r.getD i 0 = x at *
         have HRL := hid hrl
         clear hgd htk hsu hba hrl
         go_wp2_with (at_builtin; refine zr ?_)
         refine zar ?_
         refine zav (.tmp 59) (.tmp 64) 27 27 rfl rfl wo.heap.size 3 i0 (.int .i64 0) 1 8 Tryz.underlying27 hi hz0 hz1 hz2 rfl (by decide) _ _ _ rfl (HOWN.out.alloc _) (.slice (some ⟨wr.heap.size, 0, none⟩) 1 1) 1 (zk [x]) rfl (Src.ofSlice _ Tryz.underlying27 _ 1 1 _ rfl (zaK _ _ _ rfl) (by simp [zk]; rfl)) (by first | omega | (simp only [maxLen]; omega)) (by first | omega | (simp only [maxLen]; omega)) (by rw [World.size_alloc]; omega) ?_
         intro v' w' hown' hg' hb'
         have HOW' := hid hown'; have HBW' := hid ((HBA.out.alloc hsa _).trans hb')
         clear hown' hg' hb'
         go_wp2
         go_roundw
         case rel => exact ⟨j + 1, by omega, by go_num, by rw [HTK.out]; have := HOW'.out; simpa [zk] using this, HBW'.out⟩
         case measure => simp [intOf]; omega
        ·obtain rfl : j = l.length := by omega
         have hown := HOWN.out
         rw [List.take_of_length_le (by rw [HCL.out]; exact Nat.le_refl _)] at hown
         have HOW := hid hown
         have htot := zdX u10 (colL l i) wr (by rw [HCL.out]; omega) (Sl.of_own hown) (fun x hx => by have := HCV.out x hx; unfold VAL at this; omega)
         obtain ⟨sb1, sb2⟩ := HSB.out
         unfold VAL at sb1 sb2
         have hmay : MayB ((colL l i).sum / 4294967296) ((colL l i).sum % 4294967296) = true := by unfold MayB; rw [decide_eq_true_eq]; omega
         unfold zl5 at htot
         rw [if_pos hmay] at htot
         unfold wval at htot
         have HTOT := hid htot
         have HIY := hid (fun (h : -9223372036854775808 <= (colL l i).sum /\ (colL l i).sum <= 9223372036854775807) => intW (colL l i).sum h)
         have HIN := hid (fun (h : (colL l i).sum < -9223372036854775808 \/ 9223372036854775807 < (colL l i).sum) => zn4 (colL l i).sum h (by omega))
         have HMIN := hid (fun W (h : Below wr.heap.size wr W) => zpD u10 (colL l i) W wr.heap.size ((Sl.of_own hown).below h) (List.ne_nil_of_length_pos (by rw [HCL.out]; exact hpos)))
         have HMAX := hid (fun W (h : Below wr.heap.size wr W) => zpi u10 (colL l i) W wr.heap.size ((Sl.of_own hown).below h) (List.ne_nil_of_length_pos (by rw [HCL.out]; exact hpos)))
         generalize (colL l i).sum = sm at *
         generalize hq5 : sm / 4294967296 = p5 at *
         generalize hq6 : sm % 4294967296 = p6 at *
         generalize minL (colL l i) = mn at *
         generalize maxL (colL l i) = mx at *
         clear hq5 hq6 hmay htot hown hba
         go_wp2_with fail
         refine HTOT.out.mono ?_
         rintro e w4 ⟨rfl, hb4⟩
         have s4 := hb4.size
         have hb5 : Below wr.heap.size wr (w4.alloc (.cells #[.int .i64 p5, .int .i64 p6] 156)) := hb4.trans ((bl1 w4 _).mono s4)
         have HB5 := hid hb5
         clear hb4 hb5
         go_wp2_with fail
         by_cases hfit : -9223372036854775808 <= sm /\ sm <= 9223372036854775807
         ·refine (HIY.out hfit _).mono ?_
          rintro e w6 ⟨rfl, hb6⟩
          have B6 := HB5.out.trans (hb6.mono HB5.out.size)
          have s6 := B6.size
          have HB6 := hid (HBl.out.kept (HBA.out.trans (B6.mono hsa)))
          have HM1 := hid (fun W (h : Below wr.heap.size w6 W) => HMIN.out W (B6.trans h))
          have HM2 := hid (fun W (h : Below wr.heap.size w6 W) => HMAX.out W (B6.trans h))
          have kc1 : w6.cell? ⟨w2.heap.size, 1, none⟩ = some (.slice (some ⟨gg1, 0, none⟩) q g1) := (HB6.out.cj 1 (by omega) (by omega)).trans (congrArg some HV1.out)
          have kc2 : w6.cell? ⟨w2.heap.size, 2, none⟩ = some (.slice (some ⟨gg2, 0, none⟩) q g2) := (HB6.out.cj 2 (by omega) (by omega)).trans (congrArg some HV2.out)
          have kc3 : w6.cell? ⟨w2.heap.size, 3, none⟩ = some (.slice (some ⟨gg3, 0, none⟩) q g3) := (HB6.out.cj 3 (by omega) (by omega)).trans (congrArg some HV3.out)
          obtain ⟨ce1, fr1, st1, far1⟩ := HB6.out.setAt 1 (by omega) (by omega) HV1.out HL1.out sm
          rw [M1.out] at st1
          have hl2' : i < (upd (YM (zi q l) (zz q) i) 1 (YM (zi q l) (zz q) (i + 1) 1) 2).length := HL2.out
          obtain ⟨-, -, st2, far2⟩ := st1.setAt 2 (by omega) (by omega) HV2.out hl2' mn
          rw [show (upd (YM (zi q l) (zz q) i) 1 (YM (zi q l) (zz q) (i + 1) 1) 2).set i mn = YM (zi q l) (zz q) (i + 1) 2 from M2.out] at st2
          have hl3' : i < (upd (upd (YM (zi q l) (zz q) i) 1 (YM (zi q l) (zz q) (i + 1) 1)) 2 (YM (zi q l) (zz q) (i + 1) 2) 3).length := HL3.out
          obtain ⟨-, -, st3, far3⟩ := st2.setAt 3 (by omega) (by omega) HV3.out hl3' mx
          obtain ⟨ce2, fr2, -, -⟩ := HB6.out.setAt 2 (by omega) (by omega) HV2.out HL2.out mn
          obtain ⟨ce3, fr3, -, -⟩ := HB6.out.setAt 3 (by omega) (by omega) HV3.out HL3.out mx
          have hbx := far3 wb.heap.size wb (Nat.le_refl _) (far2 wb.heap.size wb (Nat.le_refl _) (far1 wb.heap.size wb (Nat.le_refl _) (HWr.out.trans ((HBA.out.trans (B6.mono hsa)).mono hsw))))
          have HST := hid (st3.kept (Below.refl _ _).drew); have HBX := hid hbx.drew
          clear st1 st2 st3 far1 far2 far3 hbx hb6 hfit hl2' hl3'
          go_wp2
          go_region_held3 (fun w' => w'.cell? ⟨w2.heap.size, 1, none⟩ = some (.slice (some ⟨gg1, 0, none⟩) q g1) /\ w'.cell? ⟨w2.heap.size, 2, none⟩ = some (.slice (some ⟨gg2, 0, none⟩) q g2) /\ w'.cell? ⟨w2.heap.size, 3, none⟩ = some (.slice (some ⟨gg3, 0, none⟩) q g3)) (go_keep)
               (first
                | (go_at_call 103; refine (HM1.out _ (Below.refl _ _).drew).mono ?_; rintro e w7 ⟨rfl, rfl⟩)
                | (go_at_call 104; refine (HM2.out _ (Below.refl _ _).drew).mono ?_; rintro e w8 ⟨rfl, rfl⟩))
          go_wp2
          go_roundw
          case rel => exact ⟨i + 1, by omega, by go_num, zbv HST.out (fun _ _ _ => rfl) (zbk rfl rfl M3.out), HBX.out⟩
          case measure => simp [intOf]; omega
         ·have hr := HF.out.res
          rw [HNO.out (fun h => hfit (by unfold SUM at h; omega)), if_neg (by simp)] at hr
          have HRR := hid hr
          clear hr
          refine (HIN.out (by omega) _).mono ?_
          rintro e w6 ⟨rfl, hb6⟩
          have B6 := HB5.out.trans (hb6.mono HB5.out.size)
          have s6 := B6.size
          have hbw := HBA.out.trans (B6.mono hsa)
          obtain ⟨r0, r1, r2, r3, f0, f1, f2, f3⟩ := BRx.out.below hbw (by omega)
          have HBL := hid (fun v0 v1 v2 v3 => fin4 (b := w.heap.size) (HWW.out.trans (hbw.mono (by omega))) (Nat.le_refl _) (by omega) v0 v1 v2 v3)
          clear hfit hb6
          go_wp2
          exact bodyPost_ret (v := .tuple #[.agg #[.int .i64 0, .slice none 0 0, .slice none 0 0, .slice none 0 0], .int .i64 14]) (by simp [results, Tryz.results71, go_sem, r0, r1, r2, r3]; done) rfl (zdo HRR.out rfl (OwnC.nil_ _ _) (HBL.out _ _ _ _))
      ·obtain rfl : i = q := by omega
       have z1 : YM (zi i l) (zz i) i 1 = (zi i l).s := zcO (by simp [zi]) (by simp [zz])
       have z2 : YM (zi i l) (zz i) i 2 = (zi i l).lo := zcO (by simp [zi]) (by simp [zz])
       have z3' : YM (zi i l) (zz i) i 3 = (zi i l).hi := zcO (by simp [zi]) (by simp [zz])
       have hread := HBl.out.read
       rw [z1, z2, z3', HV1.out, HV2.out, HV3.out] at hread
       have q0 := HBl.out.c0
       have q1 : wr.cell? ⟨w2.heap.size, 1, none⟩ = some (.slice e1 i g1) := (HBl.out.cj 1 (by omega) (by omega)).trans (congrArg some HV1.out)
       have q2 : wr.cell? ⟨w2.heap.size, 2, none⟩ = some (.slice e2 i g2) := (HBl.out.cj 2 (by omega) (by omega)).trans (congrArg some HV2.out)
       have q3 : wr.cell? ⟨w2.heap.size, 3, none⟩ = some (.slice e3 i g3) := (HBl.out.cj 3 (by omega) (by omega)).trans (congrArg some HV3.out)
       have HMY := hid (zi1 _ (zi i l) wr hread)
       clear hread
       have hr := HF.out.res
       obtain ⟨rm, hrm⟩ : ∃ r, r = mayC (zi i l) := ⟨_, rfl⟩
       rw [<- hrm] at HMY hr
       clear hrm
       have HRM := hid hr; clear hr
       go_wp2_with fail
       refine HMY.out.mono ?_
       rintro e w4 ⟨rfl, hb4⟩
       have s4 := hb4.size
       have HW4 := hid (HWW.out.trans (hb4.mono (by omega)))
       have HB4 := hid (HBl.out.kept hb4)
       obtain ⟨r0, r1, r2, r3, f0, f1, f2, f3⟩ := BRx.out.below hb4 (by omega)
       have t0 := HB4.out.c0
       have t1 := zc hb4 (World.block_lt_of_cell? _ _ q1) q1
       have t2 := zc hb4 (World.block_lt_of_cell? _ _ q2) q2
       have t3 := zc hb4 (World.block_lt_of_cell? _ _ q3) q3
       have HBL := hid (fun v0 v1 v2 v3 => fin4 (b := w.heap.size) HW4.out (Nat.le_refl _) (by omega) v0 v1 v2 v3)
       clear hb4 q0 q1 q2 q3
       cases rm
       ·have HRR := hid (show zaQ (i : Int) l = (nilC, 14) from HRM.out)
        go_wp2
        exact bodyPost_ret (v := .tuple #[.agg #[.int .i64 0, .slice none 0 0, .slice none 0 0, .slice none 0 0], .int .i64 14]) (by simp [results, Tryz.results71, go_sem, r0, r1, r2, r3]; done) rfl (zdo HRR.out rfl (OwnC.nil_ _ _) (HBL.out _ _ _ _))
       ·have HRR := hid (show zaQ (i : Int) l = (zi i l, 0) from HRM.out)
        have hfin := fun v0 v1 v2 v3 => ((HB4.out.upd (upd4 w.heap.size w4 v0 v1 v2 v3) (by omega) (by omega)).ownC).le (H' := w.heap.size) (by omega)
        rw [z1, z2, z3', HV1.out, HV2.out, HV3.out] at hfin
        have HFI := hid hfin; clear hfin z1 z2 z3'
        go_wp2
        exact bodyPost_ret (v := .tuple #[.agg #[.int .i64 (l.length : Int), .slice e1 i g1, .slice e2 i g2, .slice e3 i g3], .int .i64 0]) (by simp [results, Tryz.results71, go_sem, r0, r1, r2, r3]; done) rfl (zdo HRR.out rfl (HFI.out _ _ _ _) (HBL.out _ _ _ _))
end Go.Proofs.YtgoapnkdcfcjgaaGreat
