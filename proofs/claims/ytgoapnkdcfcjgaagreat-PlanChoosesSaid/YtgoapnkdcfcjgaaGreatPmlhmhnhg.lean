/- 2 texts of this claim, in build order. -/
import Derived.Test.YtgoapnkdcfcjgaaGreatPcjenhmkf
import Derived.Test.YtgoapnkdcfcjgaaGreatPnockapcc
set_option linter.unusedVariables false
set_option linter.unusedSimpArgs false
namespace Go.Proofs.YtgoapnkdcfcjgaaGreat
open Go.ChangeShapes Go.WideShapes Go.ChangeAt Go.RowKit
set_option maxRecDepth 100000 in
set_option maxHeartbeats 1600000 in
theorem zhg (m : Int) (w : World) :
  Calls Tryz.prog 117 #[.int .i64 m] w (zg2 (zz (emN m)) w) := by
 obtain ⟨i0, hi, hz0, hz1, hz2⟩ := info_parts zaE
 go_enter Tryz.func117, Tryz.ntmps117
 go_wp2
 go_loopw [4] (fun i wr => zoO m (w.alloc (.cells #[.int .i64 0, .slice none 0 0, .slice none 0 0, .slice none 0 0] 125)) (w.heap.size + 1) i wr) (fun i _ => 2 - (intOf i).toNat)
 case atStart => exact ⟨0, _, by omega, rfl, Bld.start (by simp), (Below.refl _ _).alloc (by simp) _⟩
 case round =>
  obtain ⟨k, V, hk, rfl, hb, hw⟩ := hrel
  have h2 : emN m <= 2 := by unfold emN; split <;> (try split) <;> omega
  have HB := hid hb; have HW := hid hw; clear hb hw
  by_cases hlt : k < emN m
  ·have hm : (k : Int) < m /\ (k : Int) < 2 := by unfold emN at hlt; split at hlt <;> (try split at hlt) <;> omega
   obtain ⟨hm1, hm2⟩ := hm
   have sz1 : w.heap.size + 1 + 1 <= (wr).heap.size := HB.out.hs
   have o1 : (wr).ownsRow (w.heap.size + 1 + 1) 3 1 (V 1) (k) (zk (List.replicate k (0 : Int))) := by have h : (wr).ownsRow (w.heap.size + 1 + 1) 3 1 (V 1) (List.replicate k (0 : Int)).length (zk (List.replicate k (0 : Int))) := HB.out.own 1 (by omega) (by omega); rwa [show (List.replicate k (0 : Int)).length = k from by simp] at h
   obtain ⟨a1, d1, sh1, hc1, hm1, -⟩ := zl o1
   have q1 : (wr).cell? ⟨w.heap.size + 1, 1, none⟩ = some (V 1) := (HB.out.cj 1 (by omega) (by omega))
   rw [sh1] at q1 o1; clear hc1 hm1
   go_wp2_with (at_builtin; refine zr ?_)
   refine zar ?_
   refine zN (.tmp 16) (.tmp 17) 27 27 rfl rfl (w.heap.size + 1 + 1) 3 i0 (.int .i64 0) 1 8 Tryz.underlying27 hi hz0 hz1 hz2 rfl (by decide) (.slice a1 (k) d1) _ _ rfl (o1.alloc _) (.slice (some ⟨wr.heap.size, 0, none⟩) 1 1) 1 (zk [0]) rfl (Src.ofSlice _ Tryz.underlying27 _ 1 1 _ rfl (zaK _ _ _ rfl) (by simp [zk]; rfl)) (by first | omega | (simp only [maxLen]; omega)) (by first | omega | (simp only [maxLen]; omega)) (by rw [World.size_alloc]; omega) ?_
   intro v1 w1 hown1 hg1 _ hat1
   rw [<- sh1] at hg1 hat1
   obtain ⟨mm1, ff1, st1, far1⟩ := HB.out.step 1 (by omega) (by omega) (bl1 _ _) hown1 hg1 hat1
   obtain ⟨b1, e1, rfl, -, -, -⟩ := zl hown1
   replace mm1 : w1.cell? ⟨w.heap.size + 1, 1, none⟩ = some (.slice a1 (k) d1) := mm1.trans (congrArg some sh1)
   have HB1 := hid st1; have HF1 := hid far1; clear st1 far1 hown1 hg1 hat1 q1 o1 sh1
   have sz2 : w.heap.size + 1 + 1 <= (w1.setCell ⟨w.heap.size + 1, 1, none⟩ (.slice b1 (k + 1) e1)).heap.size := HB1.out.hs
   have o2 : (w1.setCell ⟨w.heap.size + 1, 1, none⟩ (.slice b1 (k + 1) e1)).ownsRow (w.heap.size + 1 + 1) 3 1 (V 2) (k) (zk (List.replicate k (0 : Int))) := by have h : (w1.setCell ⟨w.heap.size + 1, 1, none⟩ (.slice b1 (k + 1) e1)).ownsRow (w.heap.size + 1 + 1) 3 1 (V 2) (List.replicate k (0 : Int)).length (zk (List.replicate k (0 : Int))) := HB1.out.own 2 (by omega) (by omega); rwa [show (List.replicate k (0 : Int)).length = k from by simp] at h
   obtain ⟨a2, d2, sh2, hc2, hm2, -⟩ := zl o2
   have q2 : (w1.setCell ⟨w.heap.size + 1, 1, none⟩ (.slice b1 (k + 1) e1)).cell? ⟨w.heap.size + 1, 2, none⟩ = some (V 2) := (HB1.out.cj 2 (by omega) (by omega))
   rw [sh2] at q2 o2; clear hc2 hm2
   go_wp2_with (at_builtin; refine zr ?_)
   refine zar ?_
   refine zN (.tmp 21) (.tmp 22) 27 27 rfl rfl (w.heap.size + 1 + 1) 3 i0 (.int .i64 0) 1 8 Tryz.underlying27 hi hz0 hz1 hz2 rfl (by decide) (.slice a2 (k) d2) _ _ rfl (o2.alloc _) (.slice (some ⟨w1.heap.size, 0, none⟩) 1 1) 1 (zk [0]) rfl (Src.ofSlice _ Tryz.underlying27 _ 1 1 _ rfl (zaK _ _ _ (by simp [World.setCell])) (by simp [zk]; rfl)) (by first | omega | (simp only [maxLen]; omega)) (by first | omega | (simp only [maxLen]; omega)) (by rw [World.size_alloc]; omega) ?_
   intro v2 w2 hown2 hg2 _ hat2
   rw [<- sh2] at hg2 hat2
   obtain ⟨mm2, ff2, st2, far2⟩ := HB1.out.step 2 (by omega) (by omega) (bl1 _ _) hown2 hg2 hat2
   obtain ⟨b2, e2, rfl, -, -, -⟩ := zl hown2
   replace mm2 : w2.cell? ⟨w.heap.size + 1, 2, none⟩ = some (.slice a2 (k) d2) := mm2.trans (congrArg some sh2)
   have HB2 := hid st2; have HF2 := hid far2; clear st2 far2 hown2 hg2 hat2 q2 o2 sh2
   have sz3 : w.heap.size + 1 + 1 <= (w2.setCell ⟨w.heap.size + 1, 2, none⟩ (.slice b2 (k + 1) e2)).heap.size := HB2.out.hs
   have o3 : (w2.setCell ⟨w.heap.size + 1, 2, none⟩ (.slice b2 (k + 1) e2)).ownsRow (w.heap.size + 1 + 1) 3 1 (V 3) (k) (zk (List.replicate k (0 : Int))) := by have h : (w2.setCell ⟨w.heap.size + 1, 2, none⟩ (.slice b2 (k + 1) e2)).ownsRow (w.heap.size + 1 + 1) 3 1 (V 3) (List.replicate k (0 : Int)).length (zk (List.replicate k (0 : Int))) := HB2.out.own 3 (by omega) (by omega); rwa [show (List.replicate k (0 : Int)).length = k from by simp] at h
   obtain ⟨a3, d3, sh3, hc3, hm3, -⟩ := zl o3
   have q3 : (w2.setCell ⟨w.heap.size + 1, 2, none⟩ (.slice b2 (k + 1) e2)).cell? ⟨w.heap.size + 1, 3, none⟩ = some (V 3) := (HB2.out.cj 3 (by omega) (by omega))
   rw [sh3] at q3 o3; clear hc3 hm3
   go_wp2_with (at_builtin; refine zr ?_)
   refine zar ?_
   refine zN (.tmp 26) (.tmp 27) 27 27 rfl rfl (w.heap.size + 1 + 1) 3 i0 (.int .i64 0) 1 8 Tryz.underlying27 hi hz0 hz1 hz2 rfl (by decide) (.slice a3 (k) d3) _ _ rfl (o3.alloc _) (.slice (some ⟨w2.heap.size, 0, none⟩) 1 1) 1 (zk [0]) rfl (Src.ofSlice _ Tryz.underlying27 _ 1 1 _ rfl (zaK _ _ _ (by simp [World.setCell])) (by simp [zk]; rfl)) (by first | omega | (simp only [maxLen]; omega)) (by first | omega | (simp only [maxLen]; omega)) (by rw [World.size_alloc]; omega) ?_
   intro v3 w3 hown3 hg3 _ hat3
   rw [<- sh3] at hg3 hat3
   obtain ⟨mm3, ff3, st3, far3⟩ := HB2.out.step 3 (by omega) (by omega) (bl1 _ _) hown3 hg3 hat3
   obtain ⟨b3, e3, rfl, -, -, -⟩ := zl hown3
   replace mm3 : w3.cell? ⟨w.heap.size + 1, 3, none⟩ = some (.slice a3 (k) d3) := mm3.trans (congrArg some sh3)
   have HB3 := hid st3; have HF3 := hid far3; clear st3 far3 hown3 hg3 hat3 q3 o3 sh3
   go_wp2
   go_roundw
   case rel => exact ⟨k + 1, _, by omega, by go_num, zbv HB3.out (fun _ _ _ => rfl) (zbk (zhr k) (zhr k) (zhr k)), HF3.out _ _ (by omega) (by omega) (HF2.out _ _ (by omega) (by omega) (HF1.out _ _ (by omega) (by omega) HW.out))⟩
   case measure => simp [intOf]; omega
  ·have hm : ¬ ((k : Int) < m /\ (k : Int) < 2) := by unfold emN at hlt; split at hlt <;> (try split at hlt) <;> omega
   obtain rfl : k = emN m := by omega
   have k0 := HB.out.c0
   have k1 := HB.out.cj 1 (by omega) (by omega)
   have k2 := HB.out.cj 2 (by omega) (by omega)
   have k3 := HB.out.cj 3 (by omega) (by omega)
   obtain ⟨z0, z1, z2, z3, f0, f1, f2, f3⟩ := (Blk.new w (.int .i64 0) (.slice none 0 0) (.slice none 0 0) (.slice none 0 0) 125).below HW.out (by omega)
   obtain ⟨a1, d1, sh1, -, -, -⟩ := zl (show wr.ownsRow (w.heap.size + 1 + 1) 3 1 (V 1) (emN m) (zk (List.replicate (emN m) 0)) by have h := HB.out.own 1 (by omega) (by omega); rwa [List.length_replicate] at h)
   obtain ⟨a2, d2, sh2, -, -, -⟩ := zl (show wr.ownsRow (w.heap.size + 1 + 1) 3 1 (V 2) (emN m) (zk (List.replicate (emN m) 0)) by have h := HB.out.own 2 (by omega) (by omega); rwa [List.length_replicate] at h)
   obtain ⟨a3, d3, sh3, -, -, -⟩ := zl (show wr.ownsRow (w.heap.size + 1 + 1) 3 1 (V 3) (emN m) (zk (List.replicate (emN m) 0)) by have h := HB.out.own 3 (by omega) (by omega); rwa [List.length_replicate] at h)
   have hres : ∀ v0, OwnC (((((wr.setCell ⟨w.heap.size, 0, none⟩ v0).setCell ⟨w.heap.size, 1, none⟩ (V 1)).setCell ⟨w.heap.size, 2, none⟩ (V 2)).setCell ⟨w.heap.size, 3, none⟩ (V 3))) w.heap.size (.agg #[.int .i64 0, V 1, V 2, V 3]) (zz (emN m)) := fun v0 => ((HB.out.upd (upd4 w.heap.size wr v0 (V 1) (V 2) (V 3)) (by omega) (by omega)).ownC).le (by omega)
   have hbel : ∀ v0, Below w.heap.size w (((((wr.setCell ⟨w.heap.size, 0, none⟩ v0).setCell ⟨w.heap.size, 1, none⟩ (V 1)).setCell ⟨w.heap.size, 2, none⟩ (V 2)).setCell ⟨w.heap.size, 3, none⟩ (V 3))) := fun v0 => (((bl1 w _).trans (HW.out.mono (by omega))).trans ((upd4 w.heap.size wr v0 (V 1) (V 2) (V 3)).below (Nat.le_refl _) (by have := HW.out.size; rw [World.size_alloc] at this; omega)))
   rw [sh1, sh2, sh3] at hres hbel
   rw [sh1] at k1
   rw [sh2] at k2
   rw [sh3] at k3
   have HRES := hid hres; have HBL := hid hbel; clear hres hbel sh1 sh2 sh3
   by_cases hm1 : (emN m : Int) < m
   ·have hm2 : ¬ (emN m : Int) < 2 := by omega
    go_wp2
    exact bodyPost_ret (v := .agg #[.int .i64 0, Value.slice a1 (emN m) d1, .slice a2 (emN m) d2, .slice a3 (emN m) d3]) (by simp [results, Tryz.results117, go_sem, z0, z1, z2, z3]; done) rfl ⟨_, rfl, HRES.out (.int .i64 0), HBL.out (.int .i64 0)⟩
   ·go_wp2
    exact bodyPost_ret (v := .agg #[.int .i64 0, Value.slice a1 (emN m) d1, .slice a2 (emN m) d2, .slice a3 (emN m) d3]) (by simp [results, Tryz.results117, go_sem, z0, z1, z2, z3]; done) rfl ⟨_, rfl, HRES.out (.int .i64 0), HBL.out (.int .i64 0)⟩
theorem RowC.part {w : World} {B n c : Nat} {A : Option Addr} {L : List zp} (h : RowC w B (.slice A n c) L) {k : Nat} (hk : k < L.length) :
  ∃ b off A1 c1 A2 c2 A3 c3, A = some ⟨b, off, none⟩ /\ b < B /\ At4 w b off k ((L.getD k nilC).n, .slice A1 (L.getD k nilC).s.length c1, .slice A2 (L.getD k nilC).lo.length c2, .slice A3 (L.getD k nilC).hi.length c3) /\
   Sl w B (.slice A1 (L.getD k nilC).s.length c1) (zk (L.getD k nilC).s) /\ Sl w B (.slice A2 (L.getD k nilC).lo.length c2) (zk (L.getD k nilC).lo) /\ Sl w B (.slice A3 (L.getD k nilC).hi.length c3) (zk (L.getD k nilC).hi) := by
 obtain ⟨A', c', es, e, h2, h3, h4, h5, h6⟩ := h
 injection e with e1 e2 e3
 subst e1
 obtain ⟨b, off, e4, hb, hat⟩ := h5 (by omega)
 have hr := h6 k hk
 have hr' := hr
 obtain ⟨v1, v2, v3, e, s1, s2, s3⟩ := hr
 obtain ⟨A1, c1, f1, -, -⟩ := s1.formI
 obtain ⟨A2, c2, f2, -, -⟩ := s2.formI
 obtain ⟨A3, c3, f3, -, -⟩ := s3.formI
 injection e with e
 have g0 := congrArg (fun a : Array Value => a[0]?) e
 have g1 := congrArg (fun a : Array Value => a[1]?) e
 have g2 := congrArg (fun a : Array Value => a[2]?) e
 have g3 := congrArg (fun a : Array Value => a[3]?) e
 simp at g0 g1 g2 g3
 have ea : es.getD k z4 = ((L.getD k nilC).n, .slice A1 (L.getD k nilC).s.length c1, .slice A2 (L.getD k nilC).lo.length c2, .slice A3 (L.getD k nilC).hi.length c3) := by
  have q : es.getD k z4 = ((es.getD k z4).1, (es.getD k z4).2.1, (es.getD k z4).2.2.1, (es.getD k z4).2.2.2) := rfl
  rw [q]
  simp only [List.getD_eq_getElem?_getD] at f1 f2 f3 ⊢
  rw [g0, g1, g2, g3, f1, f2, f3]
 refine ⟨b, off, A1, c1, A2, c2, A3, c3, e4, hb, ?_, by rw [<- f1]; exact s1, by rw [<- f2]; exact s2, by rw [<- f3]; exact s3⟩
 rw [<- ea]; exact hat k hk
def zqR (m : Nat) (l : List zp) (w : World) (i : Value) (wr : World) : Prop := ∃ k : Nat, k <= l.length /\ i = .int .i64 k /\ (∀ j, j < k -> argB m (l.getD j nilC) = true) /\ Below w.heap.size w wr
theorem zp0 {m : Nat} {c : zp} (h : mayC c = false) : argB m c = false := by unfold argB; rw [h, Bool.false_and]
theorem zoF {m : Nat} {c : zp} (h : mayC c = true) : argB m c = decide (c.s.length = m) := by unfold argB; rw [h, Bool.true_and]
theorem Bld.drewN {w : World} {H C : Nat} {n : Int} {V : Nat -> Value} {X : Nat -> List Int} (h : Bld w H C n V X) (k : Nat) : Bld (w.drewN k) H C n V X := h.kept (zn (Below.refl _ _) k)
theorem zrd {w : World} {H C m c k g : Nat} {n : Int} {V : Nat -> Value} {Y Y' : Nat -> List Int} (h : Bld w H C n V Y) (hV : V 2 = .slice (some ⟨g, 0, none⟩) m c) (hk : k < (Y 2).length) (x : Int)
  (e1 : Y 1 = Y' 1) (e2 : (Y 2).set k x = Y' 2) (e3 : Y 3 = Y' 3) : Bld (w.setCell ⟨g, k, none⟩ (.int .i64 x)) H C n V Y' /\ ∀ B w0, B <= H -> Below B w0 w -> Below B w0 (w.setCell ⟨g, k, none⟩ (.int .i64 x)) := by
 obtain ⟨-, -, st, far⟩ := h.setAt 2 (by omega) (by omega) hV hk x
 exact ⟨zbv st (fun _ _ _ => rfl) (zbk e1 e2 e3), far⟩
theorem zqK {w : World} {H C m c k g : Nat} {n : Int} {V : Nat -> Value} {Y Y' : Nat -> List Int} (h : Bld w H C n V Y) (hV : V 3 = .slice (some ⟨g, 0, none⟩) m c) (hk : k < (Y 3).length) (x : Int)
  (e1 : Y 1 = Y' 1) (e2 : Y 2 = Y' 2) (e3 : (Y 3).set k x = Y' 3) : Bld (w.setCell ⟨g, k, none⟩ (.int .i64 x)) H C n V Y' /\ ∀ B w0, B <= H -> Below B w0 w -> Below B w0 (w.setCell ⟨g, k, none⟩ (.int .i64 x)) := by
 obtain ⟨-, -, st, far⟩ := h.setAt 3 (by omega) (by omega) hV hk x
 exact ⟨zbv st (fun _ _ _ => rfl) (zbk e1 e2 e3), far⟩
theorem zq4 {w : World} {H C m c k g : Nat} {n : Int} {V : Nat -> Value} {Y Y' : Nat -> List Int} (h : Bld w H C n V Y) (hV : V 1 = .slice (some ⟨g, 0, none⟩) m c) (hk : k < (Y 1).length) (x : Int)
  (e1 : (Y 1).set k x = Y' 1) (e2 : Y 2 = Y' 2) (e3 : Y 3 = Y' 3) : Bld (w.setCell ⟨g, k, none⟩ (.int .i64 x)) H C n V Y' /\ ∀ B w0, B <= H -> Below B w0 w -> Below B w0 (w.setCell ⟨g, k, none⟩ (.int .i64 x)) := by
 obtain ⟨-, -, st, far⟩ := h.setAt 1 (by omega) (by omega) hV hk x
 exact ⟨zbv st (fun _ _ _ => rfl) (zbk e1 e2 e3), far⟩
theorem zox (l : List Int) (hr : ∀ x ∈ l, -SUM <= x /\ x <= SUM) : -SUM * (l.length : Int) <= l.sum /\ l.sum <= SUM * (l.length : Int) := by
 unfold SUM at *
 induction l with
 | nil => simp
 | cons x l ih =>
   have h1 := hr x List.mem_cons_self
   have h2 := ih (fun y hy => hr y (List.mem_cons_of_mem _ hy))
   rw [List.sum_cons, List.length_cons]
   omega
def Y2 (Y Y' : Nat -> List Int) : Nat -> List Int := fun j => if j = 3 then Y 3 else Y' j
theorem zkx {z o : List Int} {k : Nat} (hz : k <= z.length) (ho : k < o.length) : (z.take k ++ o.drop k).getD k 0 = o.getD k 0 := by
 simp only [List.getD_eq_getElem?_getD]
 rw [List.getElem?_append_right (by rw [List.length_take]; omega), List.length_take, List.getElem?_drop, show k + (k - min k z.length) = k by omega]
theorem zo4 {m : Nat} {l : List zp} (h : ∀ j, j < l.length -> argB m (l.getD j nilC) = true) : l.all (argB m) = true := by
 rw [List.all_eq_true]
 intro x hx
 obtain ⟨j, hj, rfl⟩ := List.getElem_of_mem hx
 have := h j hj
 rwa [List.getD_eq_getElem?_getD, List.getElem?_eq_getElem hj] at this
structure SumF (m : Nat) (l : List zp) : Prop where
 m2 : m <= 2
 ne : l ≠ []
 pos : 0 < l.length
 n64 : l.length <= 65536
 hd : (l.headD nilC).s.length = m
 all : l.all (argB m) = true
 args : zoI m l
 s : ∀ j, j < l.length -> (l.getD j nilC).s.length = m
 lo : ∀ j, j < l.length -> (l.getD j nilC).lo.length = m
 hi : ∀ j, j < l.length -> (l.getD j nilC).hi.length = m
 cnt : ∀ j, j < l.length -> 0 <= (l.getD j nilC).n /\ (l.getD j nilC).n <= CNT
theorem zaT {l : List zp} {k : Nat} (hk : k < l.length) : l.getD k nilC ∈ l := by
 rw [List.getD_eq_getElem?_getD, List.getElem?_eq_getElem hk]; exact List.getElem_mem hk
theorem zre {l : List zp} (hne : l ≠ []) (hn : l.length <= 65536) (h : l.all (argB (l.headD nilC).s.length) = true) : SumF (l.headD nilC).s.length l := by
 have ha := zpr h
 have hp := List.length_pos_iff.2 hne
 have h0 : l.headD nilC ∈ l := by
  cases l with
  | nil => exact absurd rfl hne
  | cons x l => exact List.mem_cons_self
 refine ⟨(ha.may _ h0).1.1, hne, hp, hn, rfl, h, ha, fun j hj => ha.len _ (zaT hj), fun j hj => ?_, fun j hj => ?_, fun j hj => ?_⟩
 ·have h1 := ha.may _ (zaT hj)
  exact h1.1.2.1.trans (ha.len _ (zaT hj))
 ·have h1 := ha.may _ (zaT hj)
  exact h1.1.2.2.trans (ha.len _ (zaT hj))
 ·have h1 := ha.may _ (zaT hj)
  by_cases h0 : (l.getD j nilC).n = 0
  ·rw [h0]; unfold CNT; omega
  ·have := (zeR h1 h0).1; omega
end Go.Proofs.YtgoapnkdcfcjgaaGreat
