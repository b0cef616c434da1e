/- 5 texts of this claim, in build order. -/
import Derived.Test.YtgoapnkdcfcjgaaGreatPeeedofao
import Derived.Test.YtgoapnkdcfcjgaaGreatPgdmeddkk
import Derived.Deep.Cut
import Derived.Deep.DeepCutAuto
set_option linter.unusedVariables false
set_option linter.unusedSimpArgs false
namespace Go.Proofs.YtgoapnkdcfcjgaaGreat
open Go.ChangeShapes Go.WideShapes Go.ChangeAt Go.RowKit
theorem zaY {x m : Int} {r : Bool} (h : inB x m = r) (h0 : 0 <= m) (h1 : m <= 4611686018427387904) : ∀ w : World, Calls Tryz.prog 99 #[.int .i64 x, .int .i64 m] w (za5 (.bool r) w) := fun w => h ▸ zeb x m w h0 h1
theorem zfu {w : World} {B : Nat} {v x : Value} {l r : List Int} {q : Bool} (hv : Sl w B v (zk l)) (hx : Sl w B x (zk r)) (h : decide (l = r) = q) : ∀ W : World, Below B w W -> Calls Tryz.prog 60 #[v, x] W (za5 (.bool q) W) :=
 fun W hb => h ▸ zgz v x l r W B (hv.below hb) (hx.below hb)
theorem zit (a b : zp) : (decide (a = b) = false /\ ((a.n == b.n) = false \/ ((a.n == b.n) = true /\ decide (a.s = b.s) = false) \/ ((a.n == b.n) = true /\ decide (a.s = b.s) = true /\ decide (a.lo = b.lo) = false) \/
  ((a.n == b.n) = true /\ decide (a.s = b.s) = true /\ decide (a.lo = b.lo) = true /\ decide (a.hi = b.hi) = false))) \/ (decide (a = b) = true /\ (a.n == b.n) = true /\ decide (a.s = b.s) = true /\ decide (a.lo = b.lo) = true /\ decide (a.hi = b.hi) = true) := by
 obtain ⟨n, s, lo, hi⟩ := a
 obtain ⟨m, r, l, h⟩ := b
 simp only [zp.mk.injEq]
 by_cases h1 : n = m <;> by_cases h2 : s = r <;> by_cases h3 : lo = l <;> by_cases h4 : hi = h <;> simp [h1, h2, h3, h4]
set_option maxRecDepth 100000 in
set_option maxHeartbeats 1600000 in
theorem zoR (v x : Value) (a b : zp) (w : World) (hv : zaZ w w.heap.size v a) (hx : zaZ w w.heap.size x b) :
  Calls Tryz.prog 131 #[v, x] w (zY (.bool (decide (a = b))) w) := by
 obtain ⟨v1, v2, v3, rfl, s1, s2, s3⟩ := hv
 obtain ⟨x1, x2, x3, rfl, t1, t2, t3⟩ := hx
 have E1 := fun q h => zfu (q := q) s1 t1 h
 have E2 := fun q h => zfu (q := q) s2 t2 h
 have E3 := fun q h => zfu (q := q) s3 t3 h
 obtain ⟨A1, c1, rfl, -, -⟩ := s1.formI
 obtain ⟨A2, c2, rfl, -, -⟩ := s2.formI
 obtain ⟨A3, c3, rfl, -, -⟩ := s3.formI
 obtain ⟨X1, d1, rfl, -, -⟩ := t1.formI
 obtain ⟨X2, d2, rfl, -, -⟩ := t2.formI
 obtain ⟨X3, d3, rfl, -, -⟩ := t3.formI
 clear s1 s2 s3 t1 t2 t3
 go_enter Tryz.func131, Tryz.ntmps131
 have hb0 : Below w.heap.size w ((w.alloc (.cells #[.int .i64 a.n, .slice A1 a.s.length c1, .slice A2 a.lo.length c2, .slice A3 a.hi.length c3] 125)).alloc (.cells #[.int .i64 b.n, .slice X1 b.s.length d1, .slice X2 b.lo.length d2, .slice X3 b.hi.length d3] 125)) := zI
 have HB := hid hb0; clear hb0
 rcases zit a b with ⟨hr, hw⟩ | ⟨hr, z1, z2, z3, z4⟩
 ·have HR := hid hr; clear hr
  rcases hw with z1 | ⟨z1, z2⟩ | ⟨z1, z2, z3⟩ | ⟨z1, z2, z3, z4⟩
  ·go_wp2
   go_ret
   exact ⟨zZ HR.out.symm, HB.out⟩
  ·have E1' := hid (E1 _ z2); clear E1 E2 E3 z2
   go_wp2_with fail
   refine (E1'.out _ HB.out).mono ?_
   rintro e w1 ⟨rfl, n1, rfl⟩
   go_wp2
   go_ret
   exact ⟨zZ HR.out.symm, zn HB.out _⟩
  ·have E1' := hid (E1 _ z2); have E2' := hid (E2 _ z3); clear E1 E2 E3 z2 z3
   go_wp2_with fail
   refine (E1'.out _ HB.out).mono ?_
   rintro e w1 ⟨rfl, n1, rfl⟩
   go_wp2_with fail
   refine (E2'.out _ (zn HB.out _)).mono ?_
   rintro e w1 ⟨rfl, n2, rfl⟩
   go_wp2
   go_ret
   exact ⟨zZ HR.out.symm, zn HB.out _⟩
  ·have E1' := hid (E1 _ z2); have E2' := hid (E2 _ z3); have E3' := hid (E3 _ z4); clear E1 E2 E3 z2 z3 z4
   go_wp2_with fail
   refine (E1'.out _ HB.out).mono ?_
   rintro e w1 ⟨rfl, n1, rfl⟩
   go_wp2_with fail
   refine (E2'.out _ (zn HB.out _)).mono ?_
   rintro e w1 ⟨rfl, n2, rfl⟩
   go_wp2_with fail
   refine (E3'.out _ (zn HB.out _)).mono ?_
   rintro e w1 ⟨rfl, n3, rfl⟩
   go_wp2
   go_ret
   exact ⟨zZ HR.out.symm, zn HB.out _⟩
 ·have HR := hid hr; clear hr
  have E1' := hid (E1 _ z2); have E2' := hid (E2 _ z3); have E3' := hid (E3 _ z4); clear E1 E2 E3 z2 z3 z4
  go_wp2_with fail
  refine (E1'.out _ HB.out).mono ?_
  rintro e w1 ⟨rfl, n1, rfl⟩
  go_wp2_with fail
  refine (E2'.out _ (zn HB.out _)).mono ?_
  rintro e w1 ⟨rfl, n2, rfl⟩
  go_wp2_with fail
  refine (E3'.out _ (zn HB.out _)).mono ?_
  rintro e w1 ⟨rfl, n3, rfl⟩
  go_wp2
  go_ret
  exact ⟨zZ HR.out.symm, zn HB.out _⟩
set_option maxRecDepth 100000 in
set_option maxHeartbeats 800000 in
theorem zi1 (v : Value) (c : zp) (w : World) (hv : zaZ w w.heap.size v c) :
  Calls Tryz.prog 105 #[v] w (zY (.bool (mayC c)) w) := by
 have hv0 := hv
 obtain ⟨v1, v2, v3, rfl, s1, s2, s3⟩ := hv
 obtain ⟨A1, c1, rfl, hc1, hm1⟩ := s1.formI
 obtain ⟨A2, c2, rfl, hc2, hm2⟩ := s2.formI
 obtain ⟨A3, c3, rfl, hc3, hm3⟩ := s3.formI
 have S0 := hid hv0
 unfold maxLen at hm1 hm2 hm3
 have S1 := hid s1; have S2 := hid s2; have S3 := hid s3
 clear s1 s2 s3 hv0
 have M1 := hid (@zny c); have M2 := hid (@zil c); have M3 := hid (@znD c); have M4 := hid (@zqs c); have M5 := hid (@zra c)
 obtain ⟨n, s, lo, hi⟩ := c
 simp only [zp.shape] at *
 go_enter Tryz.func105, Tryz.ntmps105
 have hb0 : Below w.heap.size w (w.alloc (.cells #[.int .i64 n, .slice A1 s.length c1, .slice A2 lo.length c2, .slice A3 hi.length c3] 125)) := bl1 _ _
 have HB := hid hb0; clear hb0
 have BK := hid (Blk.new w (.int .i64 n) (.slice A1 s.length c1) (.slice A2 lo.length c2) (.slice A3 hi.length c3) 125)
 by_cases hs : s.length <= 2 /\ lo.length = s.length /\ hi.length = s.length
 ·have HS := hid hs
  obtain ⟨hs1, hs2, hs3⟩ := hs
  have u1 : ¬ 2 < (s.length : Int) := by omega
  have u2 : ((lo.length : Int) != (s.length : Int)) = false := by simp [hs2]
  have u3 : ((hi.length : Int) != (s.length : Int)) = false := by simp [hs3]
  clear hs1 hs2 hs3
  have HE := hid (zdM (s.length : Int))
  have hem : emN (s.length : Int) = s.length := zjR HS.out.1
  rw [hem] at HE
  clear hem
  have hsa := fun (v x : Value) (w : World) => zoR v x ⟨n, s, lo, hi⟩ (zz s.length) w
  obtain ⟨de, hde⟩ : ∃ de, de = decide ((⟨n, s, lo, hi⟩ : zp) = zz s.length) := ⟨_, rfl⟩
  rw [<- hde] at hsa
  have HSA := hid hsa; have HDE := hid hde; clear hsa hde
  have M2' := M2; have M3' := M3
  by_cases hc : 1 <= n /\ n <= CNT
  ·have HC := hid hc
   unfold CNT at hc
   obtain ⟨x1, x2⟩ := hc
   have x1' : ¬ n < 1 := by omega
   have x2' : ¬ 1099511627776 < n := by omega
   have cx1 := zk8 x1'
   have cx2 := zk8 x2'
   clear x1 x2
   go_wp2
   go_loopw [40] (fun i wr => MayRel ⟨n, s, lo, hi⟩ (w.alloc (.cells #[.int .i64 n, .slice A1 s.length c1, .slice A2 lo.length c2, .slice A3 hi.length c3] 125)) i wr) (fun i _ => s.length - (intOf i).toNat)
   case atStart => exact ⟨0, by omega, rfl, fun j hj => by omega, Qu.refl _⟩
   case round =>
    obtain ⟨k, hk, rfl, hall, hq⟩ := hrel
    have HA := hid hall; clear hall
    simp only at hk
    have y0 := (hq.cell _).trans BK.out.c0
    have y1 := (hq.cell _).trans BK.out.c1
    have y2 := (hq.cell _).trans BK.out.c2
    have y3 := (hq.cell _).trans BK.out.c3
    by_cases hlt : k < s.length
    ·obtain ⟨b1, o1, rfl, hb1, hx1⟩ := (S1.out.below HB.out).int hlt
     obtain ⟨b2, o2, rfl, hb2, hx2⟩ := (S2.out.below HB.out).int (show k < lo.length by have := HS.out; omega)
     obtain ⟨b3, o3, rfl, hb3, hx3⟩ := (S3.out.below HB.out).int (show k < hi.length by have := HS.out; omega)
     have g1 : wr.cell? ⟨b1, o1 + k, none⟩ = _ := (hq.cell _).trans hx1
     have g2 : wr.cell? ⟨b2, o2 + k, none⟩ = _ := (hq.cell _).trans hx2
     have g3 : wr.cell? ⟨b3, o3 + k, none⟩ = _ := (hq.cell _).trans hx3
     have hlo : k < lo.length := by have := HS.out; omega
     have hhi : k < hi.length := by have := HS.out; omega
     clear hx1 hx2 hx3
     have hbad : ¬ colP n (s.getD k 0) (lo.getD k 0) (hi.getD k 0) -> mayC _ = false := fun h => M4.out HC.out hlt h
     have hgood : colP n (s.getD k 0) (lo.getD k 0) (hi.getD k 0) -> _ := fun h => zc3 (p := (⟨n, s, lo, hi⟩ : zp).col) HA.out h
     generalize s.getD k 0 = x at *
     generalize lo.getD k 0 = l at *
     generalize hi.getD k 0 = h at *
     have HBAD := hid hbad; have HGOOD := hid hgood; clear hbad hgood
     rcases zoH n x l h with ⟨hb, hw⟩ | ⟨⟨z1, z2, z3, z4⟩, hw⟩
     ·have hn := HBAD.out hb
      have HN := hid hn; clear hn hb
      rcases hw with z1 | ⟨z1, z2⟩ | ⟨z1, z2, z3⟩ | ⟨z1, z2, z3, z4⟩
      ·go_wp2
       go_quiet (fail)
       go_wp2
       go_ret
       exact ⟨zZ HN.out.symm, HB.out.trans ((hq.drewN _).below _)⟩
      ·have HI1 := hid (zaY z2 (by omega) (by omega))
       have cb := zk8 z1
       clear z2
       go_wp2
       go_quiet (fail)
       go_wp2_with fail
       refine (HI1.out _).mono ?_
       rintro e w1 ⟨rfl, n1, rfl⟩
       go_wp2
       go_ret
       exact ⟨zZ HN.out.symm, HB.out.trans ((hq.drewN _).below _)⟩
      ·have HI1 := hid (zaY z2 (by omega) (by omega))
       have HI2 := hid (zaY z3 (by omega) (by omega))
       have cb := zk8 z1
       clear z2 z3
       go_wp2
       go_quiet (fail)
       go_wp2_with fail
       refine (HI1.out _).mono ?_
       rintro e w1 ⟨rfl, n1, rfl⟩
       go_wp2_with fail
       refine (HI2.out _).mono ?_
       rintro e w1 ⟨rfl, n2, rfl⟩
       go_wp2
       go_ret
       exact ⟨zZ HN.out.symm, HB.out.trans ((hq.drewN _).below _)⟩
      ·have HI1 := hid (zaY z2 (by omega) (by omega))
       have HI2 := hid (zaY z3 (by omega) (by omega))
       have HI3 := hid (zaY z4 (by omega) (by omega))
       have cb := zk8 z1
       clear z2 z3 z4
       go_wp2
       go_quiet (fail)
       go_wp2_with fail
       refine (HI1.out _).mono ?_
       rintro e w1 ⟨rfl, n1, rfl⟩
       go_wp2_with fail
       refine (HI2.out _).mono ?_
       rintro e w1 ⟨rfl, n2, rfl⟩
       go_wp2_with fail
       refine (HI3.out _).mono ?_
       rintro e w1 ⟨rfl, n3, rfl⟩
       go_wp2
       go_ret
       exact ⟨zZ HN.out.symm, HB.out.trans ((hq.drewN _).below _)⟩
     ·have HI1 := hid (zaY z2 (by omega) (by omega))
      have HI2 := hid (zaY z3 (by omega) (by omega))
      have HI3 := hid (zaY z4 (by omega) (by omega))
      have cb := zk8 z1
      clear z2 z3 z4
      rcases hw with ⟨hb, hw⟩ | ⟨hg, hw⟩
      ·have hn := HBAD.out hb
       have HN := hid hn; clear hn hb
       rcases hw with ⟨z1, z2⟩ | ⟨z1, z2, z3⟩
       all_goals
        go_wp2
        go_quiet (fail)
        go_wp2_with fail
        refine (HI1.out _).mono ?_
        rintro e w1 ⟨rfl, n1, rfl⟩
        go_wp2_with fail
        refine (HI2.out _).mono ?_
        rintro e w1 ⟨rfl, n2, rfl⟩
        go_wp2_with fail
        refine (HI3.out _).mono ?_
        rintro e w1 ⟨rfl, n3, rfl⟩
        go_wp2
        go_ret
        exact ⟨zZ HN.out.symm, HB.out.trans ((hq.drewN _).below _)⟩
      ·have hn := HGOOD.out hg
       have HN := hid hn; clear hn hg
       rcases hw with z1 | ⟨z1, z2, z3⟩
       all_goals
        go_wp2
        go_quiet (fail)
        go_wp2_with fail
        refine (HI1.out _).mono ?_
        rintro e w1 ⟨rfl, n1, rfl⟩
        go_wp2_with fail
        refine (HI2.out _).mono ?_
        rintro e w1 ⟨rfl, n2, rfl⟩
        go_wp2_with fail
        refine (HI3.out _).mono ?_
        rintro e w1 ⟨rfl, n3, rfl⟩
        go_wp2
        go_roundw
        case rel => exact ⟨k + 1, by simp only; omega, by go_num, HN.out, hq.drewN _⟩
        case measure => simp [intOf]; omega
    ·have hn := M5.out HS.out HC.out (fun j hj => HA.out j (by omega))
     have HN := hid hn; clear hn
     go_wp2
     go_ret
     exact ⟨zZ HN.out.symm, HB.out.trans (hq.below _)⟩
  ·have hc' : n < 1 \/ (¬ n < 1 /\ 1099511627776 < n) := by unfold CNT at hc; omega
   have hn : mayC ⟨n, s, lo, hi⟩ = de := by
    rw [HDE.out]
    by_cases he : (⟨n, s, lo, hi⟩ : zp) = zz s.length
    ·rw [decide_eq_true he]; exact M2.out HS.out he
    ·rw [decide_eq_false he]; exact M3.out hc he
   have HN := hid hn
   clear hc hn
   rcases hc' with x1 | ⟨x1, x2⟩
   all_goals
    go_wp2
    go_region_held3 (fun w' => w'.cell? ⟨w.heap.size, 0, none⟩ = some (.int .i64 n) /\ w'.cell? ⟨w.heap.size, 1, none⟩ = some (.slice A1 s.length c1) /\ w'.cell? ⟨w.heap.size, 2, none⟩ = some (.slice A2 lo.length c2) /\ w'.cell? ⟨w.heap.size, 3, none⟩ = some (.slice A3 hi.length c3)) (go_keep)
     (first
      | (go_at_call 100; refine (HE.out _).mono ?_; rintro e w2 ⟨v2, rfl, hr2, hb2⟩; have B2 := hid hb2; have R2 := hid hr2.read; have k2 := (Blk.qu BK.out ⟨1, rfl⟩).below hb2 (by simp); have BK2 := hid k2; obtain ⟨q0, q1, q2, q3, -, -, -, -⟩ := k2; clear hb2 hr2)
      | (go_at_call 131; refine (HSA.out _ _ _ ((S0.out.below ((zn HB.out 1).trans (B2.out.mono (by simp)))).more (by have := B2.out.size; simp at this; omega)) R2.out).mono ?_; rintro e w3 ⟨rfl, hb3⟩; have B3 := hid hb3; have k3 := BK2.out.below hb3 (by have := B2.out.size; simp at this; omega); have BK3 := hid k3; obtain ⟨q0, q1, q2, q3, -, -, -, -⟩ := k3; clear hb3))
    have hW : Below w.heap.size w w3 := ((zn HB.out 1).trans (B2.out.mono (by simp))).trans (B3.out.mono (by have := B2.out.size; simp at this; omega))
    have HW := hid hW
    clear hW
    go_wp2
    go_ret
    exact ⟨zZ HN.out.symm, HW.out⟩
 ·have hn := M1.out hs
  have HN := hid hn
  have hs' : 2 < (s.length : Int) \/ (¬ 2 < (s.length : Int) /\ ((lo.length : Int) != (s.length : Int)) = true) \/ (¬ 2 < (s.length : Int) /\ ((lo.length : Int) != (s.length : Int)) = false /\ ((hi.length : Int) != (s.length : Int)) = true) := by
   simp; omega
  clear hs hn
  rcases hs' with x1 | ⟨x1, x2⟩ | ⟨x1, x2, x3⟩
  all_goals go_wp2
  all_goals go_ret
  all_goals exact ⟨zZ HN.out.symm, HB.out⟩
theorem ziC (l : List Int) : ∀ u ∈ zk l, u.oneCell' = true := by
 intro u hu
 obtain ⟨x, _, rfl⟩ := List.mem_map.1 hu
 rfl
def zqJ (l : List Int) (w : World) (e : Ending) (w' : World) : Prop := ∃ v, e = .returned v /\ w'.ownsRow w.heap.size 3 1 v l.length (zk l) /\ Below w.heap.size w w'
set_option maxRecDepth 100000 in
set_option maxHeartbeats 400000 in
theorem zbd (v : Value) (l : List Int) (w : World) (hv : Sl w w.heap.size v (zk l)) (hl : l.length <= 1073741824) :
  Calls Tryz.prog 34 #[v] w (zqJ l w) := by
 obtain ⟨i0, hi, hz0, hz1, hz2⟩ := info_parts zaE
 have hv' := hv
 obtain ⟨A, c, rfl, hc1, hc2, hA⟩ := hv
 simp only [zaf] at hc1 hv' ⊢
 have HV := hid hv'; have HA := hid hA
 clear hv' hA
 go_enter Tryz.func34, Tryz.ntmps34
 cases A with
 | none =>
   have h0 : l = [] := by
    cases l with
    | nil => rfl
    | cons x l => obtain ⟨b, off, h, _⟩ := HA.out (by simp [zk]); cases h
   have H0 := hid h0; clear h0
   have hq : ∀ W : World, (binOp .eql 27 (.slice none l.length c) (.slice none 0 0)).run Tryz.prog W = .ok (.bool true) W := fun _ => rfl
   go_wp2
   go_ret
   exact ⟨_, rfl, by rw [H0.out]; exact World.ownsRow_nil _ _ _ _, Below.refl _ _⟩
 | some x =>
   have hq : ∀ W : World, (binOp .eql 27 (.slice (some x) l.length c) (.slice none 0 0)).run Tryz.prog W = .ok (.bool false) W := fun _ => rfl
   go_wp2_with (at_builtin; refine zr ?_)
   refine zar ?_
   have hown : (w.alloc (.cells #[] 3)).ownsRow w.heap.size 3 1 (.slice (some ⟨w.heap.size, 0, none⟩) 0 0) 0 [] := by
    refine ⟨rfl, .inr ⟨w.heap.size, 0, #[], rfl, Nat.le_refl _, ?_, Nat.le_refl _, by simp [maxLen], rfl, rfl⟩⟩
    exact heap_alloc_new w _
   refine zav (.tmp 5) (.tmp 6) 27 27 rfl rfl w.heap.size 3 i0 (.int .i64 0) 1 8 Tryz.underlying27 hi hz0 hz1 hz2 rfl (by omega) _ _ _ rfl hown (.slice (some x) l.length c) l.length (zk l) rfl ?_ (by unfold maxLen; omega) (by omega) (by simp) ?_
   ·have hs : Sl (w.alloc (.cells #[] 3)) w.heap.size (.slice (some x) l.length c) (zk l) := by
     obtain ⟨A, c', g1, g2, g3, g4⟩ := HV.out
     refine ⟨A, c', g1, g2, g3, fun h0 => ?_⟩
     obtain ⟨b, off, g5, g6, g7⟩ := g4 h0
     exact ⟨b, off, g5, g6, fun j u hj => zv g6 (g7 j u hj)⟩
    have := zfG _ Tryz.underlying27 hs (ziC l)
    rwa [zaf] at this
   ·intro v2 w2 hown2 hg2 hb2
    go_wp2
    go_ret
    refine ⟨v2, rfl, by simpa using hown2, ?_⟩
    exact (bl1 w _).trans hb2
theorem zcq {w w' : World} {H H' : Nat} {v : Value} {n : Nat} {xs : List Value} (h : w.ownsRow H 3 1 v n xs) (hb : Below w.heap.size w w') (hH : H' <= H) : w'.ownsRow H' 3 1 v n xs :=
 have k := zo h (fun g hg => hb.block g (h.lt g hg).2)
 ⟨k.1, k.2.imp id (fun ⟨g, cap, cur, e, hg, r⟩ => ⟨g, cap, cur, e, Nat.le_trans hH hg, r⟩)⟩
theorem zcf {w w' : World} {H H' b : Nat} {v : Value} {n : Nat} {xs : List Value} (h : w.ownsRow H 3 1 v n xs) (hu : Upd b w w') (hb : b < H) (hH : H' <= H) : w'.ownsRow H' 3 1 v n xs := by
 have k := zo h (fun g hg => hu.block g (h.lt g hg).2 (fun e => by injection e with e; have := (h.lt g hg).1; omega))
 exact ⟨k.1, k.2.imp id (fun ⟨g, cap, cur, e, hg, r⟩ => ⟨g, cap, cur, e, Nat.le_trans hH hg, r⟩)⟩
set_option maxRecDepth 100000 in
set_option maxHeartbeats 1600000 in
theorem zgF (v : Value) (c : zp) (w : World) (hv : zaZ w w.heap.size v c) (hl : c.s.length <= 1073741824 /\ c.lo.length <= 1073741824 /\ c.hi.length <= 1073741824) :
  Calls Tryz.prog 109 #[v] w (zg2 c w) := by
 obtain ⟨v1, v2, v3, rfl, s1, s2, s3⟩ := hv
 have HC1 := hid (fun W (h : Below w.heap.size w W) => zbd v1 c.s W ((s1.below h).more h.size) hl.1)
 have HC2 := hid (fun W (h : Below w.heap.size w W) => zbd v2 c.lo W ((s2.below h).more h.size) hl.2.1)
 have HC3 := hid (fun W (h : Below w.heap.size w W) => zbd v3 c.hi W ((s3.below h).more h.size) hl.2.2)
 obtain ⟨A1, c1, rfl, -, -⟩ := s1.formI
 obtain ⟨A2, c2, rfl, -, -⟩ := s2.formI
 obtain ⟨A3, c3, rfl, -, -⟩ := s3.formI
 clear s1 s2 s3 hl
 go_enter Tryz.func109, Tryz.ntmps109
 obtain ⟨W0, hW0⟩ : ∃ W, W = (w.alloc (.cells #[.int .i64 c.n, .slice A1 c.s.length c1, .slice A2 c.lo.length c2, .slice A3 c.hi.length c3] 125)).alloc (.cells #[.int .i64 0, .slice none 0 0, .slice none 0 0, .slice none 0 0] 125) := ⟨_, rfl⟩
 have hb0 : Below w.heap.size w W0 := by rw [hW0]; exact zI
 have hs0 : W0.heap.size = w.heap.size + 1 + 1 := by rw [hW0]; simp
 have ba : Blk W0 w.heap.size (.int .i64 c.n) (.slice A1 c.s.length c1) (.slice A2 c.lo.length c2) (.slice A3 c.hi.length c3) := by rw [hW0]; exact (Blk.new _ _ _ _ _ _).alloc (by simp only [World.size_alloc]; omega) _
 have br : Blk W0 (w.heap.size + 1) (.int .i64 0) (.slice none 0 0) (.slice none 0 0) (.slice none 0 0) := by rw [hW0]; exact Blk.new' _ _ _ _ _ (by simp)
 go_wp2
 rw [<- hW0]
 have HB0 := hid hb0; have BA := hid ba; have BR := hid br; have HS0 := hid hs0
 obtain ⟨p0, p1, p2, p3, -, -, -, -⟩ := ba
 clear hW0 hb0 br hs0
 go_region_held3 (fun w' => w'.cell? ⟨w.heap.size, 0, none⟩ = some (.int .i64 c.n) /\ w'.cell? ⟨w.heap.size, 1, none⟩ = some (.slice A1 c.s.length c1) /\ w'.cell? ⟨w.heap.size, 2, none⟩ = some (.slice A2 c.lo.length c2) /\ w'.cell? ⟨w.heap.size, 3, none⟩ = some (.slice A3 c.hi.length c3)) (go_keep)
  (first
   | (go_at_call_of 34 (Value.slice A1 c.s.length c1); refine (HC1.out _ HB0.out.drew).mono ?_; rintro e w1 ⟨y1, rfl, ho1, hb1⟩; obtain ⟨a1, d1, rfl, -, -, -⟩ := zl ho1; have B1 := hid ((Below.refl W0.heap.size W0).drew.trans hb1); have O1 := hid ho1; have A1' := hid (BA.out.below B1.out (by have := HS0.out; omega)); obtain ⟨p4, p5, p6, p7, -, -, -, -⟩ := A1'.out; clear ho1 hb1)
   | (go_at_call_of 34 (Value.slice A2 c.lo.length c2); refine (HC2.out _ (HB0.out.trans (B1.out.mono (by have := HS0.out; omega)))).mono ?_; rintro e w2 ⟨y2, rfl, ho2, hb2⟩; obtain ⟨a2, d2, rfl, -, -, -⟩ := zl ho2; have B2 := hid hb2; have O2 := hid ho2; have A2' := hid (A1'.out.below hb2 (by have := HS0.out; have := B1.out.size; omega)); obtain ⟨p8, p9, p10, p11, -, -, -, -⟩ := A2'.out; clear ho2 hb2)
   | (go_at_call_of 34 (Value.slice A3 c.hi.length c3); refine (HC3.out _ ((HB0.out.trans (B1.out.mono (by have := HS0.out; omega))).trans (B2.out.mono (by have := HS0.out; have := B1.out.size; omega)))).mono ?_; rintro e w3 ⟨y3, rfl, ho3, hb3⟩; obtain ⟨a3, d3, rfl, -, -, -⟩ := zl ho3; have B3 := hid hb3; have O3 := hid ho3; have A3' := hid (A2'.out.below hb3 (by have := HS0.out; have := B1.out.size; have := B2.out.size; omega)); obtain ⟨p12, p13, p14, p15, -, -, -, -⟩ := A3'.out; have BR3 := hid (((BR.out.below B1.out (by have := HS0.out; omega)).below B2.out (by have := HS0.out; have := B1.out.size; omega)).below hb3 (by have := HS0.out; have := B1.out.size; have := B2.out.size; omega)); obtain ⟨r0, r1, r2, r3, f0, f1, f2, f3⟩ := BR3.out; clear ho3 hb3))
 go_wp2
 have hz1 := B1.out.size
 have hz2 := B2.out.size
 have hz3 := B3.out.size
 have hz0 := HS0.out
 have hu := upd4 (w.heap.size + 1) w3 (.int .i64 c.n) (.slice a1 c.s.length d1) (.slice a2 c.lo.length d2) (.slice a3 c.hi.length d3)
 have k1 := zcf (zcq O1.out (B2.out.trans (B3.out.mono hz2)) (H' := w.heap.size + 1 + 1) (by simp only [World.size_drew]; omega)) hu (by omega) (H' := w.heap.size) (by omega)
 have k2 := zcf (zcq O2.out B3.out (H' := w.heap.size + 1 + 1) (by omega)) hu (by omega) (H' := w.heap.size) (by omega)
 have k3 := zcf (zcq O3.out (Below.refl _ _) (H' := w.heap.size + 1 + 1) (by omega)) hu (by omega) (H' := w.heap.size) (by omega)
 have hbel : Below w.heap.size w _ := (HB0.out.trans ((B1.out.mono (by omega)).trans ((B2.out.mono (by omega)).trans (B3.out.mono (by omega))))).trans (hu.below (by omega) (by omega))
 have K1 := hid k1; have K2 := hid k2; have K3 := hid k3; have HBE := hid hbel
 have N1 : Hid (∀ g, (Value.slice a1 c.s.length d1).ownBlock = some g -> (Value.slice a2 c.lo.length d2).ownBlock ≠ some g /\ (Value.slice a3 c.hi.length d3).ownBlock ≠ some g) := hid (fun g hg => ⟨fun h => by have := O1.out.lt g hg; have := O2.out.lt g h; omega, fun h => by have := O1.out.lt g hg; have := O3.out.lt g h; omega⟩)
 have N2 : Hid (∀ g, (Value.slice a2 c.lo.length d2).ownBlock = some g -> (Value.slice a3 c.hi.length d3).ownBlock ≠ some g) := hid (fun g hg h => by have := O2.out.lt g hg; have := O3.out.lt g h; omega)
 exact bodyPost_ret (v := .agg #[.int .i64 c.n, .slice a1 c.s.length d1, .slice a2 c.lo.length d2, .slice a3 c.hi.length d3]) (by simp [results, Tryz.results109, go_sem, r0, r1, r2, r3]; done) rfl ⟨_, rfl, ⟨_, _, _, rfl, K1.out, K2.out, K3.out, N1.out, N2.out⟩, HBE.out⟩
def zfW (x : Int) : Bool := decide (-SUM <= x /\ x <= SUM)
theorem zdD {x : Int} : zfW x = true ↔ -SUM <= x /\ x <= SUM := by unfold zfW; rw [decide_eq_true_eq]
def zp9 (x : Int) (w : World) (e : Ending) (w' : World) : Prop := (∃ y, e = .returned (.tuple #[.int .i64 y, .bool (zfW x)]) /\ (zfW x = true -> y = x)) /\ Below w.heap.size w w'
set_option maxRecDepth 100000 in
set_option maxHeartbeats 800000 in
theorem znR (v : Value) (l : List Int) (w : World) (hl : l.length <= 1073741824) (hv : Sl w w.heap.size v (zk l)) (h1 : -604462909807314587353088 <= l.sum) (h2 : l.sum < 604462909807314587353088) :
  Calls Tryz.prog 118 #[v] w (zp9 l.sum w) := by
 have HT := hid (ziO v l w hl hv); clear hv
 obtain ⟨z, hz⟩ : ∃ z, z = l.sum := ⟨_, rfl⟩
 rw [<- hz] at h1 h2 ⊢
 have HZ := hid hz; clear hz
 have H1 := hid h1; have H2 := hid h2; clear h1 h2
 go_enter Tryz.func118, Tryz.ntmps118
 go_wp2_with fail
 refine HT.out.mono ?_
 rintro e w1 ⟨v1, rfl, hs1, hb1⟩
 rw [<- HZ.out] at hs1
 have HI := hid (zlM v1 z w1 hs1 H1.out H2.out)
 have HB := hid hb1
 clear hs1 hb1
 cases hf : zhY z
 ·have hno : zfW z = false := by
   rw [Bool.eq_false_iff]; intro h
   have := zdD.1 h
   unfold SUM at this
   unfold zhY at hf
   rw [decide_eq_false_iff_not] at hf
   omega
  rw [show zb7 z w1 = fun e w' => e = .returned (.tuple #[.int .i64 0, .int .i64 14]) /\ Qu w1 w' by unfold zb7; rw [hf]; rfl] at HI
  have HN := hid hno; clear hno hf
  go_wp2_with fail
  refine HI.out.mono ?_
  rintro e w2 ⟨rfl, hq⟩
  go_wp2
  go_ret2
  exact ⟨⟨0, by rw [HN.out]; rfl, fun h => by rw [HN.out] at h; cases h⟩, HB.out.trans (hq.below _)⟩
 ·have hin : inB z 4611686018427387904 = zfW z := by
   rw [Bool.eq_iff_iff, zcm, zdD]; exact Iff.rfl
  rw [show zb7 z w1 = fun e w' => e = .returned (.tuple #[.int .i64 z, .int .i64 0]) /\ Qu w1 w' by unfold zb7; rw [hf]; rfl] at HI
  have HC := hid (fun w => zgt z 4611686018427387904 w (by omega) (by omega))
  rw [hin] at HC
  clear hin hf
  go_wp2_with fail
  refine HI.out.mono ?_
  rintro e w2 ⟨rfl, hq⟩
  go_wp2_with fail
  refine (HC.out _).mono ?_
  rintro e w3 ⟨rfl, hq3⟩
  go_wp2
  go_ret2
  exact ⟨⟨z, rfl, fun _ => rfl⟩, (HB.out.trans (hq.below _)).trans (hq3.below _)⟩
def zfA (r : zp × Int) (w : World) (e : Ending) (w' : World) : Prop := ∃ v, e = .returned (.tuple #[v, .int .i64 r.2]) /\ zaZ w' w'.heap.size v r.1 /\ Below w.heap.size w w'
theorem fin4 {w w2 : World} {b B : Nat} (h : Below B w w2) (hb : B <= b) (hlt : b < w2.heap.size) (v0 v1 v2 v3 : Value) : Below B w ((((w2.setCell ⟨b, 0, none⟩ v0).setCell ⟨b, 1, none⟩ v1).setCell ⟨b, 2, none⟩ v2).setCell ⟨b, 3, none⟩ v3) :=
 h.trans ((upd4 b w2 v0 v1 v2 v3).below hb hlt)
theorem znd {r r' : zp × Int} (h : r = r') {v : Value} {w w' : World} {e : Ending} (he : e = .returned (.tuple #[v, .int .i64 r'.2])) (hc : zaZ w' w'.heap.size v r'.1) (hb : Below w.heap.size w w') : zfA r w e w' := by
 subst h; exact ⟨v, he, hc, hb⟩
def X4 (s lo hi : List Int) (k : Nat) : Nat -> List Int := fun j => if j = 1 then s.take k else if j = 2 then lo.take k else hi.take k
theorem zjm {w : World} {H H' : Nat} {v : Value} {n : Nat} {xs : List Value} (h : w.ownsRow H 3 1 v n xs) (hH : H' <= H) : w.ownsRow H' 3 1 v n xs := zcq h (Below.refl _ _) hH
theorem OwnC.le {w : World} {H H' : Nat} {v : Value} {c : zp} (h : OwnC w H v c) (hH : H' <= H) : OwnC w H' v c := by
 obtain ⟨v1, v2, v3, e, h1, h2, h3, h4⟩ := h
 exact ⟨v1, v2, v3, e, zjm h1 hH, zjm h2 hH, zjm h3 hH, h4⟩
theorem OwnC.upd {w w' : World} {H b : Nat} {v : Value} {c : zp} (h : OwnC w H v c) (hu : Upd b w w') (hb : b < H) : OwnC w' H v c := by
 obtain ⟨v1, v2, v3, e, h1, h2, h3, h4⟩ := h
 exact ⟨v1, v2, v3, e, zcf h1 hu hb (Nat.le_refl _), zcf h2 hu hb (Nat.le_refl _), zcf h3 hu hb (Nat.le_refl _), h4⟩
theorem OwnC.nil_ (w : World) (H : Nat) : OwnC w H (.agg #[.int .i64 0, .slice none 0 0, .slice none 0 0, .slice none 0 0]) nilC :=
 ⟨_, _, _, rfl, World.ownsRow_nil _ _ _ _, World.ownsRow_nil _ _ _ _, World.ownsRow_nil _ _ _ _, fun g hg => by simp [Value.ownBlock] at hg, fun g hg => by simp [Value.ownBlock] at hg⟩
def zhk (r : zp × Int) (w : World) (e : Ending) (w' : World) : Prop := ∃ v, e = .returned (.tuple #[v, .int .i64 r.2]) /\ OwnC w' w.heap.size v r.1 /\ Below w.heap.size w w'
theorem zdo {r r' : zp × Int} (h : r = r') {v : Value} {w w' : World} {e : Ending} (he : e = .returned (.tuple #[v, .int .i64 r'.2])) (hc : OwnC w' w.heap.size v r'.1) (hb : Below w.heap.size w w') : zhk r w e w' := by
 subst h; exact ⟨v, he, hc, hb⟩
theorem zer {z o : List Int} {k : Nat} (hz : k < z.length) (ho : k < o.length) : (z.take k ++ o.drop k).set k (z.getD k 0) = z.take (k + 1) ++ o.drop (k + 1) := by
 rw [List.drop_eq_getElem_cons ho, List.set_append, if_neg (by rw [List.length_take]; omega), List.length_take, show k - min k z.length = 0 by omega, List.set_cons_zero, zP z k hz, List.append_assoc]
 rfl
theorem zcO {z o : List Int} {k : Nat} (hz : k = z.length) (ho : k = o.length) : z.take k ++ o.drop k = z := by
 rw [List.take_of_length_le (by omega), List.drop_eq_nil_of_le (by omega), List.append_nil]
def YM (z o : zp) (k : Nat) : Nat -> List Int := fun j => if j = 1 then z.s.take k ++ o.s.drop k else if j = 2 then z.lo.take k ++ o.lo.drop k else z.hi.take k ++ o.hi.drop k
theorem zp7 {z o : zp} {k n : Nat} (h1 : z.s.length = n) (h2 : o.s.length = n) (h3 : z.lo.length = n) (h4 : o.lo.length = n) (h5 : z.hi.length = n) (h6 : o.hi.length = n) (hk : k <= n) : ∀ j, 1 <= j -> j <= 3 -> (YM z o k j).length = n := by
 refine zbk ?_ ?_ ?_
 ·show List.length (_ ++ _) = n; rw [List.length_append, List.length_take, List.length_drop]; omega
 ·show List.length (_ ++ _) = n; rw [List.length_append, List.length_take, List.length_drop]; omega
 ·show List.length (_ ++ _) = n; rw [List.length_append, List.length_take, List.length_drop]; omega
def PRel (n : Int) (len : Nat) (z o : zp) (V : Nat -> Value) (w2 : World) (C : Nat) (i : Value) (wr : World) : Prop :=
 ∃ k : Nat, k <= len /\ i = .int .i64 k /\ Bld wr w2.heap.size C n V (YM z o k) /\ Below w2.heap.size w2 wr
theorem intW (z : Int) (hz : -9223372036854775808 <= z /\ z <= 9223372036854775807) (w : World) :
  Calls Tryz.prog 102 #[.agg #[.int .i64 (z / 4294967296), .int .i64 (z % 4294967296)]] w (zY (.tuple #[.int .i64 z, .int .i64 0]) w) := by
 have h := zjs (z / 4294967296) (z % 4294967296) w (by unfold MayB; rw [decide_eq_true_eq]; omega) (by omega) (by omega)
 rw [show z / 4294967296 * 4294967296 + z % 4294967296 = z by omega] at h
 exact h
theorem zn4 (z : Int) (h1 : z < -9223372036854775808 \/ 9223372036854775807 < z) (h2 : -4722366482869645213696 <= z /\ z <= 4722366482869645213696) (w : World) :
  Calls Tryz.prog 102 #[.agg #[.int .i64 (z / 4294967296), .int .i64 (z % 4294967296)]] w (zY (.tuple #[.int .i64 0, .int .i64 14]) w) :=
 zlF (z / 4294967296) (z % 4294967296) w (by unfold MayB; rw [decide_eq_true_eq]; omega) (by omega)
end Go.Proofs.YtgoapnkdcfcjgaaGreat
