/- 5 texts of this claim, in build order. -/
import Derived.Test.YtgoapnkdcfcjgaaGreatPfehlkdpg
import Derived.Test.YtgoapnkdcfcjgaaGreatPcmbnjpje
import Derived.Test.YtgoapnkdcfcjgaaGreatPhbmnikng
import Derived.Test.YtgoapnkdcfcjgaaGreatPodofifho
import Derived.Test.YtgoapnkdcfcjgaaGreatPplomcpim
import Derived.Test.YtgoapnkdcfcjgaaGreatPbdfgmcpj
set_option linter.unusedVariables false
set_option linter.unusedSimpArgs false
namespace Go.Proofs.YtgoapnkdcfcjgaaGreat
open Go.ChangeShapes Go.WideShapes Go.ChangeAt Go.RowKit Go.Deep
set_option maxRecDepth 100000 in
set_option maxHeartbeats 3200000 in
theorem zeG (w : World) (cs0 : Array Value) (x0 : ze) (z0 : cs0.size = 3) (h0 : zgK w w.heap.size cs0.toList x0) (xl : Value) (bs : List (List zq)) (hbs : zj 1 (zj 2 za7) w w.heap.size [xl] bs) (cs1 : Array Value) (x1 : zX) (z1 : cs1.size = 2) (h1 : zjC w w.heap.size cs1.toList x1) :
  Calls Tryz.prog 4 #[.agg cs0, xl, .agg cs1] w (zY (.bool true) w) := by
 have hs := zhy h0
 have hq := zjq h1
 have hs0 := hs; have hq0 := hq
 obtain ⟨A1, c1, A2, c2, A3, c3, e, -, -, -⟩ := hs
 simp only [Value.agg.injEq] at e
 subst e
 obtain ⟨X1, d1, X2, d2, e, -, -⟩ := hq
 simp only [Value.agg.injEq] at e
 subst e
 have HSML := hid (fun W (hb : Below w.heap.size w W) => zmR _ x0 W w.heap.size hb.size (hs0.below hb))
 have HF := hid (fun W (hb : Below w.heap.size w W) => zmv _ x1 W w.heap.size hb.size (hq0.below hb))
 obtain ⟨hq1, hq2⟩ := zmT x1
 obtain ⟨hsl, hs9⟩ := zi2 x0
 clear h0 h1 hs0 hq0 z0 z1
 generalize x0.1.length = k1 at *
 generalize x0.2.1.length = k2 at *
 generalize x0.2.2.length = k3 at *
 generalize x1.1.length = k4 at *
 generalize x1.2.length = k5 at *
 generalize zd0 x1 = q at *
 generalize zdf x0 = s at *
 obtain ⟨W0, hW0⟩ : ∃ W, W = (w.alloc (.cells #[.slice A1 k1 c1, .slice A2 k2 c2, .slice A3 k3 c3] 26)).alloc (.cells #[.slice X1 k4 d1, .slice X2 k5 d2] 30) := ⟨_, rfl⟩
 have g0 : Below w.heap.size w W0 := by rw [hW0]; exact (bl1 w _).alloc (by simp) _
 have z0 : W0.heap.size = w.heap.size + 1 + 1 := by rw [hW0]; simp
 have y0 : W0.cell? ⟨w.heap.size, 0, none⟩ = some (.slice A1 k1 c1) := by rw [hW0]; simp [go_sem]
 have y1 : W0.cell? ⟨w.heap.size, 1, none⟩ = some (.slice A2 k2 c2) := by rw [hW0]; simp [go_sem]
 have y2 : W0.cell? ⟨w.heap.size, 2, none⟩ = some (.slice A3 k3 c3) := by rw [hW0]; simp [go_sem]
 have y3 : W0.cell? ⟨w.heap.size + 1, 0, none⟩ = some (.slice X1 k4 d1) := by rw [hW0]; simp [go_sem]
 have y4 : W0.cell? ⟨w.heap.size + 1, 1, none⟩ = some (.slice X2 k5 d2) := by rw [hW0]; simp [go_sem]
 have f0 : W0.frozen? ⟨w.heap.size, 0, none⟩ = false := by rw [hW0]; simp [go_sem]
 have f1 : W0.frozen? ⟨w.heap.size, 1, none⟩ = false := by rw [hW0]; simp [go_sem]
 have f2 : W0.frozen? ⟨w.heap.size, 2, none⟩ = false := by rw [hW0]; simp [go_sem]
 have f3 : W0.frozen? ⟨w.heap.size + 1, 0, none⟩ = false := by rw [hW0]; simp [go_sem]
 have f4 : W0.frozen? ⟨w.heap.size + 1, 1, none⟩ = false := by rw [hW0]; simp [go_sem]
 have HW0 := hid hW0; have G0 := hid g0
 clear hW0 g0
 go_enter Tryz.func4, Tryz.ntmps4
 go_wp2_with fail
 rw [<- HW0.out]
 refine (HSML.out _ G0.out).mono ?_
 rintro e w1 ⟨B1, b1, B2, b2, B3, b3, rfl, hsv, hb1⟩
 have z1 := hb1.size
 have k0 := zc hb1 (by omega) y0
 have k1' := zc hb1 (by omega) y1
 have k2' := zc hb1 (by omega) y2
 have n0 := zy hb1 (by omega) f0
 have n1 := zy hb1 (by omega) f1
 have n2 := zy hb1 (by omega) f2
 obtain ⟨W1, hW1⟩ : ∃ W, W = ((w1.setCell ⟨w.heap.size, 0, none⟩ (.slice B1 s.1.length b1)).setCell ⟨w.heap.size, 1, none⟩ (.slice B2 s.2.1.length b2)).setCell ⟨w.heap.size, 2, none⟩ (.slice B3 s.2.2.length b3) := ⟨_, rfl⟩
 have bb1 : Below w.heap.size w1 W1 := by rw [hW1]; exact Below.setCell (Below.setCell (Below.setCell (Below.refl _ w1) (show w.heap.size <= w.heap.size from Nat.le_refl _) _) (show w.heap.size <= w.heap.size from Nat.le_refl _) _) (show w.heap.size <= w.heap.size from Nat.le_refl _) _
 have zW1 : W1.heap.size = w1.heap.size := by rw [hW1]; simp [World.setCell]
 have hfar : ∀ g, g ≠ w.heap.size -> W1.heap[g]? = w1.heap[g]? := fun g hg => by rw [hW1]; exact (Below.heap_setCell _ _ _ g (by simp; omega)).trans ((Below.heap_setCell _ _ _ g (by simp; omega)).trans (Below.heap_setCell _ _ _ g (by simp; omega)))
 have m0 : W1.cell? ⟨w.heap.size, 0, none⟩ = some (.slice B1 s.1.length b1) := by rw [hW1]; exact zb (by omega) (zb (by omega) (zt k0))
 have m1 : W1.cell? ⟨w.heap.size, 1, none⟩ = some (.slice B2 s.2.1.length b2) := by rw [hW1]; exact zb (by omega) (zt (zb (by omega) k1'))
 have m2 : W1.cell? ⟨w.heap.size, 2, none⟩ = some (.slice B3 s.2.2.length b3) := by rw [hW1]; exact zt (zb (by omega) (zb (by omega) k2'))
 have hb01 := G0.out.trans ((hb1.mono (by omega)).trans bb1)
 have qb : W1.heap[w.heap.size + 1]? = W0.heap[w.heap.size + 1]? := (hfar _ (by omega)).trans (hb1.block _ (by omega))
 have y3' : W1.cell? ⟨w.heap.size + 1, 0, none⟩ = some (.slice X1 k4 d1) := (World.cell?_of_block (a := ⟨w.heap.size + 1, 0, none⟩) qb).trans y3
 have y4' : W1.cell? ⟨w.heap.size + 1, 1, none⟩ = some (.slice X2 k5 d2) := (World.cell?_of_block (a := ⟨w.heap.size + 1, 1, none⟩) qb).trans y4
 have f3' : W1.frozen? ⟨w.heap.size + 1, 0, none⟩ = false := (World.frozen?_of_block (a := ⟨w.heap.size + 1, 0, none⟩) qb).trans f3
 have f4' : W1.frozen? ⟨w.heap.size + 1, 1, none⟩ = false := (World.frozen?_of_block (a := ⟨w.heap.size + 1, 1, none⟩) qb).trans f4
 have q3 : w1.cell? ⟨w.heap.size + 1, 0, none⟩ = some (.slice X1 k4 d1) := zc hb1 (by omega) y3
 have q4 : w1.cell? ⟨w.heap.size + 1, 1, none⟩ = some (.slice X2 k5 d2) := zc hb1 (by omega) y4
 have HSV := hid (hsv.below bb1); have HW1 := hid hW1; have GW1 := hid hb01
 rw [hW1] at y3' y4'
 clear hsv hb1 bb1 hW1 hb01 qb hfar y0 y1 y2 y3 y4 f0 f1 f2 f3 f4
 go_wp2_with fail
 rw [<- HW1.out]
 refine (HF.out _ GW1.out).mono ?_
 rintro e w2 ⟨F1, e1, F2, e2, rfl, hqv, hb2⟩
 have z2 := hb2.size
 have k3' := zc hb2 (by omega) ((congrArg (fun W => World.cell? W ⟨w.heap.size + 1, 0, none⟩) HW1.out).trans y3')
 have k4' := zc hb2 (by omega) ((congrArg (fun W => World.cell? W ⟨w.heap.size + 1, 1, none⟩) HW1.out).trans y4')
 have n3 := zy hb2 (by omega) f3'
 have n4 := zy hb2 (by omega) f4'
 have m0' := zc hb2 (by omega) m0
 have m1' := zc hb2 (by omega) m1
 have m2' := zc hb2 (by omega) m2
 obtain ⟨W2, hW2⟩ : ∃ W, W = (w2.setCell ⟨w.heap.size + 1, 0, none⟩ (.slice F1 q.1.length e1)).setCell ⟨w.heap.size + 1, 1, none⟩ (.slice F2 q.2.length e2) := ⟨_, rfl⟩
 have bb2 : Below w.heap.size w2 W2 := by rw [hW2]; exact Below.setCell (Below.setCell (Below.refl _ w2) (show w.heap.size <= w.heap.size + 1 by omega) _) (show w.heap.size <= w.heap.size + 1 by omega) _
 have zW2 : W2.heap.size = w2.heap.size := by rw [hW2]; simp [World.setCell]
 have htwo : Two w W2 s q (.slice B1 s.1.length b1) (.slice B2 s.2.1.length b2) (.slice B3 s.2.2.length b3) (.slice F1 q.1.length e1) (.slice F2 q.2.length e2) := by
  have hbw := GW1.out.trans ((hb2.mono (by omega)).trans bb2)
  refine ⟨by omega, hbw, ?_, ?_, ?_, ?_, ?_, (HSV.out.below ((hb2.mono (by omega)).trans bb2)).more hbw.size, (hqv.below bb2).more hbw.size⟩
  ·rw [hW2]; exact cell_far (by omega) (cell_far (by omega) m0')
  ·rw [hW2]; exact cell_far (by omega) (cell_far (by omega) m1')
  ·rw [hW2]; exact cell_far (by omega) (cell_far (by omega) m2')
  ·rw [hW2]; exact zb (by omega) (zt k3')
  ·rw [hW2]; exact zt (zb (by omega) k4')
 have HW2 := hid hW2; have HT2 := hid htwo
 clear hqv hb2 bb2 hW2 htwo y3' y4' f3' f4' m0 m1 m2 m0' m1' m2' k0 k1' k2' n0 n1 n2 q3 q4
 obtain ⟨tl, -, s0, s1, s2, q0, q1, -, -⟩ := HT2.out
 have hw2 := HW2.out
 have s0i := s0; have s1i := s1; have s2i := s2; have q0i := q0; have q1i := q1
 rw [hw2] at s0i s1i s2i q0i q1i
 clear hw2
 obtain ⟨AB, cB, e, -, -⟩ := hbs.open_
 simp only [List.cons.injEq, and_true] at e
 subst e
 have HBT := hid (zlb _ (.slice AB bs.length cB) s bs W2 HT2.out.sv ((zas zab).more ((zas zab).stays hbs HT2.out.b) HT2.out.b.size) (by omega))
 clear hbs
 go_wp2_with fail
 rw [<- HW2.out]
 refine HBT.out.mono ?_
 rintro e w3 hp
 rcases hp with ⟨hm, rfl, hb3⟩ | ⟨hm, H1, p, b, rfl, Y, O, rp, hlw, hr, hd, hb3⟩
 ·have HB3 := hid hb3
  clear hb3 k3' k4' n3 n4 s0i s1i s2i q0i q1i s0 s1 s2 q0 q1
  go_wp2_with fail
  refine (zgo _).mono ?_
  rintro e w6 ⟨rfl, hb6⟩
  have HB6 := hid (HB3.out.trans (hb6.mono HB3.out.size)); clear hb6
  go_wp2
  go_ret
  exact ⟨by simp, HT2.out.b.trans (HB6.out.mono HT2.out.b.size)⟩
 ·obtain ⟨hok, hls, hlen⟩ := zhi hm bs (min bs.length 8)
  have hm8 : min bs.length 8 <= 8 := Nat.min_le_right _ _
  have hagr := zql hm bs (min bs.length 8) hm8
  obtain ⟨hkR, hLn⟩ := zjL s bs (min bs.length 8)
  have hn : ∀ v, lenV (latK s bs (min bs.length 8)) v <= 64 := fun v => by have := hlen v; unfold lenV; omega
  have hrows := fun v (hv : v < (zh s).length) => hagr.rows hm hv
  clear hd hlen hagr
  generalize latK s bs (min bs.length 8) = l at *
  generalize (refK s bs (min bs.length 8)).1 = Ls at *
  generalize (refK s bs (min bs.length 8)).2 = pls at *
  have hmay := hok.may
  have hch : zds l q = if mayQ s q = 0 then (((zaN (lenV l) 0 (zbV (zh s) (zaP q) (zh s).length).tail : Nat) : Int), 0) else (0, mayQ s q) := by unfold zds; rw [hls]
  have hCH := zdi H1 p Y l _ q w3 hlw hmay hok.clen (HT2.out.qv.on hb3) (by omega) (fun v => by have := hn v; omega)
  have hRC := fun W (hb : Below w3.heap.size w3 W) => zgO W2.heap.size b O s Ls pls rp _ q (lenV l) W (hr.kept (hb.mono hb3.size) (fun g hg => hb.block g (hr.ol g hg).2)) hm hkR.2.2 (by omega) (Nat.le_trans hb3.size hb.size) ((HT2.out.qv.on hb3).on hb) (by omega) hrows (fun v => by have := hn v; omega)
  rw [hch] at hCH
  generalize (if mayQ s q = 0 then (((zaN (lenV l) 0 (zbV (zh s) (zaP q) (zh s).length).tail : Nat) : Int), (0 : Int)) else (0, mayQ s q)) = r at hCH hRC
  obtain ⟨rm, re⟩ := r
  have HCH := hid hCH; have HRC := hid hRC
  have HB3 := hid hb3
  have q0 := zc hb3 (by omega) q0
  have q1 := zc hb3 (by omega) q1
  clear hlw hr hok hn hrows hkR hCH hRC hch hb3 k3' k4' n3 n4 s0i s1i s2i q0i q1i s0 s1 s2
  have t0 : (rm == rm) = true := beq_self_eq_true _
  have t1 : (re == re) = true := beq_self_eq_true _
  go_wp2_with fail
  refine HCH.out.mono ?_
  rintro e w4 ⟨rfl, hb4⟩
  have HB4 := hid hb4
  have q0 := zc hb4 (by have := HB3.out.size; omega) q0
  have q1 := zc hb4 (by have := HB3.out.size; omega) q1
  clear hb4
  go_wp2_with fail
  refine (HRC.out _ HB4.out).mono ?_
  rintro e w5 ⟨rfl, hb5⟩
  have HB5 := hid (HB4.out.trans (hb5.mono HB4.out.size))
  clear hb5 q0 q1
  go_wp2_with fail
  refine (zgo _).mono ?_
  rintro e w8 ⟨rfl, hb8⟩
  have HB8 := hid (HB3.out.trans ((HB5.out.trans (hb8.mono HB5.out.size)).mono HB3.out.size)); clear hb8
  go_wp2
  go_ret
  exact ⟨by simp, HT2.out.b.trans (HB8.out.mono HT2.out.b.size)⟩
theorem zj0 : zbR Tryz.prog 24 1 (zj 1 zC) := zaW (e := 27) zm Tryz.underlying24 zdw (by kernel_rfl) (by omega)
theorem zmx : zbR Tryz.prog 54 2 zee := by
 refine zbw (k := 2) Tryz.underlying54 (by kernel_rfl) ?_
 exact zbb (k2 := 1) (by rfl) (zhP Tryz.underlying9 (by kernel_rfl)) (zb9 (by rfl) zdj)
theorem zmn : zbR Tryz.prog 22 1 (zj 2 zee) := zaW (e := 54) zkw Tryz.underlying22 zmx (by kernel_rfl) (by omega)
theorem zhR : zbR Tryz.prog 26 3 zgK := by
 refine zbw (k := 3) Tryz.underlying26 (by kernel_rfl) ?_
 exact zbb (k2 := 2) (by rfl) zmn (zbb (k2 := 1) (by rfl) zdj (zb9 (by rfl) zj0))
theorem zia : zbR Tryz.prog 83 3 zch := by
 refine zbw (k := 3) Tryz.underlying83 (by kernel_rfl) ?_
 exact zbb (k2 := 2) (by rfl) (ze7 Tryz.underlying3 (by kernel_rfl)) (zbb (k2 := 1) (by rfl) (ze7 Tryz.underlying3 (by kernel_rfl)) (zb9 (by rfl) zev))
theorem zhb : zbR Tryz.prog 28 1 (zj 3 zch) := zaW (e := 83) zfD Tryz.underlying28 zia (by kernel_rfl) (by omega)
theorem zjO : zbR Tryz.prog 30 2 zjC := by
 refine zbw (k := 2) Tryz.underlying30 (by kernel_rfl) ?_
 exact zbb (k2 := 1) (by rfl) zdw (zb9 (by rfl) zhb)
theorem zjw : zbR Tryz.prog 60 2 za7 := by
 refine zbw (k := 2) Tryz.underlying60 (by kernel_rfl) ?_
 exact zbb (k2 := 1) (by rfl) zev (zb9 (by rfl) zdw)
theorem zix : zbR Tryz.prog 61 1 (zj 2 za7) := zaW (e := 60) ziN Tryz.underlying61 zjw (by kernel_rfl) (by omega)
theorem zg3 : zbR Tryz.prog 39 1 (zj 1 (zj 2 za7)) := zaW (e := 61) zab Tryz.underlying39 zix (by kernel_rfl) (by omega)
end Go.Proofs.YtgoapnkdcfcjgaaGreat
namespace Go.Proofs.YtgoapnkdcfcjgaaGreat.planChooses
open Go.ChangeShapes Go.WideShapes Go.ChangeAt Go.RowKit Go.WideMaps Go.WideElems Go.Joins
open Go.ChangeMaps (open_string shut_string)
set_option maxRecDepth 100000 in
theorem lifted (os : Os) (started : os.Started) (H : Type) (enc : TypeId × Value -> H) :
  ReturnsInHanded {} Tryz.checked os 4 .any (Rows.planChoosesSpec.pre6 enc Tryz.prog Tryz.f4 Rows.planChoosesRow.domain false) (Rows.planChoosesSpec.post enc Tryz.prog Tryz.f4 false true false false) := by
 refine returnsInHanded_of_change (C := Tryz.checked) own started (by kernel_rfl) Tryz.func4
  (ChangeSpec.witness6 (enc := enc) (C := Tryz.checked) false ⟨#[], #[.agg #[.slice none 0 0, .slice none 0 0, .slice none 0 0], .slice none 0 0, .agg #[.slice none 0 0, .slice none 0 0]], []⟩ 8 (by kernel_rfl) (by kernel_rfl) (by kernel_rfl) (by kernel_rfl)) ?_
 intro W base args ds gs before hval0 hW hcnd _
 have hval : ∀ (j : Nat) t v, Tryz.f4.params[j]? = some t -> args[j]? = some v -> Value.okWide Tryz.prog W .any base t v := hval0
 have hW' := hW
 obtain ⟨p, q, hA0, hV, rfl, hfz, hnd⟩ := hW
 have hA : DataW.TrodAll enc Tryz.prog W 0 (fun _ => true) true Tryz.f4.params.toList args.toList ds p := hA0
 rw [Tryz.params4] at hA hval
 obtain ⟨v0, vs0, d0, ds0, p0, q0, hargs, rfl, rfl, h0, r0⟩ := trodAll_cons hA
 obtain ⟨v1, vs1, d1, ds1, p1, q1, rfl, rfl, rfl, h1, r1⟩ := trodAll_cons r0
 obtain ⟨v2, vs2, d2, ds2, p2, q2, rfl, rfl, rfl, h2, r2⟩ := trodAll_cons r1
 obtain ⟨rfl, rfl, rfl⟩ := trodAll_nil r2
 obtain rfl : args = #[v0, v1, v2] := by cases args; simp_all
 obtain ⟨rfl, rfl⟩ := trodVars_none hV
 obtain ⟨c0, x0, rfl, z0, s0⟩ := zcv Tryz.underlying26 zhR (hval 0 26 v0 rfl rfl) h0
 obtain ⟨l1, s1⟩ := zfr Tryz.underlying39 zg3 (hval 1 39 v1 rfl rfl) h1
 obtain ⟨c2, x2, rfl, z2, s2⟩ := zcv Tryz.underlying30 zjO (hval 2 30 v2 rfl rfl) h2
 clear hval0
 refine (zeG W c0 x0 z0 s0 v1 l1 s1 c2 x2 z2 s2).mono fun e W' ⟨he, hb⟩ => ?_
 subst he
 exact ⟨_, rfl, zhp hW' (fun _ _ _ => (trodAll_cons_mk (shut_bool Tryz.underlying4 _) trodAll_mk0)) (fun sp hs => zdE zjf hb (by kernel_rfl) hA0 (fun x hx => hW'.lt x (List.mem_append_left _ hx)) (fun x hx => hs x (List.mem_append_left _ hx)))
  (fun _ _ => rfl) rfl hb (ok_one (by kernel_rfl) rfl (okWide_bool_mk Tryz.underlying4 _))⟩
theorem over : Rows.planChoosesRow.holds Tryz.pinned (OpenSpec.ofChange Rows.planChoosesSpec) :=
 OpenClaim.holds_of_wide 4 Tryz.f4 rfl rfl rfl rfl rfl rfl rfl ⟨rfl, rfl, rfl, rfl, rfl⟩ rfl rfl rfl rfl rfl (by kernel_rfl) Tryz.func4 (by kernel_rfl)
  (of_decide_eq_true (by kernel_rfl)) (by unfold Func.isWrapper; first | (rw [if_pos (by decide +kernel)]; kernel_rfl) | (rw [if_neg (by decide +kernel)]; exact ⟨rfl, rfl⟩))
  (fun os started H enc _ => lifted os started H enc)
theorem proved : Rows.PlanChoosesSaid :=
 over
#print axioms proved
end Go.Proofs.YtgoapnkdcfcjgaaGreat.planChooses
