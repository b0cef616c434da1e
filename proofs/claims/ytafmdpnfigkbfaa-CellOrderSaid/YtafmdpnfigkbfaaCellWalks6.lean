/- The walk of CellOrder. -/
import Derived.Test.YtafmdpnfigkbfaaCellWalks5
namespace Go.Proofs.Ytafmdpnfigkbfaa
open Go.ChangeShapes Go.WideShapes Go.ChangeAt Go.RowKit
set_option linter.unusedVariables false
set_option linter.unusedSimpArgs false

/-- The row that is not appended to is kept. -/
theorem RowB.kept {w w' : World} {base : Nat} {out : Value} {M : List (List Int)} {row : Option Nat} (h : RowB w base out M) (hb : Below base w w') (hg : w.grownBy w' row) (k : ∀ g, out.ownBlock = some g → row ≠ some g) : RowB w' base out M := by
  obtain ⟨vs, h1, h2, h3⟩ := h
  exact ⟨vs, h1, own_kept h2 (fun g hgg => hg.block g (h2.lt g hgg).2 (fun e => k g hgg e.symm)), fun j hj => (h3 j hj).below hb⟩
theorem RowB.alloc {w : World} {base : Nat} {out : Value} {M : List (List Int)} (h : RowB w base out M) (hb : base ≤ w.heap.size) (o : Obj) : RowB (w.alloc o) base out M :=
  h.below ((Below.refl _ _).alloc hb o) (fun g hg => by obtain ⟨vs, h1, h2, h3⟩ := h; have := (h2.lt g hg).2; exact (bl1 w o).block g this)
theorem RowB.lt {w : World} {base : Nat} {out : Value} {M : List (List Int)} (h : RowB w base out M) : ∀ g, out.ownBlock = some g → base ≤ g ∧ g < w.heap.size := by
  obtain ⟨vs, h1, h2, h3⟩ := h
  exact h2.lt
set_option maxRecDepth 100000 in
set_option maxHeartbeats 3200000 in
theorem walk_CellOrder (w : World) (m : Int) (hm : -9223372036854775808 ≤ m ∧ m ≤ 9223372036854775807) (v : Value) (l : List (List Int)) (hl : rdSlice 1 (rdSlice 1 rdInt) w w.heap.size [v] l) (at_ : Int) (hat : -9223372036854775808 ≤ at_ ∧ at_ ≤ 9223372036854775807) :
    Calls Try.prog 6 #[.int .i64 m, v, .int .i64 at_] w (Gives (.bool true) w) := by
  obtain ⟨i0, hi, hz0, hz1, hz2⟩ := info_parts info_ints
  have HFW := hid (few_any 40 v l w (rdRows hl) (by omega))
  have hL := fewL_len 40 l
  generalize fewL 40 l = L at *
  clear hl
  obtain ⟨x, hx, hx0, hx1⟩ : ∃ x : Int, ((at_ < 0 ∧ x = -(at_ + 1)) ∨ (¬ at_ < 0 ∧ x = at_)) ∧ 0 ≤ x ∧ x ≤ 9223372036854775807 := by
    by_cases h : at_ < 0
    · exact ⟨_, .inl ⟨h, rfl⟩, by omega, by omega⟩
    · exact ⟨_, .inr ⟨h, rfl⟩, by omega, by omega⟩
  obtain ⟨r, hr⟩ : ∃ r : Nat, 0 < L.length → r < L.length ∧ x % (L.length : Int) = (r : Int) := ⟨(x % (L.length : Int)).toNat, fun h => by
    have h1 := Int.emod_lt_of_pos x (show (0 : Int) < (L.length : Int) by omega)
    have h2 := Int.emod_nonneg x (show (L.length : Int) ≠ 0 by omega)
    omega⟩
  have hp1 : foldC m (backL L L.length) = foldC m L := foldC_perm (backL_all L)
  have hp2 : foldC m (roundL L r L.length) = foldC m L := by
    by_cases h : 0 < L.length
    · exact foldC_perm (roundL_all L r (hr h).1)
    · have : L = [] := List.length_eq_zero_iff.1 (by omega)
      subst this; rfl
  have hb1 : (backL L L.length).length = L.length := by simp [backL]
  have hb2 : (roundL L r L.length).length = L.length := by simp [roundL]
  have HF1 := hid (fun v W (h : RowsI W W.heap.size v L) => (fold_any m v L W h (by omega)).mono fun _ _ hp => MOwnPost.lit hp)
  have HF2 := hid (fun v W (h : RowsI W W.heap.size v (backL L L.length)) => by
    have := (fold_any m v _ W h (by omega)).mono fun _ _ hp => MOwnPost.lit hp
    rwa [hp1] at this)
  have HF3 := hid (fun v W (h : RowsI W W.heap.size v (roundL L r L.length)) => by
    have := (fold_any m v _ W h (by omega)).mono fun _ _ hp => MOwnPost.lit hp
    rwa [hp2] at this)
  clear hp1 hp2 hb1 hb2
  generalize foldC m L = r1 at *
  obtain ⟨⟨n, s, lo, hi'⟩, rk⟩ := r1
  simp only at HF1 HF2 HF3
  have hs := fun v x W => refSameC_any v x ⟨n, s, lo, hi'⟩ ⟨n, s, lo, hi'⟩ W
  rw [decide_eq_true (show (⟨n, s, lo, hi'⟩ : CellM) = ⟨n, s, lo, hi'⟩ from rfl)] at hs
  have HS := hid hs
  have HR := hid hr
  clear hs hr
  go_enter Try.func6, Try.ntmps6
  have HXX := hid hx
  clear hx
  go_upto_if 21 with (go_at_call 10; refine HFW.out.mono ?_; rintro e w1 ⟨v1, rfl, hr1, hb1⟩; have HR0 := hid hr1; have HB1 := hid hb1; obtain ⟨A, c, rfl, hc, hcm, -⟩ := hr1; unfold maxLen at hcm; have s1' := hb1.size; have HR1 := hid HR0.out; clear hb1 HR0)
  go_cut [2] (fun s2 wx => s2 = .int .i64 x ∧ w1 = wx)
  case first =>
    rcases HXX.out with ⟨h, h'⟩ | ⟨h, h'⟩
    · have H' := hid h'; clear h'
      go_wp2
      go_meet
      case rel => exact ⟨by rw [H'.out], rfl⟩
    · have H' := hid h'; clear h'
      go_wp2
      go_meet
      case rel => exact ⟨by rw [H'.out], rfl⟩
  case rest =>
  obtain ⟨rfl, rfl⟩ := hcut
  go_wp2
  go_loopw [7, 8, 9] (fun s7 s8 s9 wr => OrdRelC L r w1 s7 s8 s9 wr) (fun _ _ s9 _ => L.length - (intOf s9).toNat)
  case atStart => exact ⟨0, by omega, rfl, RowB.nil_ _ _, RowB.nil_ _ _, fun g hg => by simp [Value.ownBlock] at hg, Below.refl _ _⟩
  case round =>
    obtain ⟨k, hk, rfl, hbk, hrd, hdis, hb⟩ := hrel
    have hbs := hb.size
    have HBK := hid hbk; have HRD := hid hrd; have HDIS := hid hdis; have HB := hid hb
    clear hbk hrd hdis hb
    by_cases hlt : k < L.length
    · obtain ⟨A', c', e, -, -, hrow⟩ := HR1.out
      injection e with e1 _ e3
      subst e1; subst e3
      obtain ⟨hrl, hrm⟩ := HR.out (by omega)
      have hpos : (k + r) % L.length < L.length := Nat.mod_lt _ (by omega)
      obtain ⟨b, off, u1, rfl, hbb, hcu1, hsu1⟩ := hrow (L.length - 1 - k) (by omega)
      obtain ⟨b', off', u2, e, -, hcu2, hsu2⟩ := hrow ((k + r) % L.length) hpos
      injection e with e
      injection e with e1 e2 e3
      subst e1; subst e2
      have hidx : ((k : Int) + (r : Int)) % (L.length : Int) = (((k + r) % L.length : Nat) : Int) := by simp
      have hs1 := backL_succ L k
      have hs2 := roundL_succ L r k
      have hback : ((L.length : Int) - 1 - (k : Int)) = ((L.length - 1 - k : Nat) : Int) := by omega
      have hcw1 := cellK HB.out hbb hcu1
      have hcw2 := cellK HB.out hbb hcu2
      have HS1 := hid hs1; have HS2 := hid hs2
      obtain ⟨a1, y1, rfl, -, -⟩ := hsu1.formI
      obtain ⟨a2, y2, rfl, -, -⟩ := hsu2.formI
      have HU1 := hid hsu1; have HU2 := hid hsu2
      clear hrow hsu1 hsu2 hcu1 hcu2 hs1 hs2
      have p1 : L.length - 1 - k < L.length := by omega
      generalize hn1 : (L.getD (L.length - 1 - k) []).length = n1 at *
      generalize hn2 : (L.getD ((k + r) % L.length) []).length = n2 at *
      generalize hq1 : L.length - 1 - k = q1 at *
      generalize hq2 : (k + r) % L.length = q2 at *
      have t1 : IntKind.i64.wrap ((L.length : Int) - 1) = (L.length : Int) - 1 := IntWalk.i64_in _ (by omega)
      have t2 : IntKind.i64.wrap ((L.length : Int) - 1 - (k : Int)) = (q1 : Int) := by rw [IntWalk.i64_in _ (by omega)]; omega
      have t3 : x.tmod (L.length : Int) = (r : Int) := by rw [Int.tmod_eq_emod_of_nonneg hx0]; exact hrm
      have t4 : IntKind.i64.wrap ((k : Int) + (r : Int)) = (k : Int) + (r : Int) := IntWalk.i64_in _ (by omega)
      have t5 : ((k : Int) + (r : Int)).tmod (L.length : Int) = (q2 : Int) := by rw [Int.tmod_eq_emod_of_nonneg (by omega)]; exact hidx
      have t6 : ((L.length : Int) == 0) = false := by rw [beq_eq_false_iff_ne]; omega
      have t9 : ¬ L = [] := by rintro rfl; simp at hlt
      have t10 : ¬ ((L.length : Int) = 0) := by omega
      have t11 : ¬ (L.length = 0) := by omega
      have t13 : ¬ ((L.length : Int) = -1) := by omega
      clear hrm hidx hback
      obtain ⟨vs7, l7, o7, r7⟩ := HBK.out
      have k7 : (backL L k).length = k := by simp [backL]
      have k8 : (roundL L r k).length = k := by simp [roundL]
      go_wp2_with (at_builtin; refine stop_here ?_)
      refine go_on ?_
      refine app_own_at (.tmp 31) (.tmp 40) 22 22 rfl rfl w1.heap.size 24 i0 (.slice none 0 0) 1 24 Try.underlying22 hi hz0 hz1 hz2 rfl (by decide) _ (backL L k).length vs7 rfl (o7.alloc _) (.slice (some ⟨wr.heap.size, 0, none⟩) 1 1) 1 [_] rfl (Src.ofSlice _ Try.underlying22 _ 1 1 _ rfl (cell_one_at _ _ _ rfl) (by simp; rfl)) (by rw [k7]; simp only [maxLen]; omega) (by rw [k7]; omega) (by rw [World.size_alloc]; omega) ?_
      intro v7 w2 ho7 hg7 hb7 hat7
      have hb7' : Below w1.heap.size wr w2 := ((Below.refl _ _).alloc hbs _).trans hb7
      have RB7 := hid (RowB.app (out := undef) l7 r7 (HU1.out.below HB.out) hb7' ho7)
      have RB8 := hid ((HRD.out.alloc hbs _).kept hb7 hg7 (fun g hg e => HDIS.out g e hg))
      have HA7 := hid hat7; have HB7 := hid hb7'
      have z2 : wr.heap.size + 1 ≤ w2.heap.size := by have := hg7.size; rwa [World.size_alloc] at this
      clear ho7 hg7 hb7 hat7 hb7' o7 r7 l7
      obtain ⟨vs8, l8, o8, r8⟩ := RB8.out
      have hcw3 := cellK HB7.out hbb hcw2
      go_wp2_with (at_builtin; refine stop_here ?_)
      refine go_on ?_
      refine app_own_at (.tmp 42) (.tmp 55) 22 22 rfl rfl w1.heap.size 24 i0 (.slice none 0 0) 1 24 Try.underlying22 hi hz0 hz1 hz2 rfl (by decide) _ (roundL L r k).length vs8 rfl (o8.alloc _) (.slice (some ⟨w2.heap.size, 0, none⟩) 1 1) 1 [_] rfl (Src.ofSlice _ Try.underlying22 _ 1 1 _ rfl (cell_one_at _ _ _ rfl) (by simp; rfl)) (by rw [k8]; simp only [maxLen]; omega) (by rw [k8]; omega) (by rw [World.size_alloc]; omega) ?_
      intro v8 w4 ho8 hg8 hb8 hat8
      have hb8' : Below w1.heap.size w2 w4 := ((Below.refl _ _).alloc (by omega) _).trans hb8
      have RB8' := hid (RowB.app (out := undef) l8 r8 (HU2.out.below (HB.out.trans HB7.out)) hb8' ho8)
      have hd8 : ∀ g, v7.ownBlock = some g → u8.ownBlock ≠ some g := fun g hg e => by
        rcases HA7.out with h | h
        · exact HDIS.out g (h ▸ hg) e
        · rw [h] at hg
          have := (HRD.out.lt g e).2
          rw [World.size_alloc] at hg
          injection hg with hg
          omega
      have RB7' := hid ((RB7.out.alloc (by omega) _).kept hb8 hg8 (fun g hg e => hd8 g hg e))
      have hdis' : ∀ g, v7.ownBlock = some g → v8.ownBlock ≠ some g := fun g hg e => by
        rcases hat8 with h | h
        · exact hd8 g hg (h ▸ e)
        · rw [h] at e
          have := (RB7.out.lt g hg).2
          rw [World.size_alloc] at e
          injection e with e
          omega
      have HD' := hid hdis'; have HB8 := hid hb8'
      clear ho8 hg8 hb8 hat8 hb8' o8 r8 l8 hd8 hdis'
      go_wp2
      go_roundw
      case rel => exact ⟨k + 1, by omega, by go_num, by rw [HS1.out]; exact RB7'.out, by rw [HS2.out]; exact RB8'.out, HD'.out, (HB.out.trans HB7.out).trans HB8.out⟩
      case measure => simp [intOf]; omega
    · obtain rfl : k = L.length := by omega
      have R7 := hid (HBK.out.rows hbs); have R8 := hid (HRD.out.rows hbs)
      clear HBK HRD HDIS
      go_wp2_with fail
      refine (HF1.out _ _ ((HR1.out.below HB.out).more hbs)).mono ?_
      rintro e w2 ⟨B1, b1, B2, b2, B3, b3, rfl, hr2, hb2⟩
      have z2 := hb2.size
      obtain ⟨W2, hW2⟩ : ∃ W, W = w2.alloc (.cells #[.int .i64 n, .slice B1 s.length b1, .slice B2 lo.length b2, .slice B3 hi'.length b3] 26) := ⟨_, rfl⟩
      have k2 : Blk W2 w2.heap.size (.int .i64 n) (.slice B1 s.length b1) (.slice B2 lo.length b2) (.slice B3 hi'.length b3) := by rw [hW2]; exact Blk.new _ _ _ _ _ _
      have g2 : Below w2.heap.size w2 W2 := by rw [hW2]; exact bl1 _ _
      have y2 : W2.heap.size = w2.heap.size + 1 := by rw [hW2]; simp
      have K2 := hid k2; have G2 := hid (hb2.trans (g2.mono z2)); have HR2 := hid ((hr2.below g2).more g2.size); have HW2 := hid hW2
      clear k2 g2 hr2 hb2 hW2
      go_wp2_with fail
      rw [← HW2.out]
      refine (HF2.out _ _ ((R7.out.below G2.out).more (by omega))).mono ?_
      rintro e w3 ⟨C1, c1, C2, c2, C3, c3, rfl, hr3, hb3⟩
      have z3 := hb3.size
      obtain ⟨W3, hW3⟩ : ∃ W, W = w3.alloc (.cells #[.int .i64 n, .slice C1 s.length c1, .slice C2 lo.length c2, .slice C3 hi'.length c3] 26) := ⟨_, rfl⟩
      have k3 : Blk W3 w3.heap.size (.int .i64 n) (.slice C1 s.length c1) (.slice C2 lo.length c2) (.slice C3 hi'.length c3) := by rw [hW3]; exact Blk.new _ _ _ _ _ _
      have g3 : Below w3.heap.size w3 W3 := by rw [hW3]; exact bl1 _ _
      have y3 : W3.heap.size = w3.heap.size + 1 := by rw [hW3]; simp
      have gg3 := hb3.trans (g3.mono z3)
      have K3 := hid k3; have G3 := hid gg3; have HR3 := hid ((hr3.below g3).more g3.size); have HW3 := hid hW3
      have K23 := hid (K2.out.below gg3 (by omega))
      have HR23 := hid ((HR2.out.below gg3).more gg3.size)
      clear k3 g3 hr3 hb3 hW3 gg3
      go_wp2_with fail
      rw [← HW3.out]
      refine (HF3.out _ _ ((R8.out.below (G2.out.trans (G3.out.mono (by omega)))).more (by omega))).mono ?_
      rintro e w4 ⟨D1, d1, D2, d2, D3, d3, rfl, hr4, hb4⟩
      have z4 := hb4.size
      obtain ⟨W4, hW4⟩ : ∃ W, W = w4.alloc (.cells #[.int .i64 n, .slice D1 s.length d1, .slice D2 lo.length d2, .slice D3 hi'.length d3] 26) := ⟨_, rfl⟩
      have k4 : Blk W4 w4.heap.size (.int .i64 n) (.slice D1 s.length d1) (.slice D2 lo.length d2) (.slice D3 hi'.length d3) := by rw [hW4]; exact Blk.new _ _ _ _ _ _
      have g4 : Below w4.heap.size w4 W4 := by rw [hW4]; exact bl1 _ _
      have y4 : W4.heap.size = w4.heap.size + 1 := by rw [hW4]; simp
      have gg4 := hb4.trans (g4.mono z4)
      have G4 := hid gg4; have HR4 := hid ((hr4.below g4).more g4.size); have HW4 := hid hW4
      have k24 := K23.out.below gg4 (by omega)
      have k34 := K3.out.below gg4 (by omega)
      have HR24 := hid ((HR23.out.below gg4).more gg4.size)
      have HR34 := hid ((HR3.out.below gg4).more gg4.size)
      have K24 := hid k24; have K34 := hid k34; have K4 := hid k4
      obtain ⟨f0, f1, f2, f3, -, -, -, -⟩ := k24
      obtain ⟨f4, f5, f6, f7, -, -, -, -⟩ := k34
      clear g4 hr4 hb4 hW4 gg4 k4
      go_wp2_with (rw [← HW4.out])
      refine (HS.out _ _ _ HR24.out HR34.out).mono ?_
      rintro e w5 ⟨rfl, hb5⟩
      have z5 := hb5.size
      have G5 := hid hb5
      have k25 := K24.out.below hb5 (by omega)
      have k45 := K4.out.below hb5 (by omega)
      have HR25 := hid ((HR24.out.below hb5).more hb5.size)
      have HR45 := hid ((HR4.out.below hb5).more hb5.size)
      clear hb5 f0 f1 f2 f3 f4 f5 f6 f7
      obtain ⟨f0, f1, f2, f3, -, -, -, -⟩ := k25
      obtain ⟨f4, f5, f6, f7, -, -, -, -⟩ := k45
      go_wp2_with fail
      refine (HS.out _ _ _ HR25.out HR45.out).mono ?_
      rintro e w6 ⟨rfl, hb6⟩
      have z6 := hb6.size
      have G6 := hid hb6
      clear hb6
      go_wp2_with fail
      refine (lives_true _).mono ?_
      rintro e w7 ⟨rfl, hb7⟩
      have G7 := hid hb7
      clear hb7
      go_wp2
      go_ret
      exact ⟨rfl, HB1.out.trans ((HB.out.trans ((G2.out.trans ((G3.out.trans ((G4.out.trans ((G5.out.trans ((G6.out.trans (G7.out.mono z6)).mono z5)).mono (by omega))).mono (by omega))).mono (by omega))).mono hbs)).mono s1')⟩
end Go.Proofs.Ytafmdpnfigkbfaa
