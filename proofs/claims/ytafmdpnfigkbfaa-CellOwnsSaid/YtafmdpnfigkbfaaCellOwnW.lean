/- The laws' own and spoil: a cell in memory of its own, and its lists written over. -/
import Derived.Test.YtafmdpnfigkbfaaCellCopy
namespace Go.Proofs.Ytafmdpnfigkbfaa
open Go.ChangeShapes Go.WideShapes Go.ChangeAt Go.RowKit
set_option linter.unusedVariables false
set_option linter.unusedSimpArgs false

def SpRel (w : World) (H C : Nat) (n : Int) (V : Nat → Value) (l1 l2 l3 lj : Nat) (i : Value) (wr : World) : Prop :=
  ∃ (k : Nat) (X : Nat → List Int), i = .int .i64 k ∧ k ≤ lj ∧ Bld wr H C n V X ∧ (X 1).length = l1 ∧ (X 2).length = l2 ∧ (X 3).length = l3 ∧ Below H w wr
theorem upd_len {X : Nat → List Int} (j i : Nat) (x : Int) (k : Nat) : (Go.Proofs.Ytafmdpnfigkbfaa.upd X j ((X j).set i x) k).length = (X k).length := by
  unfold Go.Proofs.Ytafmdpnfigkbfaa.upd
  split
  · rename_i h; rw [List.length_set, h]
  · rfl
set_option maxRecDepth 100000 in
set_option maxHeartbeats 1600000 in
theorem spoil_any (v : Value) (c : CellM) (H : Nat) (w : World) (hv : OwnC w H v c) (hH : H ≤ w.heap.size) :
    Calls Try.prog 22 #[v] w (fun e w' => e = .returned (.tuple #[]) ∧ Below H w w') := by
  have hv' := hv
  obtain ⟨v1, v2, v3, rfl, o1, o2, o3, -, -⟩ := hv
  obtain ⟨A1, c1, rfl, h11, h12, h13⟩ := own_cells o1
  obtain ⟨A2, c2, rfl, h21, h22, h23⟩ := own_cells o2
  obtain ⟨A3, c3, rfl, h31, h32, h33⟩ := own_cells o3
  have hb := hv'.bld hH 26 rfl
  generalize hV : V3 (.slice A1 c.s.length c1) (.slice A2 c.lo.length c2) (.slice A3 c.hi.length c3) = V at hb
  have hV1 : V 1 = .slice A1 c.s.length c1 := by rw [← hV]; rfl
  have hV2 : V 2 = .slice A2 c.lo.length c2 := by rw [← hV]; rfl
  have hV3 : V 3 = .slice A3 c.hi.length c3 := by rw [← hV]; rfl
  have hX1 : (X3 c 1).length = c.s.length := rfl
  have hX2 : (X3 c 2).length = c.lo.length := rfl
  have hX3 : (X3 c 3).length = c.hi.length := rfl
  generalize X3 c = X at *
  generalize c.s.length = l1 at *
  generalize c.lo.length = l2 at *
  generalize c.hi.length = l3 at *
  have H1 := hid hV1; have H2 := hid hV2; have H3 := hid hV3; have HX1 := hid hX1; have HX2 := hid hX2; have HX3 := hid hX3
  have HB0 := hid hb
  have HC1 := hid h13; have HC2 := hid h23; have HC3 := hid h33
  clear hv' o1 o2 o3 hV hV1 hV2 hV3 hX1 hX2 hX3 hb h13 h23 h33
  unfold maxLen at h12 h22 h32
  have hw0 := hid ((Below.refl H w).alloc hH (.cells #[.int .i64 c.n, .slice A1 l1 c1, .slice A2 l2 c2, .slice A3 l3 c3] 26))
  go_enter Try.func22, Try.ntmps22
  go_wp2
  go_loopw [2] (fun i wr => SpRel w H w.heap.size c.n V l1 l2 l3 l1 i wr) (fun i _ => l1 - (intOf i).toNat)
  case atStart => exact ⟨0, X, rfl, by omega, HB0.out, HX1.out, HX2.out, HX3.out, hw0.out⟩
  case round =>
    clear HB0 HX1 HX2 HX3
    obtain ⟨k, X, rfl, hk, hb, q1, q2, q3, hw⟩ := hrel
    have HB := hid hb; have HW := hid hw; have Q1 := hid q1; have Q2 := hid q2; have Q3 := hid q3
    have m1 : wr.cell? ⟨w.heap.size, 1, none⟩ = some (.slice A1 l1 c1) := (hb.cj 1 (by omega) (by omega)).trans (congrArg some H1.out)
    clear hb hw q1 q2 q3
    by_cases hlt : k < l1
    · obtain ⟨g, rfl, -⟩ := HC1.out (by omega)
      obtain ⟨ce, fr, st, far⟩ := HB.out.setAt 1 (by omega) (by omega) H1.out (i := k) (by rw [Q1.out]; exact hlt) 77
      have ST := hid st; have FAR := hid (far H w (Nat.le_refl _) HW.out)
      clear st far
      go_wp2
      go_roundw
      case rel => exact ⟨k + 1, _, by go_num, by omega, ST.out, by rw [upd_len]; exact Q1.out, by rw [upd_len]; exact Q2.out, by rw [upd_len]; exact Q3.out, FAR.out⟩
      case measure => simp [intOf]; omega
    · obtain rfl : k = l1 := by omega
      obtain ⟨wo, rfl⟩ : ∃ wo : World, wo = wr := ⟨_, rfl⟩
      go_wp2
      go_loopw [3] (fun i wr => SpRel w H w.heap.size c.n V k l2 l3 l2 i wr) (fun i _ => l2 - (intOf i).toNat)
      case atStart => exact ⟨0, X, rfl, by omega, HB.out, Q1.out, Q2.out, Q3.out, HW.out⟩
      case round =>
        clear HB HW Q1 Q2 Q3 m1
        obtain ⟨i, X, rfl, hi, hb, q1, q2, q3, hw⟩ := hrel
        have HB := hid hb; have HW := hid hw; have Q1 := hid q1; have Q2 := hid q2; have Q3 := hid q3
        have m1 : wr.cell? ⟨w.heap.size, 2, none⟩ = some (.slice A2 l2 c2) := (hb.cj 2 (by omega) (by omega)).trans (congrArg some H2.out)
        clear hb hw q1 q2 q3
        by_cases hlt : i < l2
        · obtain ⟨g, rfl, -⟩ := HC2.out (by omega)
          obtain ⟨ce, fr, st, far⟩ := HB.out.setAt 2 (by omega) (by omega) H2.out (i := i) (by rw [Q2.out]; exact hlt) 77
          have ST := hid st; have FAR := hid (far H w (Nat.le_refl _) HW.out)
          clear st far
          go_wp2
          go_roundw
          case rel => exact ⟨i + 1, _, by go_num, by omega, ST.out, by rw [upd_len]; exact Q1.out, by rw [upd_len]; exact Q2.out, by rw [upd_len]; exact Q3.out, FAR.out⟩
          case measure => simp [intOf]; omega
        · obtain rfl : i = l2 := by omega
          obtain ⟨wq, rfl⟩ : ∃ wq : World, wq = wr := ⟨_, rfl⟩
          go_wp2
          go_loopw [4] (fun x wr => SpRel w H w.heap.size c.n V k i l3 l3 x wr) (fun x _ => l3 - (intOf x).toNat)
          case atStart => exact ⟨0, X, rfl, by omega, HB.out, Q1.out, Q2.out, Q3.out, HW.out⟩
          case round =>
            clear HB HW Q1 Q2 Q3 m1
            obtain ⟨j, X, rfl, hj, hb, q1, q2, q3, hw⟩ := hrel
            have HB := hid hb; have HW := hid hw; have Q1 := hid q1; have Q2 := hid q2; have Q3 := hid q3
            have m1 : wr.cell? ⟨w.heap.size, 3, none⟩ = some (.slice A3 l3 c3) := (hb.cj 3 (by omega) (by omega)).trans (congrArg some H3.out)
            clear hb hw q1 q2 q3
            by_cases hlt : j < l3
            · obtain ⟨g, rfl, -⟩ := HC3.out (by omega)
              obtain ⟨ce, fr, st, far⟩ := HB.out.setAt 3 (by omega) (by omega) H3.out (i := j) (by rw [Q3.out]; exact hlt) 77
              have ST := hid st; have FAR := hid (far H w (Nat.le_refl _) HW.out)
              clear st far
              go_wp2
              go_roundw
              case rel => exact ⟨j + 1, _, by go_num, by omega, ST.out, by rw [upd_len]; exact Q1.out, by rw [upd_len]; exact Q2.out, by rw [upd_len]; exact Q3.out, FAR.out⟩
              case measure => simp [intOf]; omega
            · clear HC1 HC2 HC3
              go_wp2
              exact bodyPost_end (v := .tuple #[]) (by simp [results, Try.results22, go_sem]) rfl ⟨rfl, HW.out⟩
theorem own_less {w : World} {base base' n : Nat} {e : TypeId} {sz : Nat} {v : Value} {xs : List Value} (h : w.ownsRow base e sz v n xs) (hb : base' ≤ base) : w.ownsRow base' e sz v n xs := by
  obtain ⟨h1, h2⟩ := h
  refine ⟨h1, ?_⟩
  rcases h2 with h2 | ⟨g, cap, cur, rfl, hbg, r⟩
  · exact .inl h2
  · exact .inr ⟨g, cap, cur, rfl, by omega, r⟩
theorem ownC_less {w : World} {H H' : Nat} {v : Value} {c : CellM} (h : OwnC w H v c) (hH : H' ≤ H) : OwnC w H' v c := by
  obtain ⟨v1, v2, v3, e, h1, h2, h3, h4⟩ := h
  exact ⟨v1, v2, v3, e, own_less h1 hH, own_less h2 hH, own_less h3 hH, h4⟩
set_option maxRecDepth 100000 in
set_option maxHeartbeats 1600000 in
theorem own_any (v : Value) (c : CellM) (w : World) (hv : CellR w w.heap.size v c) (hl : c.s.length * 8 ≤ 140737488355328 ∧ c.lo.length * 8 ≤ 140737488355328 ∧ c.hi.length * 8 ≤ 140737488355328) :
    Calls Try.prog 21 #[v] w (OwnPost c w) := by
  obtain ⟨i0, hi, hz0, hz1, hz2⟩ := info_parts info_int
  obtain ⟨v1, v2, v3, rfl, s1, s2, s3⟩ := hv
  obtain ⟨A1, c1, rfl, hc1, hm1⟩ := s1.formI
  obtain ⟨A2, c2, rfl, hc2, hm2⟩ := s2.formI
  obtain ⟨A3, c3, rfl, hc3, hm3⟩ := s3.formI
  obtain ⟨l1, l2, l3⟩ := hl
  have HS1 := hid s1; have HS2 := hid s2; have HS3 := hid s3
  unfold maxLen at hm1 hm2 hm3
  obtain ⟨W0, hW0⟩ : ∃ W, W = (w.alloc (.cells #[.int .i64 c.n, .slice A1 c.s.length c1, .slice A2 c.lo.length c2, .slice A3 c.hi.length c3] 26)).alloc (.cells #[.int .i64 0, .slice none 0 0, .slice none 0 0, .slice none 0 0] 26) := ⟨_, rfl⟩
  obtain ⟨W1, hW1⟩ : ∃ W, W = W0.alloc (.cells #[.int .i64 c.n, .slice none 0 0, .slice none 0 0, .slice none 0 0] 26) := ⟨_, rfl⟩
  have z0 : W0.heap.size = w.heap.size + 1 + 1 := by rw [hW0]; simp
  have z1 : W1.heap.size = w.heap.size + 1 + 1 + 1 := by rw [hW1]; simp [z0]
  have hb0 : Bld W1 (w.heap.size + 1 + 1 + 1) (w.heap.size + 1 + 1) c.n (fun _ => .slice none 0 0) (fun _ => []) := by rw [hW1]; exact Bld.start z0
  have g0 : Below w.heap.size w W0 := by rw [hW0]; exact (bl1 w _).alloc (by simp) _
  have g1 : Below (w.heap.size + 1 + 1) W0 W1 := by rw [hW1, ← z0]; exact bl1 _ _
  have kp : Blk W1 w.heap.size (.int .i64 c.n) (.slice A1 c.s.length c1) (.slice A2 c.lo.length c2) (.slice A3 c.hi.length c3) := Blk.below (by rw [hW0]; exact (Blk.new w _ _ _ _ _).alloc (by simp) _) g1 (by omega)
  have kr : Blk W1 (w.heap.size + 1) (.int .i64 0) (.slice none 0 0) (.slice none 0 0) (.slice none 0 0) := Blk.below (by rw [hW0]; exact Blk.new' _ _ _ _ _ (by simp)) g1 (by omega)
  have HB1 := hid hb0; have HP1 := hid (g0.trans (g1.mono (by omega))); have HQ1 := hid (Below.refl (w.heap.size + 1 + 1) W1); have KP := hid kp; have KR := hid kr
  have HW1 := hid (show W1 = ((w.alloc (.cells #[.int .i64 c.n, .slice A1 c.s.length c1, .slice A2 c.lo.length c2, .slice A3 c.hi.length c3] 26)).alloc (.cells #[.int .i64 0, .slice none 0 0, .slice none 0 0, .slice none 0 0] 26)).alloc (.cells #[.int .i64 c.n, .slice none 0 0, .slice none 0 0, .slice none 0 0] 26) by rw [hW1, hW0])
  clear hW0 hW1 hb0 g0 g1 kp kr s1 s2 s3
  go_enter Try.func21, Try.ntmps21
  go_wp2_with (at_builtin; refine stop_here ?_)
  rw [← HW1.out]
  refine go_on ?_
  refine app_own_at (.tmp 8) (.tmp 10) 24 24 rfl rfl (w.heap.size + 1 + 1 + 1) 3 i0 (.int .i64 0) 1 8 Try.underlying24 hi hz0 hz1 hz2 rfl (by decide) (.slice none 0 0) 0 [] rfl (World.ownsRow_nil _ _ _ _) (.slice A1 c.s.length c1) c.s.length (ivals c.s) rfl (by
      have := src_sl W1 Try.underlying24 (HS1.out.below HP1.out) (ivals_one _)
      rwa [ivals_len] at this) (by unfold maxLen; omega) (by omega) (HB1.out.hs) ?_
  intro v1 w1 ho1 hg1 hb1 hat1
  rw [Nat.zero_add] at ho1
  obtain ⟨mm1, ff1, st1, far1⟩ := HB1.out.step 1 (by omega) (by omega) (Below.refl _ _) (news := c.s) ho1 hg1 hat1
  obtain ⟨b1, e1, rfl, -, -, -⟩ := own_cells ho1
  replace mm1 : w1.cell? ⟨w.heap.size + 1 + 1, 1, none⟩ = some (.slice none 0 0) := mm1
  obtain ⟨W2, hW2⟩ : ∃ W, W = w1.setCell ⟨w.heap.size + 1 + 1, 1, none⟩ (.slice b1 c.s.length e1) := ⟨_, rfl⟩
  rw [← hW2] at st1 far1
  have HB2 := hid st1
  have HP2 := hid (far1 w.heap.size w (by omega) (by omega) HP1.out)
  have HQ2 := hid (far1 (w.heap.size + 1 + 1) W1 (by omega) (by omega) HQ1.out)
  have HW2 := hid hW2
  clear st1 far1 ho1 hg1 hb1 hat1
  have qa : W2.cell? ⟨w.heap.size + 1 + 1, 2, none⟩ = some (.slice none 0 0) := HB2.out.cj 2 (by omega) (by omega)
  have qb : W2.cell? ⟨w.heap.size, 2, none⟩ = some (.slice A2 c.lo.length c2) := (KP.out.below HQ2.out (by omega)).c2
  rw [hW2] at qa qb
  clear hW2
  go_wp2_with (at_builtin; refine stop_here ?_)
  rw [← HW2.out]
  refine go_on ?_
  refine app_own_at (.tmp 14) (.tmp 16) 24 24 rfl rfl (w.heap.size + 1 + 1 + 1) 3 i0 (.int .i64 0) 1 8 Try.underlying24 hi hz0 hz1 hz2 rfl (by decide) (.slice none 0 0) 0 [] rfl (World.ownsRow_nil _ _ _ _) (.slice A2 c.lo.length c2) c.lo.length (ivals c.lo) rfl (by
      have := src_sl W2 Try.underlying24 (HS2.out.below HP2.out) (ivals_one _)
      rwa [ivals_len] at this) (by unfold maxLen; omega) (by omega) (HB2.out.hs) ?_
  intro v2 w2 ho2 hg2 hb2 hat2
  rw [Nat.zero_add] at ho2
  obtain ⟨mm2, ff2, st2, far2⟩ := HB2.out.step 2 (by omega) (by omega) (Below.refl _ _) (news := c.lo) ho2 hg2 hat2
  obtain ⟨b2, e2, rfl, -, -, -⟩ := own_cells ho2
  replace mm2 : w2.cell? ⟨w.heap.size + 1 + 1, 2, none⟩ = some (.slice none 0 0) := mm2
  obtain ⟨W3, hW3⟩ : ∃ W, W = w2.setCell ⟨w.heap.size + 1 + 1, 2, none⟩ (.slice b2 c.lo.length e2) := ⟨_, rfl⟩
  rw [← hW3] at st2 far2
  have HB3 := hid st2
  have HP3 := hid (far2 w.heap.size w (by omega) (by omega) HP2.out)
  have HQ3 := hid (far2 (w.heap.size + 1 + 1) W1 (by omega) (by omega) HQ2.out)
  have HW3 := hid hW3
  clear st2 far2 ho2 hg2 hb2 hat2
  have qa : W3.cell? ⟨w.heap.size + 1 + 1, 3, none⟩ = some (.slice none 0 0) := HB3.out.cj 3 (by omega) (by omega)
  have qb : W3.cell? ⟨w.heap.size, 3, none⟩ = some (.slice A3 c.hi.length c3) := (KP.out.below HQ3.out (by omega)).c3
  rw [hW3] at qa qb
  clear hW3
  go_wp2_with (at_builtin; refine stop_here ?_)
  rw [← HW3.out]
  refine go_on ?_
  refine app_own_at (.tmp 20) (.tmp 22) 24 24 rfl rfl (w.heap.size + 1 + 1 + 1) 3 i0 (.int .i64 0) 1 8 Try.underlying24 hi hz0 hz1 hz2 rfl (by decide) (.slice none 0 0) 0 [] rfl (World.ownsRow_nil _ _ _ _) (.slice A3 c.hi.length c3) c.hi.length (ivals c.hi) rfl (by
      have := src_sl W3 Try.underlying24 (HS3.out.below HP3.out) (ivals_one _)
      rwa [ivals_len] at this) (by unfold maxLen; omega) (by omega) (HB3.out.hs) ?_
  intro v3 w3 ho3 hg3 hb3 hat3
  rw [Nat.zero_add] at ho3
  obtain ⟨mm3, ff3, st3, far3⟩ := HB3.out.step 3 (by omega) (by omega) (Below.refl _ _) (news := c.hi) ho3 hg3 hat3
  obtain ⟨b3, e3, rfl, -, -, -⟩ := own_cells ho3
  replace mm3 : w3.cell? ⟨w.heap.size + 1 + 1, 3, none⟩ = some (.slice none 0 0) := mm3
  obtain ⟨W4, hW4⟩ : ∃ W, W = w3.setCell ⟨w.heap.size + 1 + 1, 3, none⟩ (.slice b3 c.hi.length e3) := ⟨_, rfl⟩
  rw [← hW4] at st3 far3
  have HB4 := hid st3
  have HP4 := hid (far3 w.heap.size w (by omega) (by omega) HP3.out)
  have HQ4 := hid (far3 (w.heap.size + 1 + 1) W1 (by omega) (by omega) HQ3.out)
  have HW4 := hid hW4
  clear st3 far3 ho3 hg3 hb3 hat3
  obtain ⟨z4, z5, z6, z7, f0, f1, f2, f3⟩ := KR.out.below HQ4.out (by omega)
  have y0 := HB4.out.c0
  have y1 : W4.cell? ⟨w.heap.size + 1 + 1, 1, none⟩ = some (.slice b1 c.s.length e1) := HB4.out.cj 1 (by omega) (by omega)
  have y2 : W4.cell? ⟨w.heap.size + 1 + 1, 2, none⟩ = some (.slice b2 c.lo.length e2) := HB4.out.cj 2 (by omega) (by omega)
  have y3 : W4.cell? ⟨w.heap.size + 1 + 1, 3, none⟩ = some (.slice b3 c.hi.length e3) := HB4.out.cj 3 (by omega) (by omega)
  have hres : OwnC ((((W4.setCell ⟨w.heap.size + 1, 0, none⟩ (.int .i64 c.n)).setCell ⟨w.heap.size + 1, 1, none⟩ (.slice b1 c.s.length e1)).setCell ⟨w.heap.size + 1, 2, none⟩ (.slice b2 c.lo.length e2)).setCell ⟨w.heap.size + 1, 3, none⟩ (.slice b3 c.hi.length e3)) w.heap.size (.agg #[.int .i64 c.n, .slice b1 c.s.length e1, .slice b2 c.lo.length e2, .slice b3 c.hi.length e3]) c :=
    ownC_less (HB4.out.upd (upd4 (w.heap.size + 1) W4 (.int .i64 c.n) (.slice b1 c.s.length e1) (.slice b2 c.lo.length e2) (.slice b3 c.hi.length e3)) (by omega) (by omega)).ownC (by omega)
  have hbel : Below w.heap.size w ((((W4.setCell ⟨w.heap.size + 1, 0, none⟩ (.int .i64 c.n)).setCell ⟨w.heap.size + 1, 1, none⟩ (.slice b1 c.s.length e1)).setCell ⟨w.heap.size + 1, 2, none⟩ (.slice b2 c.lo.length e2)).setCell ⟨w.heap.size + 1, 3, none⟩ (.slice b3 c.hi.length e3)) :=
    HP4.out.trans ((upd4 (w.heap.size + 1) W4 _ _ _ _).below (by omega) (by have := HQ4.out.size; omega))
  rw [hW4] at z4 z5 z6 z7 f0 f1 f2 f3 y0 y1 y2 y3 hres hbel
  have HRES := hid hres; have HBL := hid hbel
  clear hW4 hres hbel
  go_wp2
  exact bodyPost_ret (v := .agg #[.int .i64 c.n, .slice b1 c.s.length e1, .slice b2 c.lo.length e2, .slice b3 c.hi.length e3]) (by simp [results, Try.results21, go_sem, z4, z5, z6, z7]; done) rfl ⟨_, rfl, HRES.out, HBL.out⟩
end Go.Proofs.Ytafmdpnfigkbfaa
