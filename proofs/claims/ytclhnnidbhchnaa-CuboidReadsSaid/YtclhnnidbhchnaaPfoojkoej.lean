/- 3 texts of this claim, in build order. -/
import Derived.Test.YtclhnnidbhchnaaPcmmgfeam
/- The reference's May. -/
namespace Go.Proofs.Ytclhnnidbhchnaa
open Go.ChangeShapes Go.WideShapes Go.ChangeAt Go.RowKit
set_option linter.unusedVariables false

theorem may_shape {c : CellM} (h : ¬ c.shape) : mayC c = false := mayC_not.2 (fun e => h e.1)
theorem may_is_empty {c : CellM} (h : c.shape) (e : c = emptyC c.s.length) : mayC c = true := mayC_iff.2 (by rw [e]; exact may_empty h.1)
theorem may_count {c : CellM} (h : ¬ (1 ≤ c.n ∧ c.n ≤ CNT)) (e : c ≠ emptyC c.s.length) : mayC c = false := mayC_not.2 (fun x => by
  rcases x.2 with ⟨_, h'⟩ | ⟨h', _⟩
  · exact e h'
  · exact h h')
theorem may_col {c : CellM} (h : 1 ≤ c.n ∧ c.n ≤ CNT) {k : Nat} (hk : k < c.s.length) (e : ¬ c.col k) : mayC c = false := mayC_not.2 (fun x => by
  rcases x.2 with ⟨h', _⟩ | ⟨_, h'⟩
  · exact h' h
  · exact e (h' k hk))
theorem may_all {c : CellM} (hs : c.shape) (h : 1 ≤ c.n ∧ c.n ≤ CNT) (hc : ∀ k, k < c.s.length → c.col k) : mayC c = true := mayC_iff.2 ⟨hs, .inr ⟨h, hc⟩⟩
theorem emN_nat {m : Nat} (h : m ≤ 2) : emN (m : Int) = m := by unfold emN; split <;> (try split) <;> omega
def MayRel (c : CellM) (w : World) (i : Value) (wr : World) : Prop := ∃ k : Nat, k ≤ c.s.length ∧ i = .int .i64 k ∧ (∀ j, j < k → c.col j) ∧ Qu w wr
theorem col_iff {n x lo hi : Int} : colP n x lo hi ↔ ¬ lo > hi ∧ inB lo 2305843009213693952 = true ∧ inB hi 2305843009213693952 = true ∧ inB x 4611686018427387904 = true ∧ (n = 1 → x = lo ∧ x = hi) := by
  unfold colP VAL SUM
  rw [inB_iff, inB_iff, inB_iff]
  constructor
  · rintro ⟨h1, h2, h3, h4, h5⟩; exact ⟨by omega, h2, h3, h4, h5⟩
  · rintro ⟨h1, h2, h3, h4, h5⟩; exact ⟨by omega, h2, h3, h4, h5⟩
def GoodB (x l h : Int) : Prop := ¬ h < l ∧ inB l 2305843009213693952 = true ∧ inB h 2305843009213693952 = true ∧ inB x 4611686018427387904 = true
theorem col_ways (n x l h : Int) : (¬ colP n x l h ∧ (h < l ∨ (¬ h < l ∧ inB l 2305843009213693952 = false) ∨ (¬ h < l ∧ inB l 2305843009213693952 = true ∧ inB h 2305843009213693952 = false) ∨
      (¬ h < l ∧ inB l 2305843009213693952 = true ∧ inB h 2305843009213693952 = true ∧ inB x 4611686018427387904 = false))) ∨
    (GoodB x l h ∧ ((¬ colP n x l h ∧ (((n == 1) = true ∧ (x != l) = true) ∨ ((n == 1) = true ∧ (x != l) = false ∧ (x != h) = true))) ∨ (colP n x l h ∧ ((n == 1) = false ∨ ((n == 1) = true ∧ (x != l) = false ∧ (x != h) = false))))) := by
  rw [col_iff]
  unfold GoodB
  by_cases h1 : h < l
  · exact .inl ⟨fun e => e.1 h1, .inl h1⟩
  cases h2 : inB l 2305843009213693952
  · exact .inl ⟨fun e => by simp at e, .inr (.inl ⟨h1, rfl⟩)⟩
  cases h3 : inB h 2305843009213693952
  · exact .inl ⟨fun e => by simp at e, .inr (.inr (.inl ⟨h1, rfl, rfl⟩))⟩
  cases h4 : inB x 4611686018427387904
  · exact .inl ⟨fun e => by simp at e, .inr (.inr (.inr ⟨h1, rfl, rfl, rfl⟩))⟩
  refine .inr ⟨⟨h1, rfl, rfl, rfl⟩, ?_⟩
  by_cases h5 : n = 1
  · by_cases h6 : x = l
    · by_cases h7 : x = h
      · exact .inr ⟨⟨h1, rfl, rfl, rfl, fun _ => ⟨h6, h7⟩⟩, .inr (by simp [h5, h6, ← h7])⟩
      · exact .inl ⟨fun e => h7 (e.2.2.2.2 h5).2, .inr (by simp [h5, h6]; omega)⟩
    · exact .inl ⟨fun e => h6 (e.2.2.2.2 h5).1, .inl (by simp [h5]; omega)⟩
  · exact .inr ⟨⟨h1, rfl, rfl, rfl, fun e => absurd e h5⟩, .inl (by simpa using h5)⟩
theorem refIn_q {x m : Int} {r : Bool} (h : inB x m = r) (h0 : 0 ≤ m) (h1 : m ≤ 4611686018427387904) : ∀ (w : World) (n : Nat), Calls Try.prog 79 #[.int .i64 x, .int .i64 m] (w.drewN n) (fun e w'' => e = .returned (.bool r) ∧ ∃ j, w'' = w.drewN j) :=
  fun w n => Calls.quiet_of (h ▸ refInC_any x m (w.drewN n) h0 h1)
theorem no_lt {a b : Int} (h : ¬ a < b) : decide (a < b) = false := decide_eq_false h
theorem all_succ {p : Nat → Prop} {k : Nat} (h : ∀ j, j < k → p j) (hk : p k) : ∀ j, j < k + 1 → p j := fun j hj => by
  rcases Nat.lt_or_ge j k with h' | h'
  · exact h j h'
  · obtain rfl : j = k := by omega
    exact hk
set_option maxRecDepth 100000 in
set_option maxHeartbeats 800000 in
theorem refMay_any (v : Value) (c : CellM) (w : World) (hv : CellR w w.heap.size v c) :
    Calls Try.prog 46 #[v] w (Gives (.bool (mayC c)) w) := by
  have hv0 := hv
  obtain ⟨v1, v2, v3, rfl, s1, s2, s3⟩ := hv
  obtain ⟨A1, c1, rfl, hc1, hm1⟩ := s1.formI
  obtain ⟨A2, c2, rfl, hc2, hm2⟩ := s2.formI
  obtain ⟨A3, c3, rfl, hc3, hm3⟩ := s3.formI
  have S0 := hid hv0
  unfold maxLen at hm1 hm2 hm3
  have S1 := hid s1; have S2 := hid s2; have S3 := hid s3
  clear s1 s2 s3 hv0
  have M1 := hid (@may_shape c); have M2 := hid (@may_is_empty c); have M3 := hid (@may_count c); have M4 := hid (@may_col c); have M5 := hid (@may_all c)
  obtain ⟨n, s, lo, hi⟩ := c
  simp only [CellM.shape] at *
  go_enter Try.func46, Try.ntmps46
  have hb0 : Below w.heap.size w (w.alloc (.cells #[.int .i64 n, .slice A1 s.length c1, .slice A2 lo.length c2, .slice A3 hi.length c3] 25)) := bl1 _ _
  have HB := hid hb0; clear hb0
  have BK := hid (Blk.new w (.int .i64 n) (.slice A1 s.length c1) (.slice A2 lo.length c2) (.slice A3 hi.length c3) 25)
  by_cases hs : s.length ≤ 2 ∧ lo.length = s.length ∧ hi.length = s.length
  · have HS := hid hs
    obtain ⟨hs1, hs2, hs3⟩ := hs
    have u1 : ¬ 2 < (s.length : Int) := by omega
    have u2 : ((lo.length : Int) != (s.length : Int)) = false := by simp [hs2]
    have u3 : ((hi.length : Int) != (s.length : Int)) = false := by simp [hs3]
    clear hs1 hs2 hs3
    have HE := hid (refEmpty_any (s.length : Int))
    have hem : emN (s.length : Int) = s.length := emN_nat HS.out.1
    rw [hem] at HE
    clear hem
    have hsa := fun (v x : Value) (w : World) => refSameC_any v x ⟨n, s, lo, hi⟩ (emptyC s.length) w
    obtain ⟨de, hde⟩ : ∃ de, de = decide ((⟨n, s, lo, hi⟩ : CellM) = emptyC s.length) := ⟨_, rfl⟩
    rw [← hde] at hsa
    have HSA := hid hsa; have HDE := hid hde; clear hsa hde
    go_wp2
    go_region_held3 (fun w' => w'.cell? ⟨w.heap.size, 0, none⟩ = some (.int .i64 n) ∧ w'.cell? ⟨w.heap.size, 1, none⟩ = some (.slice A1 s.length c1) ∧ w'.cell? ⟨w.heap.size, 2, none⟩ = some (.slice A2 lo.length c2) ∧ w'.cell? ⟨w.heap.size, 3, none⟩ = some (.slice A3 hi.length c3)) (go_keep)
      (first
        | (go_at_call 47; refine (HE.out _).mono ?_; rintro e w2 ⟨v2, rfl, hr2, hb2⟩; have B2 := hid hb2; have R2 := hid hr2; have k2 := (Blk.qu BK.out ⟨1, rfl⟩).below hb2 (by simp); have BK2 := hid k2; obtain ⟨q0, q1, q2, q3, -, -, -, -⟩ := k2; clear hb2 hr2)
        | (go_at_call 13; refine (HSA.out _ _ _ ((S0.out.below ((below_drewN HB.out 1).trans (B2.out.mono (by simp)))).more (by have := B2.out.size; simp at this; omega)) R2.out).mono ?_; rintro e w3 ⟨rfl, hb3⟩; have B3 := hid hb3; have k3 := BK2.out.below hb3 (by have := B2.out.size; simp at this; omega); have BK3 := hid k3; obtain ⟨q0, q1, q2, q3, -, -, -, -⟩ := k3; clear hb3))
    have hW : Below w.heap.size w w3 := ((below_drewN HB.out 1).trans (B2.out.mono (by simp))).trans (B3.out.mono (by have := B2.out.size; simp at this; omega))
    have HW := hid hW
    clear hW
    cases de
    case' true =>
      have hn := M2.out HS.out (of_decide_eq_true HDE.out.symm)
      have HN := hid hn; clear hn
      go_wp2
      go_ret
      exact ⟨ret_bool HN.out.symm, HW.out⟩
    case' false =>
      have HNE := hid (of_decide_eq_false HDE.out.symm)
      by_cases hc : 1 ≤ n ∧ n ≤ CNT
      · have HC := hid hc
        unfold CNT at hc
        obtain ⟨x1, x2⟩ := hc
        have x1' : ¬ n < 1 := by omega
        have x2' : ¬ 1099511627776 < n := by omega
        have cx1 := no_lt x1'
        have cx2 := no_lt x2'
        clear x1 x2
        go_wp2
        go_loopw [5] (fun i wr => MayRel ⟨n, s, lo, hi⟩ w3 i wr) (fun i _ => s.length - (intOf i).toNat)
        case atStart => exact ⟨0, by omega, rfl, fun j hj => by omega, Qu.refl _⟩
        case round =>
          obtain ⟨k, hk, rfl, hall, hq⟩ := hrel
          have HA := hid hall; clear hall
          simp only at hk
          have y0 := (hq.cell _).trans q0
          have y1 := (hq.cell _).trans q1
          have y2 := (hq.cell _).trans q2
          have y3 := (hq.cell _).trans q3
          by_cases hlt : k < s.length
          · obtain ⟨b1, o1, rfl, hb1, hx1⟩ := (S1.out.below HW.out).int hlt
            obtain ⟨b2, o2, rfl, hb2, hx2⟩ := (S2.out.below HW.out).int (show k < lo.length by have := HS.out; omega)
            obtain ⟨b3, o3, rfl, hb3, hx3⟩ := (S3.out.below HW.out).int (show k < hi.length by have := HS.out; omega)
            have g1 : wr.cell? ⟨b1, o1 + k, none⟩ = _ := (hq.cell _).trans hx1
            have g2 : wr.cell? ⟨b2, o2 + k, none⟩ = _ := (hq.cell _).trans hx2
            have g3 : wr.cell? ⟨b3, o3 + k, none⟩ = _ := (hq.cell _).trans hx3
            have hlo : k < lo.length := by have := HS.out; omega
            have hhi : k < hi.length := by have := HS.out; omega
            clear hx1 hx2 hx3
            have hbad : ¬ colP n (s.getD k 0) (lo.getD k 0) (hi.getD k 0) → mayC _ = false := fun h => M4.out HC.out hlt h
            have hgood : colP n (s.getD k 0) (lo.getD k 0) (hi.getD k 0) → _ := fun h => all_succ (p := (⟨n, s, lo, hi⟩ : CellM).col) HA.out h
            generalize s.getD k 0 = x at *
            generalize lo.getD k 0 = l at *
            generalize hi.getD k 0 = h at *
            have HBAD := hid hbad; have HGOOD := hid hgood; clear hbad hgood
            rcases col_ways n x l h with ⟨hb, hw⟩ | ⟨⟨z1, z2, z3, z4⟩, hw⟩
            · have hn := HBAD.out hb
              have HN := hid hn; clear hn hb
              rcases hw with z1 | ⟨z1, z2⟩ | ⟨z1, z2, z3⟩ | ⟨z1, z2, z3, z4⟩
              · go_wp2
                go_quiet (fail)
                go_wp2
                go_ret
                exact ⟨ret_bool HN.out.symm, HW.out.trans ((hq.drewN _).below _)⟩
              · have HI1 := hid (refIn_q z2 (by omega) (by omega))
                have cb := no_lt z1
                clear z1 z2
                go_wp2
                go_quiet ((go_at_call 79; with_reducible exact HI1.out _ _))
                go_wp2
                go_ret
                exact ⟨ret_bool HN.out.symm, HW.out.trans ((hq.drewN _).below _)⟩
              · have HI1 := hid (refIn_q z2 (by omega) (by omega))
                have HI2 := hid (refIn_q z3 (by omega) (by omega))
                have cb := no_lt z1
                clear z1 z2 z3
                go_wp2
                go_quiet ((go_at_call 79; with_reducible first | exact HI1.out _ _ | exact HI2.out _ _))
                go_wp2
                go_ret
                exact ⟨ret_bool HN.out.symm, HW.out.trans ((hq.drewN _).below _)⟩
              · have HI1 := hid (refIn_q z2 (by omega) (by omega))
                have HI2 := hid (refIn_q z3 (by omega) (by omega))
                have HI3 := hid (refIn_q z4 (by omega) (by omega))
                have cb := no_lt z1
                clear z1 z2 z3 z4
                go_wp2
                go_quiet ((go_at_call 79; with_reducible first | exact HI1.out _ _ | exact HI2.out _ _ | exact HI3.out _ _))
                go_wp2
                go_ret
                exact ⟨ret_bool HN.out.symm, HW.out.trans ((hq.drewN _).below _)⟩
            · have HI1 := hid (refIn_q z2 (by omega) (by omega))
              have HI2 := hid (refIn_q z3 (by omega) (by omega))
              have HI3 := hid (refIn_q z4 (by omega) (by omega))
              have cb := no_lt z1
              clear z1 z2 z3 z4
              rcases hw with ⟨hb, hw⟩ | ⟨hg, hw⟩
              · have hn := HBAD.out hb
                have HN := hid hn; clear hn hb
                rcases hw with ⟨z1, z2⟩ | ⟨z1, z2, z3⟩
                all_goals
                  go_wp2
                  go_quiet ((go_at_call 79; with_reducible first | exact HI1.out _ _ | exact HI2.out _ _ | exact HI3.out _ _))
                  go_wp2
                  go_quiet (fail)
                  go_wp2
                  go_ret
                  exact ⟨ret_bool HN.out.symm, HW.out.trans (((hq.drewN _).drewN _).below _)⟩
              · have hn := HGOOD.out hg
                have HN := hid hn; clear hn hg
                rcases hw with z1 | ⟨z1, z2, z3⟩
                all_goals
                  go_wp2
                  go_quiet ((go_at_call 79; with_reducible first | exact HI1.out _ _ | exact HI2.out _ _ | exact HI3.out _ _))
                  go_wp2
                  go_quiet (fail)
                  go_wp2
                  go_roundw
                  case rel => exact ⟨k + 1, by simp only; omega, by go_num, HN.out, hq.drewN _⟩
                  case measure => simp [intOf]; omega
          · have hn := M5.out HS.out HC.out (fun j hj => HA.out j (by omega))
            have HN := hid hn; clear hn
            go_wp2
            go_ret
            exact ⟨ret_bool HN.out.symm, HW.out.trans (hq.below _)⟩
      · have hn := M3.out hc HNE.out
        have HN := hid hn
        have hc' : n < 1 ∨ (¬ n < 1 ∧ 1099511627776 < n) := by unfold CNT at hc; omega
        clear hc hn
        rcases hc' with x1 | ⟨x1, x2⟩
        · go_wp2
          go_ret
          exact ⟨ret_bool HN.out.symm, HW.out⟩
        · go_wp2
          go_ret
          exact ⟨ret_bool HN.out.symm, HW.out⟩
  · have hn := M1.out hs
    have HN := hid hn
    have hs' : 2 < (s.length : Int) ∨ (¬ 2 < (s.length : Int) ∧ ((lo.length : Int) != (s.length : Int)) = true) ∨ (¬ 2 < (s.length : Int) ∧ ((lo.length : Int) != (s.length : Int)) = false ∧ ((hi.length : Int) != (s.length : Int)) = true) := by
      simp; omega
    clear hs hn
    rcases hs' with x1 | ⟨x1, x2⟩ | ⟨x1, x2, x3⟩
    all_goals go_wp2
    all_goals go_ret
    all_goals exact ⟨ret_bool HN.out.symm, HB.out⟩
end Go.Proofs.Ytclhnnidbhchnaa
/- slices.Equal, ContainsFunc, IndexFunc, Min, Max, Clone at ints; cell.pick. -/
namespace Go.Proofs.Ytclhnnidbhchnaa
open Go.ChangeShapes Go.WideShapes Go.ChangeAt Go.RowKit
set_option linter.unusedVariables false

set_option maxRecDepth 100000 in
theorem pick_lt_any (a b : Int) (w : World) : Calls Try.prog 42 #[.int .i64 a, .int .i64 b, .int .i64 (-1)] w (fun e w' => e = .returned (.int .i64 (min a b)) ∧ w = w') := by
  go_enter Try.func42, Try.ntmps42
  have hc := fun w => compare_any a b w
  by_cases h : a < b
  · have e : cmpI a b = -1 := by unfold cmpI; rw [if_pos h]
    rw [e] at hc
    go_wp2_with fail
    refine (hc _).mono ?_
    rintro e w1 ⟨rfl, rfl⟩
    go_wp2
    go_ret
    exact ⟨ret_int (by omega), rfl⟩
  · have e : (cmpI a b == -1) = false := by unfold cmpI; rw [if_neg h]; split <;> rfl
    go_wp2_with fail
    refine (hc _).mono ?_
    rintro e w1 ⟨rfl, rfl⟩
    go_wp2
    go_ret
    exact ⟨ret_int (by omega), rfl⟩
set_option maxRecDepth 100000 in
theorem pick_gt_any (a b : Int) (w : World) : Calls Try.prog 42 #[.int .i64 a, .int .i64 b, .int .i64 1] w (fun e w' => e = .returned (.int .i64 (max a b)) ∧ w = w') := by
  go_enter Try.func42, Try.ntmps42
  have hc := fun w => compare_any a b w
  by_cases h : b < a
  · have e : cmpI a b = 1 := by unfold cmpI; rw [if_neg (by omega), if_pos h]
    rw [e] at hc
    go_wp2_with fail
    refine (hc _).mono ?_
    rintro e w1 ⟨rfl, rfl⟩
    go_wp2
    go_ret
    exact ⟨ret_int (by omega), rfl⟩
  · have e : (cmpI a b == 1) = false := by unfold cmpI; split <;> (try split) <;> first | rfl | omega
    go_wp2_with fail
    refine (hc _).mono ?_
    rintro e w1 ⟨rfl, rfl⟩
    go_wp2
    go_ret
    exact ⟨ret_int (by omega), rfl⟩
set_option maxRecDepth 100000 in
set_option maxHeartbeats 800000 in
theorem equalI_any (v x : Value) (l r : List Int) (w : World) (B : Nat) (hv : Sl w B v (ivals l)) (hx : Sl w B x (ivals r)) :
    Calls Try.prog 97 #[v, x] w (Stays (.bool (decide (l = r))) w) := by
  obtain ⟨A1, c1, rfl, hc1, hm1⟩ := hv.formI
  obtain ⟨A2, c2, rfl, hc2, hm2⟩ := hx.formI
  unfold maxLen at hm1 hm2
  have S1 := hid hv; have S2 := hid hx; clear hv hx
  have hdec : l ≠ r → decide (l = r) = false := fun h => decide_eq_false h
  have hyes : l = r → decide (l = r) = true := fun h => decide_eq_true h
  generalize decide (l = r) = res at *
  have HD := hid hdec; have HY := hid hyes; clear hdec hyes
  go_enter Try.func97, Try.ntmps97
  by_cases hl : l.length = r.length
  · have HL := hid hl
    have u0 : ((l.length : Int) != (r.length : Int)) = false := by simp [hl]
    clear hl
    go_wp2
    go_loopw [13] (fun i wr => EqRel l r w i wr) (fun i _ => l.length - (intOf i).toNat)
    case atStart => exact ⟨0, by omega, rfl, rfl, Qu.refl _⟩
    case round =>
      obtain ⟨k, hk, rfl, hsame, hq⟩ := hrel
      have HS := hid hsame; clear hsame
      by_cases hlt : k < l.length
      · have hlt' : k < r.length := by have := HL.out; omega
        obtain ⟨b1, o1, rfl, hb1, hx1⟩ := S1.out.int hlt
        obtain ⟨b2, o2, rfl, hb2, hx2⟩ := S2.out.int hlt'
        have g1 : wr.cell? ⟨b1, o1 + k, none⟩ = _ := (hq.cell _).trans hx1
        have g2 : wr.cell? ⟨b2, o2 + k, none⟩ = _ := (hq.cell _).trans hx2
        clear hx1 hx2
        have e1 := take_succ_getD l k hlt
        have e2 := take_succ_getD r k hlt'
        have hgn : l.getD k 0 ≠ r.getD k 0 → l ≠ r := getD_ne
        generalize l.getD k 0 = p1 at *
        generalize r.getD k 0 = p2 at *
        by_cases he : p1 = p2
        · subst he
          have hs' : l.take (k + 1) = r.take (k + 1) := by rw [e1, e2, HS.out]
          have t2 : (p1 != p1) = false := by simp
          have HS' := hid hs'; clear e1 e2 hs' hgn
          go_wp2
          go_quiet (fail)
          go_wp2
          go_roundw
          case rel => exact ⟨k + 1, by omega, by go_num, HS'.out, hq.drewN _⟩
          case measure => simp [intOf]; omega
        · have hn := HD.out (hgn he)
          have t2 : (p1 != p2) = true := by simpa using he
          have HN := hid hn; clear e1 e2 hgn hn he
          go_wp2
          go_quiet (fail)
          go_wp2
          go_ret
          exact ⟨ret_bool HN.out.symm, hq.drewN _⟩
      · have he1 : l = r := by
          have := HS.out
          rwa [List.take_of_length_le (by omega), List.take_of_length_le (by have := HL.out; omega)] at this
        have hn := HY.out he1
        have HN := hid hn; clear he1 HS hn
        go_wp2
        go_ret
        exact ⟨ret_bool HN.out.symm, hq⟩
  · have u0 : ((l.length : Int) != (r.length : Int)) = true := by simp; omega
    have hn := HD.out (fun e => hl (by rw [e]))
    have HN := hid hn
    clear hl hn
    go_wp2
    go_ret
    exact ⟨ret_bool HN.out.symm, Qu.refl _⟩
set_option maxRecDepth 100000 in
theorem foldAt_any (x : Int) (w : World) : Calls Try.prog 83 #[.int .i64 x] w (Stays (.bool (!inB x VAL)) w) := by
  go_enter Try.func83, Try.ntmps83
  go_wp2_with fail
  refine (within_any _ _ _ (by omega) (by omega)).mono ?_
  rintro e w1 ⟨rfl, hq⟩
  go_wp2
  go_ret
  exact ⟨rfl, hq⟩
def AllRel (l : List Int) (w : World) (i : Value) (wr : World) : Prop := ∃ k : Nat, k ≤ l.length ∧ i = .int .i64 k ∧ (∀ x ∈ l.take k, inB x VAL = true) ∧ Qu w wr
theorem all_take_succ {l : List Int} {k : Nat} (h : ∀ x ∈ l.take k, inB x VAL = true) (hk : k < l.length) (hx : inB (l.getD k 0) VAL = true) : ∀ x ∈ l.take (k + 1), inB x VAL = true := by
  intro x hm
  rw [take_succ_getD l k hk] at hm
  rcases List.mem_append.1 hm with h' | h'
  · exact h x h'
  · simp at h'; rw [h']; exact hx
theorem getD_mem {l : List Int} {k : Nat} (hk : k < l.length) : l.getD k 0 ∈ l := by
  rw [List.getD_eq_getElem?_getD, List.getElem?_eq_getElem hk]; exact List.getElem_mem hk
def IdxP (l : List Int) (w : World) (e : Ending) (w' : World) : Prop := (∃ i : Int, e = .returned (.int .i64 i) ∧ (decide (0 ≤ i)) = !(l.all fun x => inB x VAL)) ∧ Qu w w'
set_option maxRecDepth 100000 in
set_option maxHeartbeats 800000 in
theorem indexI_any (v : Value) (l : List Int) (w : World) (B : Nat) (hv : Sl w B v (ivals l)) :
    Calls Try.prog 102 #[v, .func (Fn.func 83) #[] #[]] w (IdxP l w) := by
  obtain ⟨A1, c1, rfl, hc1, hm1⟩ := hv.formI
  unfold maxLen at hm1
  have S1 := hid hv; clear hv
  go_enter Try.func102, Try.ntmps102
  go_wp2
  go_loopw [8] (fun i wr => AllRel l w i wr) (fun i _ => l.length - (intOf i).toNat)
  case atStart => exact ⟨0, by omega, rfl, by simp, Qu.refl _⟩
  case round =>
    obtain ⟨k, hk, rfl, hall, hq⟩ := hrel
    have HA := hid hall; clear hall
    by_cases hlt : k < l.length
    · obtain ⟨b1, o1, rfl, hb1, hx1⟩ := S1.out.int hlt
      have g1 : wr.cell? ⟨b1, o1 + k, none⟩ = _ := (hq.cell _).trans hx1
      clear hx1
      have hm := getD_mem hlt
      have hn := all_take_succ HA.out hlt
      generalize l.getD k 0 = x at *
      have HM := hid hm; have HN := hid hn; clear hm hn
      have hf := foldAt_any x
      cases hb : inB x VAL
      · rw [hb] at hf
        have HF := hid hf; have HB := hid hb; clear hf hb
        go_wp2_with fail
        refine (HF.out _).mono ?_
        rintro e w1 ⟨rfl, hq1⟩
        go_wp2
        go_ret
        refine ⟨⟨_, rfl, ?_⟩, hq.trans hq1⟩
        rw [decide_eq_true (by omega)]
        symm
        rw [Bool.not_eq_true', ← Bool.not_eq_true, List.all_eq_true]
        intro h
        have := h x HM.out
        rw [HB.out] at this
        cases this
      · rw [hb] at hf
        have HF := hid hf; have HB := hid hb; clear hf hb
        go_wp2_with fail
        refine (HF.out _).mono ?_
        rintro e w1 ⟨rfl, hq1⟩
        go_wp2
        go_roundw
        case rel => exact ⟨k + 1, by omega, by go_num, HN.out HB.out, hq.trans hq1⟩
        case measure => simp [intOf]; omega
    · have := HA.out
      rw [List.take_of_length_le (by omega)] at this
      have HT := hid this; clear this
      go_wp2
      go_ret
      refine ⟨⟨_, rfl, ?_⟩, hq⟩
      rw [List.all_eq_true.2 (by simpa using HT.out)]
      rfl
set_option maxRecDepth 100000 in
theorem containsI_any (v : Value) (l : List Int) (w : World) (B : Nat) (hv : Sl w B v (ivals l)) :
    Calls Try.prog 82 #[v, .func (Fn.func 83) #[] #[]] w (Stays (.bool (!(l.all fun x => inB x VAL))) w) := by
  have HI := hid (fun W (hq : Qu w W) => indexI_any v l W B (hv.qu' hq))
  clear hv
  go_enter Try.func82, Try.ntmps82
  go_wp2_with fail
  refine (HI.out _ (Qu.refl _)).mono ?_
  rintro e w1 ⟨⟨i, rfl, hi⟩, hq⟩
  go_wp2
  go_ret
  exact ⟨ret_bool (by rw [← hi]), hq⟩
def MinRel (f : Int → Int → Int) (l : List Int) (w : World) (m i : Value) (wr : World) : Prop := ∃ k : Nat, 1 ≤ k ∧ k ≤ l.length ∧ i = .int .i64 k ∧ m = .int .i64 ((l.take k).tail.foldl f (l.getD 0 0)) ∧ Qu w wr
theorem fold_step {f : Int → Int → Int} {l : List Int} {k : Nat} (h1 : 1 ≤ k) (hk : k < l.length) : (l.take (k + 1)).tail.foldl f (l.getD 0 0) = f ((l.take k).tail.foldl f (l.getD 0 0)) (l.getD k 0) := by
  rw [take_succ_getD l k hk]
  have hne : l.take k ≠ [] := by intro e; have := congrArg List.length e; rw [List.length_take, List.length_nil] at this; omega
  rw [List.tail_append_of_ne_nil hne, List.foldl_append]
  rfl
theorem minL_fold {l : List Int} (h : l ≠ []) : minL l = l.tail.foldl min (l.getD 0 0) := by cases l with
  | nil => exact absurd rfl h
  | cons x l => rfl
theorem maxL_fold {l : List Int} (h : l ≠ []) : maxL l = l.tail.foldl max (l.getD 0 0) := by cases l with
  | nil => exact absurd rfl h
  | cons x l => rfl
set_option maxRecDepth 100000 in
set_option maxHeartbeats 800000 in
theorem minI_any (v : Value) (l : List Int) (w : World) (B : Nat) (hv : Sl w B v (ivals l)) (h0 : l ≠ []) :
    Calls Try.prog 84 #[v] w (Stays (.int .i64 (minL l)) w) := by
  rw [minL_fold h0]
  obtain ⟨A1, c1, rfl, hc1, hm1⟩ := hv.formI
  unfold maxLen at hm1
  have hpos := List.length_pos_iff.2 h0
  obtain ⟨b1, o1, rfl, hb1, hx0⟩ := hv.int hpos
  rw [Nat.add_zero] at hx0
  have S1 := hid hv; clear hv h0
  go_enter Try.func84, Try.ntmps84
  go_wp2
  go_loopw [3, 4] (fun m i wr => MinRel min l w m i wr) (fun _ i _ => l.length - (intOf i).toNat)
  case atStart => exact ⟨1, by omega, by omega, rfl, by rw [show (l.take 1).tail = [] by cases l <;> simp]; simp [List.getD_eq_getElem?_getD, List.getElem?_eq_getElem hpos], Qu.refl _⟩
  case round =>
    obtain ⟨k, hk1, hk, rfl, rfl, hq⟩ := hrel
    by_cases hlt : k < l.length
    · obtain ⟨b2, o2, e, hb2, hx1⟩ := S1.out.int hlt
      injection e with e; injection e with e1 e2 _; subst e1 e2
      have g1 : wr.cell? ⟨b1, o1 + k, none⟩ = _ := (hq.cell _).trans hx1
      clear hx1
      have hs := fold_step (f := min) hk1 hlt
      generalize l.getD k 0 = x at *
      generalize (l.take k).tail.foldl min (l.getD 0 0) = y at *
      have HS := hid hs; clear hs
      go_wp2
      go_roundw
      case rel => exact ⟨k + 1, by omega, by omega, by go_num, by rw [HS.out]; congr 1; rw [Int.min_def]; split <;> split <;> omega, hq⟩
      case measure => simp [intOf]; omega
    · obtain rfl : k = l.length := by omega
      go_wp2
      go_ret
      exact ⟨by first | rfl | (rw [List.take_length]; rfl), hq⟩
set_option maxRecDepth 100000 in
set_option maxHeartbeats 800000 in
theorem maxI_any (v : Value) (l : List Int) (w : World) (B : Nat) (hv : Sl w B v (ivals l)) (h0 : l ≠ []) :
    Calls Try.prog 85 #[v] w (Stays (.int .i64 (maxL l)) w) := by
  rw [maxL_fold h0]
  obtain ⟨A1, c1, rfl, hc1, hm1⟩ := hv.formI
  unfold maxLen at hm1
  have hpos := List.length_pos_iff.2 h0
  obtain ⟨b1, o1, rfl, hb1, hx0⟩ := hv.int hpos
  rw [Nat.add_zero] at hx0
  have S1 := hid hv; clear hv h0
  go_enter Try.func85, Try.ntmps85
  go_wp2
  go_loopw [3, 4] (fun m i wr => MinRel max l w m i wr) (fun _ i _ => l.length - (intOf i).toNat)
  case atStart => exact ⟨1, by omega, by omega, rfl, by rw [show (l.take 1).tail = [] by cases l <;> simp]; simp [List.getD_eq_getElem?_getD, List.getElem?_eq_getElem hpos], Qu.refl _⟩
  case round =>
    obtain ⟨k, hk1, hk, rfl, rfl, hq⟩ := hrel
    by_cases hlt : k < l.length
    · obtain ⟨b2, o2, e, hb2, hx1⟩ := S1.out.int hlt
      injection e with e; injection e with e1 e2 _; subst e1 e2
      have g1 : wr.cell? ⟨b1, o1 + k, none⟩ = _ := (hq.cell _).trans hx1
      clear hx1
      have hs := fold_step (f := max) hk1 hlt
      generalize l.getD k 0 = x at *
      generalize (l.take k).tail.foldl max (l.getD 0 0) = y at *
      have HS := hid hs; clear hs
      go_wp2
      go_roundw
      case rel => exact ⟨k + 1, by omega, by omega, by go_num, by rw [HS.out]; congr 1; rw [Int.max_def]; split <;> split <;> omega, hq⟩
      case measure => simp [intOf]; omega
    · obtain rfl : k = l.length := by omega
      go_wp2
      go_ret
      exact ⟨by first | rfl | (rw [List.take_length]; rfl), hq⟩
end Go.Proofs.Ytclhnnidbhchnaa
/- The reference's total, Values, Merge. -/
namespace Go.Proofs.Ytclhnnidbhchnaa
open Go.ChangeShapes Go.WideShapes Go.ChangeAt Go.RowKit
set_option linter.unusedVariables false

def okSum (x : Int) : Bool := decide (-SUM ≤ x ∧ x ≤ SUM)
theorem okSum_iff {x : Int} : okSum x = true ↔ -SUM ≤ x ∧ x ≤ SUM := by unfold okSum; rw [decide_eq_true_eq]
def TotalP (x : Int) (w : World) (e : Ending) (w' : World) : Prop := (∃ y, e = .returned (.tuple #[.int .i64 y, .bool (okSum x)]) ∧ (okSum x = true → y = x)) ∧ Below w.heap.size w w'
set_option maxRecDepth 100000 in
set_option maxHeartbeats 800000 in
theorem total_any (v : Value) (l : List Int) (w : World) (hl : l.length ≤ 1073741824) (hv : Sl w w.heap.size v (ivals l)) (h1 : -604462909807314587353088 ≤ l.sum) (h2 : l.sum < 604462909807314587353088) :
    Calls Try.prog 48 #[v] w (TotalP l.sum w) := by
  have HT := hid (refTotal_any v l w hl hv); clear hv
  obtain ⟨z, hz⟩ : ∃ z, z = l.sum := ⟨_, rfl⟩
  rw [← hz] at h1 h2 ⊢
  have HZ := hid hz; clear hz
  have H1 := hid h1; have H2 := hid h2; clear h1 h2
  go_enter Try.func48, Try.ntmps48
  go_wp2_with fail
  refine HT.out.mono ?_
  rintro e w1 ⟨v1, rfl, hs1, hb1⟩
  rw [← HZ.out] at hs1
  have HI := hid (refInt_any v1 z w1 hs1 H1.out H2.out)
  have HB := hid hb1
  clear hs1 hb1
  cases hf : FitsI z
  · have hno : okSum z = false := by
      rw [Bool.eq_false_iff]; intro h
      have := okSum_iff.1 h
      unfold SUM at this
      unfold FitsI at hf
      rw [decide_eq_false_iff_not] at hf
      omega
    rw [show RefIntPost z w1 = fun e w' => e = .returned (.tuple #[.int .i64 0, .int .i64 14]) ∧ Qu w1 w' by unfold RefIntPost; rw [hf]; rfl] at HI
    have HN := hid hno; clear hno hf
    go_wp2_with fail
    refine HI.out.mono ?_
    rintro e w2 ⟨rfl, hq⟩
    go_wp2
    go_ret2
    exact ⟨⟨0, by rw [HN.out]; rfl, fun h => by rw [HN.out] at h; cases h⟩, HB.out.trans (hq.below _)⟩
  · have hin : inB z 4611686018427387904 = okSum z := by
      rw [Bool.eq_iff_iff, inB_iff, okSum_iff]; exact Iff.rfl
    rw [show RefIntPost z w1 = fun e w' => e = .returned (.tuple #[.int .i64 z, .int .i64 0]) ∧ Qu w1 w' by unfold RefIntPost; rw [hf]; rfl] at HI
    have HC := hid (fun w => refInC_any z 4611686018427387904 w (by omega) (by omega))
    rw [hin] at HC
    clear hin hf
    go_wp2_with fail
    refine HI.out.mono ?_
    rintro e w2 ⟨rfl, hq⟩
    go_wp2_with fail
    refine (HC.out _).mono ?_
    rintro e w3 ⟨rfl, hq3⟩
    go_wp2
    go_ret2
    exact ⟨⟨z, rfl, fun _ => rfl⟩, (HB.out.trans (hq.below _)).trans (hq3.below _)⟩
end Go.Proofs.Ytclhnnidbhchnaa
