/- 2 texts of this claim, in build order. -/
import Derived.Test.YtgoapnkdcfcjgaaGreatPgfegbefo
import Derived.Test.YtgoapnkdcfcjgaaGreatPefhdakfj
import Derived.Test.YtgoapnkdcfcjgaaGreatPnbmhhlfj
/- The reference's Need. -/
namespace Go.Proofs.YtgoapnkdcfcjgaaGreat
open Go.ChangeShapes Go.WideShapes Go.ChangeAt Go.RowKit
set_option linter.unusedVariables false
set_option linter.unusedSimpArgs false

/-- What the filters so far make of the level at a place. -/
def lvlAt (fs : List FilterX) (i : Nat) (n : Int) : Int := fs.foldl (fun n f => if f.1 = (i : Int) ∧ n < f.2.1 then f.2.1 else n) n
theorem foldMax_at (fs : List FilterX) (l : List Int) (i : Nat) (hi : i < l.length) (h0 : ∀ f ∈ fs, 0 ≤ f.1) : (fs.foldl setMax l).getD i 0 = lvlAt fs i (l.getD i 0) := by
  induction fs generalizing l with
  | nil => rfl
  | cons f fs ih =>
    rw [List.foldl_cons, ih _ (by rw [setMax_len]; exact hi) (fun g hg => h0 g (List.mem_cons_of_mem _ hg))]
    unfold lvlAt
    rw [List.foldl_cons]
    congr 1
    have hf := h0 f List.mem_cons_self
    unfold setMax
    by_cases he : f.1.toNat = i
    · rw [he, List.getD_eq_getElem?_getD (l := l.set _ _), List.getElem?_set_self hi]
      have : f.1 = (i : Int) := by omega
      simp only [this, true_and, Option.getD_some]
      split <;> omega
    · rw [List.getD_eq_getElem?_getD (l := l.set _ _), List.getElem?_set_ne he, ← List.getD_eq_getElem?_getD]
      have : f.1 ≠ (i : Int) := by omega
      simp [this]
theorem lvlAt_succ {fs : List FilterX} {k : Nat} (hk : k < fs.length) (i : Nat) (n : Int) : lvlAt (fs.take (k + 1)) i n = if fs[k].1 = (i : Int) ∧ lvlAt (fs.take k) i n < fs[k].2.1 then fs[k].2.1 else lvlAt (fs.take k) i n := by
  unfold lvlAt
  rw [List.take_succ_eq_append_getElem hk, List.foldl_append]; rfl
def RnRel (q : QueryX) (W0 : World) (out i : Value) (wr : World) : Prop := ∃ k : Nat, k ≤ q.1.length ∧ i = .int .i64 k ∧ wr.ownsRow W0.heap.size 3 1 out k (ivals ((needQ q).take k)) ∧ Below W0.heap.size W0 wr
def RnIn (q : QueryX) (i : Nat) (n : Int) (wo : World) (s5 s6 : Value) (wr : World) : Prop := ∃ j : Nat, j ≤ q.2.length ∧ s6 = .int .i64 j ∧ s5 = .int .i64 (lvlAt (q.2.take j) i n) ∧ Qu wo wr
set_option maxRecDepth 100000 in
set_option maxHeartbeats 1600000 in
theorem refNeed_any (v : Value) (q : QueryX) (w : World) (hv : QueryV w w.heap.size v q) (hq : q.1.length ≤ 1000) (h0 : ∀ f ∈ q.2, 0 ≤ f.1) :
    Calls Tryz.prog 21 #[v] w (RowPost (needQ q) w) := by
  obtain ⟨i0, hi, hz0, hz1, hz2⟩ := info_parts info_int
  obtain ⟨A1, c1, A2, c2, rfl, h1, h2⟩ := hv
  obtain ⟨hc1, hm1⟩ := h1.cap
  obtain ⟨hc2, hm2⟩ := h2.cap
  obtain ⟨W0, hW0⟩ : ∃ W, W = w.alloc (.cells #[.slice A1 q.1.length c1, .slice A2 q.2.length c2] 30) := ⟨_, rfl⟩
  have g0 : Below w.heap.size w W0 := by rw [hW0]; exact bl1 _ _
  have z0 : W0.heap.size = w.heap.size + 1 := by rw [hW0]; simp
  have y0 : W0.cell? ⟨w.heap.size, 0, none⟩ = some (.slice A1 q.1.length c1) := by rw [hW0]; simp [go_sem]
  have y1 : W0.cell? ⟨w.heap.size, 1, none⟩ = some (.slice A2 q.2.length c2) := by rw [hW0]; simp [go_sem]
  have HW0 := hid hW0
  have G0 := hid g0; have Y0 := hid y0; have Y1 := hid y1
  have H1 := hid (good_ints.on h1 g0)
  have H2 := hid (good_filters.on h2 g0)
  have hnl : (needQ q).length = q.1.length := foldMax_len _ _
  have HNA := hid (fun (i : Nat) (hi : i < q.1.length) => show (needQ q).getD i 0 = lvlAt q.2 i (q.1.getD i 0) from foldMax_at q.2 q.1 i hi h0)
  have HNL := hid hnl
  clear hW0 g0 y0 y1 h1 h2 hnl h0
  go_enter Tryz.func21, Tryz.ntmps21
  go_wp2
  rw [← HW0.out]
  go_loopw [3, 4] (fun out i wr => RnRel q W0 out i wr) (fun _ i _ => q.1.length - (intOf i).toNat)
  case atStart => exact ⟨0, by omega, rfl, World.ownsRow_nil _ _ _ _, Below.refl _ _⟩
  case round =>
    obtain ⟨k, hk, rfl, hown, hb⟩ := hrel
    have hs := hb.size
    have HB := hid hb; have HOW := hid hown
    have y0 := cellK hb (by omega) Y0.out
    have y1 := cellK hb (by omega) Y1.out
    have Y1r := hid y1
    clear hb hown
    by_cases hlt : k < q.1.length
    · obtain ⟨b, off, rfl, hbl, hcell, hii⟩ := ints_at H1.out hlt
      have hcw := cellK HB.out hbl hcell
      have hna := HNA.out k hlt
      have e1 : (needQ q).take (k + 1) = (needQ q).take k ++ [(needQ q).getD k 0] := by
        have := HNL.out
        rw [List.take_succ_eq_append_getElem (by omega), List.getD_eq_getElem?_getD, List.getElem?_eq_getElem (show k < (needQ q).length by omega)]; rfl
      rw [hna] at e1
      generalize q.1.getD k 0 = x0 at *
      have E1 := hid e1
      clear e1 hcell hii hna
      obtain ⟨wo, rfl⟩ : ∃ wo : World, wo = wr := ⟨_, rfl⟩
      go_wp2
      go_loopw [5, 6] (fun s5 s6 wr => RnIn q k x0 wo s5 s6 wr) (fun _ s6 _ => q.2.length - (intOf s6).toNat)
      case atStart => exact ⟨0, by omega, rfl, rfl, Qu.refl _⟩
      case round =>
        clear y0 y1 hcw
        obtain ⟨j, hj, rfl, rfl, hqu⟩ := hrel
        have HQU := hid hqu
        have y1 : wr.cell? ⟨w.heap.size, 1, none⟩ = _ := (hqu.cell _).trans Y1r.out
        clear hqu
        by_cases hjl : j < q.2.length
        · obtain ⟨b2, o2, AM, cM, rfl, hbl2, q0, q1, q2, i1, i2, hms⟩ := filters_at H2.out hjl
          have q0' : wr.cell? ⟨b2, o2 + j * 3, none⟩ = _ := (HQU.out.cell _).trans (cellK HB.out hbl2 q0)
          have q1' : wr.cell? ⟨b2, o2 + j * 3 + 1, none⟩ = _ := (HQU.out.cell _).trans (cellK HB.out hbl2 q1)
          have e2 := lvlAt_succ hjl k x0
          generalize lvlAt (q.2.take j) k x0 = n0 at *
          generalize q.2[j].1 = d at *
          generalize q.2[j].2.1 = lv at *
          have E2 := hid e2
          clear e2 q0 q1 q2 i1 i2 hms
          have hways : (d ≠ (k : Int)) ∨ (d = (k : Int) ∧ ¬ n0 < lv) ∨ (d = (k : Int) ∧ n0 < lv) := by omega
          rcases hways with a | ⟨a, a'⟩ | ⟨a, a'⟩
          · have t1 : (d == (k : Int)) = false := by rw [beq_eq_false_iff_ne]; exact a
            have HN := hid (show lvlAt (q.2.take (j + 1)) k x0 = n0 by rw [E2.out, if_neg (fun h => a h.1)])
            clear a
            go_wp2
            go_roundw
            case rel => exact ⟨j + 1, by omega, by go_num, by rw [HN.out], HQU.out⟩
            case measure => simp [intOf]; omega
          · have t1 : (d == (k : Int)) = true := by rw [beq_iff_eq]; exact a
            have t2 : decide (n0 < lv) = false := decide_eq_false a'
            have HN := hid (show lvlAt (q.2.take (j + 1)) k x0 = n0 by rw [E2.out, if_neg (fun h => a' h.2)])
            clear a a'
            go_wp2
            go_roundw
            case rel => exact ⟨j + 1, by omega, by go_num, by rw [HN.out], HQU.out⟩
            case measure => simp [intOf]; omega
          · have t1 : (d == (k : Int)) = true := by rw [beq_iff_eq]; exact a
            have t2 : decide (n0 < lv) = true := decide_eq_true a'
            have HN := hid (show lvlAt (q.2.take (j + 1)) k x0 = lv by rw [E2.out, if_pos ⟨a, a'⟩])
            clear a a'
            go_wp2
            go_roundw
            case rel => exact ⟨j + 1, by omega, by go_num, by rw [HN.out], HQU.out⟩
            case measure => simp [intOf]; omega
        · obtain rfl : j = q.2.length := by omega
          rw [List.take_of_length_le (by omega)]
          have B9 := hid (HB.out.trans ((HQU.out.below _).mono hs))
          have HOW9 := hid (own_stays HOW.out (HQU.out.below _))
          go_wp2_with (at_builtin; refine stop_here ?_)
          refine go_on ?_
          refine app_own (.tmp 50) (.tmp 52) 27 27 rfl rfl W0.heap.size 3 i0 (.int .i64 0) 1 8 Tryz.underlying27 hi hz0 hz1 hz2 rfl (by decide) _ k (ivals ((needQ q).take k)) rfl (HOW9.out.alloc _) (.slice (some ⟨wr.heap.size, 0, none⟩) 1 1) 1 (ivals [lvlAt q.2 k x0]) rfl (Src.ofSlice _ Tryz.underlying27 _ 1 1 _ rfl (cell_one_at' _ _ _ rfl) (by simp [ivals]; rfl)) (by first | omega | (simp only [maxLen]; omega)) (by first | omega | (simp only [maxLen]; omega)) (by simp; have := B9.out.size; omega) ?_
          intro v' w' hown' hg' hb'
          have hr : RnRel q W0 v' (.int .i64 ((k : Int) + 1)) w' := ⟨k + 1, by omega, by go_num, by rw [E1.out, ivals_snoc]; exact hown', ((B9.out.alloc B9.out.size _).trans hb')⟩
          have HR := hid hr
          clear hr hown' hg' hb'
          go_wp2
          go_roundw
          case rel => exact HR.out
          case measure => simp [intOf]; omega
    · obtain rfl : k = q.1.length := by omega
      have hfin : wr.ownsRow w.heap.size 3 1 u3 (needQ q).length (ivals (needQ q)) := by
        have := HOW.out
        rw [List.take_of_length_le (by rw [HNL.out]; omega)] at this
        rw [HNL.out]
        exact own_lessQ this (by omega)
      have HF := hid hfin
      clear hfin HOW
      go_wp2
      go_ret
      exact ⟨_, rfl, HF.out, G0.out.trans (HB.out.mono (by omega))⟩
end Go.Proofs.YtgoapnkdcfcjgaaGreat
/- The reference's Covering. -/
namespace Go.Proofs.YtgoapnkdcfcjgaaGreat
open Go.ChangeShapes Go.WideShapes Go.ChangeAt Go.RowKit
set_option linter.unusedVariables false
set_option linter.unusedSimpArgs false

set_option maxRecDepth 100000 in
set_option maxHeartbeats 1600000 in
theorem refCovering_any (v x : Value) (s : SchemaX) (q : QueryX) (w : World) (hv : SchemaV w w.heap.size v s) (hx : QueryV w w.heap.size x q) (hl : s.1.length ≤ 1000) (hq : q.1.length ≤ 1000) :
    Calls Tryz.prog 10 #[v, x] w (CovP (covX s q) w) := by
  obtain ⟨i0, hi, hz0, hz1, hz2⟩ := info_parts info_int
  have hv0 := hv; have hx0 := hx
  obtain ⟨A1, c1, A2, c2, A3, c3, rfl, -, -, -⟩ := hv
  obtain ⟨X1, d1, X2, d2, rfl, -, -⟩ := hx
  obtain ⟨W1, hW1⟩ : ∃ W, W = (w.alloc (.cells #[.slice A1 s.1.length c1, .slice A2 s.2.1.length c2, .slice A3 s.2.2.length c3] 26)).alloc (.cells #[.slice X1 q.1.length d1, .slice X2 q.2.length d2] 30) := ⟨_, rfl⟩
  obtain ⟨H, hH⟩ : ∃ H, H = w.heap.size := ⟨_, rfl⟩
  have g1 : Below H w W1 := by rw [hW1, hH]; exact (bl1 w _).alloc (by simp) _
  have z1 : W1.heap.size = H + 1 + 1 := by rw [hW1, hH]; simp
  have q0 : W1.cell? ⟨H, 0, none⟩ = some (.slice A1 s.1.length c1) := by rw [hW1, hH]; simp [go_sem]
  have q1 : W1.cell? ⟨H, 1, none⟩ = some (.slice A2 s.2.1.length c2) := by rw [hW1, hH]; simp [go_sem]
  have q2 : W1.cell? ⟨H, 2, none⟩ = some (.slice A3 s.2.2.length c3) := by rw [hW1, hH]; simp [go_sem]
  have q3 : W1.cell? ⟨H + 1, 0, none⟩ = some (.slice X1 q.1.length d1) := by rw [hW1, hH]; simp [go_sem]
  have q4 : W1.cell? ⟨H + 1, 1, none⟩ = some (.slice X2 q.2.length d2) := by rw [hW1, hH]; simp [go_sem]
  rw [← hH] at hv0 hx0
  have HN := hid (refMayQ_any _ _ s q W1 ((hv0.below g1).more (by omega)) ((hx0.below g1).more (by omega)) hl)
  have HND := hid (fun (W : World) (hb : Below H w W) (hz : H ≤ W.heap.size) (h0 : mayQ s q = 0) => refNeed_any (.agg #[.slice X1 q.1.length d1, .slice X2 q.2.length d2]) q W ((hx0.below hb).more hz) hq (fun f hf => (need_dim h0 f hf).1))
  have HVW := hid (fun (W : World) (hb : Below H w W) (hz : H ≤ W.heap.size) (hms : mayS s = true) => refViews_any (.agg #[.slice A1 s.1.length c1, .slice A2 s.2.1.length c2, .slice A3 s.2.2.length c3]) s W ((hv0.below hb).more hz) hl (by have := (mayS_views hms).1; omega))
  have HVI := hid (views_in hv0)
  have HNI := hid (need_in hx0)
  have HVL := hid (fun (hms : mayS s = true) => show (viewsX s).length ≤ 1000 by unfold viewsX; rw [List.length_cons]; have := (mayS_views hms).1; omega)
  have HMS := hid (fun (h : mayQ s q = 0) => (mayQ_yes h).1)
  have HW1 := hid hW1; have G1 := hid g1; have HH := hid hH; have Z1 := hid z1
  have HRY := hid (fun (h : mayQ s q = 0) => show covX s q = (coverI (viewsX s) (needQ q) (viewsX s).length, 0) from if_pos h)
  have HRN := hid (fun (h : mayQ s q ≠ 0) => show covX s q = ([], mayQ s q) from if_neg h)
  generalize covX s q = R at *
  unfold CovP
  rw [← hH]
  clear hv0 hx0 hW1 g1 hH z1
  generalize mayQ s q = mq at *
  generalize needQ q = need at *
  generalize s.2.2.length = n3 at *
  generalize s.1.length = n1 at *
  generalize s.2.1.length = n2 at *
  generalize q.1.length = m1 at *
  generalize q.2.length = m2 at *
  go_enter Tryz.func10, Tryz.ntmps10
  go_upto_region 1 with (fail)
  rw [← HW1.out, ← HH.out]
  go_wp2_with fail
  (with_reducible refine HN.out.mono ?_)
  rintro e w2 ⟨rfl, hb2⟩
  have hlt : H < W1.heap.size := by rw [Z1.out]; omega
  have hlt2 : H + 1 < W1.heap.size := by rw [Z1.out]; omega
  by_cases hmq : mq = 0
  · subst hmq
    have HMS9 := hid (HMS.out (Eq.refl (0 : Int)))
    have k0 := cellK hb2 hlt q0; have k1 := cellK hb2 hlt q1; have k2 := cellK hb2 hlt q2
    have k3 := cellK hb2 hlt2 q3; have k4 := cellK hb2 hlt2 q4
    have B2 := hid (G1.out.trans (hb2.mono (Nat.le_of_lt hlt)))
    have Z2 := hid (show H + 1 < w2.heap.size from Nat.lt_of_lt_of_le hlt2 hb2.size)
    have HVL2 := hid (HVL.out HMS9.out)
    have HN2 := hid (HND.out w2 B2.out (by have := Z2.out; omega) (by trivial))
    have HRY9 := hid (HRY.out (Eq.refl (0 : Int)))
    clear q0 q1 q2 q3 q4 hb2
    go_wp2_with fail
    (with_reducible refine HN2.out.mono ?_)
    rintro e w3 ⟨r, rfl, hr, hb3⟩
    obtain ⟨Ar, cr, rfl, -, -, -⟩ := own_cells hr
    have HRD := hid (rdInts_of_own rfl hr HNI.out)
    have k0 := cellK hb3 (show H < w2.heap.size by have := Z2.out; omega) k0; have k1 := cellK hb3 (show H < w2.heap.size by have := Z2.out; omega) k1; have k2 := cellK hb3 (show H < w2.heap.size by have := Z2.out; omega) k2
    have B3 := hid (B2.out.trans (hb3.mono (by have := Z2.out; omega)))
    have Z3 := hid (show H ≤ w3.heap.size by have := Z2.out; have := hb3.size; omega)
    have HVV := hid (HVW.out w3 B3.out Z3.out HMS9.out)
    unfold RVwP at HVV
    generalize hvs : viewsX s = vs at *
    clear hr hb3 hvs k3 k4
    obtain rfl := HRY9.out
    go_wp2_with fail
    (with_reducible refine HVV.out.mono ?_)
    rintro e w4 ⟨rv, rfl, hrv, hb4⟩
    obtain ⟨Av, cv, ev, hcv1, hcv2⟩ := hrv.open_
    simp only [List.cons.injEq, and_true] at ev
    subst ev
    have HRV := hid hrv
    have HRN3 := hid (good_ints.on HRD.out hb4)
    have B4 := hid (B3.out.trans (hb4.mono Z3.out))
    have Z4 := hid (show H ≤ w4.heap.size from Nat.le_trans Z3.out hb4.size)
    clear hrv hb4
    go_wp2
    go_loopw [9, 10] (fun out i wr => CvRel vs need w4 out i wr) (fun _ i _ => vs.length - (intOf i).toNat)
    case atStart => exact ⟨0, by omega, rfl, World.ownsRow_nil _ _ _ _, Below.refl _ _⟩
    case round =>
      obtain ⟨k, hk, rfl, hown, hb⟩ := hrel
      obtain ⟨Ao, co, rfl⟩ := own_formB hown
      have HB := hid hb; have HOW := hid hown
      have hs := hb.size
      clear hb hown
      by_cases hlt : k < vs.length
      · obtain ⟨b, off, AV, cV, rfl, hbl, p0, r0⟩ := row_at (good_rows.stays HRV.out HB.out) hlt
        have HC := hid (refCovers_any (.slice AV vs[k].length cV) (.slice Ar need.length cr) vs[k] need wr (good_ints.more r0 hs) (good_ints.on HRN3.out HB.out))
        have e1 := coverI_succ vs need k
        rw [List.getD_eq_getElem?_getD, List.getElem?_eq_getElem hlt, Option.getD_some] at e1
        generalize vs[k] = ns at *
        obtain ⟨hnc, hnm⟩ := r0.cap
        have hcl := coverI_len vs need k
        have hvl := HVL2.out
        have E1 := hid e1; have HCL := hid hcl
        clear e1 r0 hcl
        cases hcb : coversB ns need
        · rw [hcb] at HC E1
          rw [if_neg (by decide)] at E1
          go_wp2_with fail
          (with_reducible refine HC.out.mono ?_)
          rintro e w5 ⟨rfl, hq4⟩
          have HN4 := hid (show CvRel vs need w4 _ (.int .i64 ((k : Int) + 1)) w5 from ⟨k + 1, by omega, by go_num, by rw [E1.out]; exact own_kept HOW.out (fun g hg => (hq4.below wr.heap.size).block g (HOW.out.lt g hg).2), HB.out.trans (hq4.below _)⟩)
          clear hq4
          go_wp2
          go_roundw
          case rel => exact HN4.out
          case measure => simp [intOf]; omega
        · rw [hcb] at HC E1
          rw [if_pos rfl] at E1
          go_wp2_with fail
          (with_reducible refine HC.out.mono ?_)
          rintro e w5 ⟨rfl, hq4⟩
          have HO4 := hid (own_kept HOW.out (fun g hg => (hq4.below wr.heap.size).block g (HOW.out.lt g hg).2))
          have HB4 := hid (HB.out.trans (hq4.below _))
          have hs4 := HB4.out.size
          have hcl := HCL.out
          clear hq4
          go_wp2_with (at_builtin; refine stop_here ?_)
          refine go_on ?_
          refine app_own (.tmp 35) (.tmp 37) 27 27 rfl rfl w4.heap.size 3 i0 (.int .i64 0) 1 8 Tryz.underlying27 hi hz0 hz1 hz2 rfl (by decide) _ _ _ rfl (HO4.out.alloc _) (.slice (some ⟨w5.heap.size, 0, none⟩) 1 1) 1 (ivals [(k : Int)]) rfl (Src.ofSlice _ Tryz.underlying27 _ 1 1 _ rfl (cell_one_at' _ _ _ rfl) (by simp [ivals]; rfl)) (by simp only [maxLen]; omega) (by omega) (by rw [World.size_alloc]; omega) ?_
          intro v' w6 hown' hg' hb'
          have HN5 := hid (show CvRel vs need w4 v' (.int .i64 ((k : Int) + 1)) w6 from ⟨k + 1, by omega, by go_num, by rw [E1.out, ivals_snoc, List.length_append]; exact hown', ((HB4.out.alloc hs4 _).trans hb')⟩)
          clear hown' hg' hb'
          go_wp2
          go_roundw
          case rel => exact HN5.out
          case measure => simp [intOf]; omega
      · obtain rfl : k = vs.length := by omega
        go_wp2
        go_ret2
        exact ⟨.slice Ao _ co, rfl, own_lessQ HOW.out Z4.out, B4.out.trans (HB.out.mono Z4.out)⟩
  · have B2 := hid (G1.out.trans (hb2.mono (Nat.le_of_lt hlt)))
    obtain rfl := HRN.out hmq
    have hne' : (mq != 0) = true := by simpa using hmq
    have HNE := hid hmq
    clear q0 q1 q2 q3 q4 hb2 hmq
    go_wp2
    go_ret2
    exact ⟨_, rfl, World.ownsRow_nil _ _ _ _, B2.out⟩
end Go.Proofs.YtgoapnkdcfcjgaaGreat
