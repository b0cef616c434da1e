/- The walk of CellMay. -/
import Derived.Test.YtafmdpnfigkbfaaCellWalks
namespace Go.Proofs.Ytafmdpnfigkbfaa
open Go.ChangeShapes Go.WideShapes Go.ChangeAt Go.RowKit
set_option linter.unusedVariables false
set_option linter.unusedSimpArgs false

theorem emN_pos (m : Int) : emN (if m < 0 then 0 else m) = emN m := by unfold emN; split <;> (try split) <;> (try split) <;> omega
set_option maxRecDepth 100000 in
set_option maxHeartbeats 3200000 in
theorem walk_CellMay (w : World) (cs0 : Array Value) (x0 : CellX) (z0 : cs0.size = 4) (h0 : rdCell w w.heap.size cs0.toList x0) (m : Int) (hm : -9223372036854775808 ≤ m ∧ m ≤ 9223372036854775807) :
    Calls Try.prog 5 #[.agg cs0, .int .i64 m] w (Gives (.bool true) w) := by
  have hv := cell_of_rd h0
  generalize x0.cell = a at *
  clear z0 h0
  have hv' := hv
  obtain ⟨v1, v2, v3, e0, s1, s2, s3⟩ := hv
  rw [e0] at hv' ⊢
  clear e0
  obtain ⟨A1, c1, rfl, -, -⟩ := s1.formI
  obtain ⟨A2, c2, rfl, -, -⟩ := s2.formI
  obtain ⟨A3, c3, rfl, -, -⟩ := s3.formI
  clear s1 s2 s3
  have HM := hid (fun W (h : Below w.heap.size w W) => may_any _ a W ((hv'.below h).more h.size))
  have HR := hid (fun W (h : Below w.heap.size w W) => refMay_any _ a W ((hv'.below h).more h.size))
  clear hv'
  generalize mayC a = r at *
  have he2 : emN m ≤ 2 := by unfold emN; split <;> (try split) <;> omega
  have HE := hid (fun W => cellEmpty_any m W)
  have HX := hid (fun W => refEmpty_any (if m < 0 then 0 else m) W)
  rw [emN_pos] at HX
  generalize emN m = q at *
  have hs := fun v x W => refSameC_any v x (emptyC q) (emptyC q) W
  rw [decide_eq_true (show emptyC q = emptyC q from rfl)] at hs
  have HS := hid hs
  have hd := fun v W => may_any v (emptyC q) W
  rw [mayC_iff.2 (may_empty he2)] at hd
  have HD := hid hd
  clear hs hd he2
  have hrr : (r == r) = true := by simp
  go_enter Try.func5, Try.ntmps5
  go_wp2_with fail
  refine (HE.out _).mono ?_
  rintro e w1 ⟨y, rfl, hoc, hb1⟩
  have hr1 := hoc.read
  have hr1' := hr1
  obtain ⟨y1, y2, y3, rfl, s1, s2, s3⟩ := hr1
  obtain ⟨B1, b1, rfl, -, -⟩ := s1.formI
  obtain ⟨B2, b2, rfl, -, -⟩ := s2.formI
  obtain ⟨B3, b3, rfl, -, -⟩ := s3.formI
  clear s1 s2 s3 hoc
  have q1 : Below w.heap.size w w1 := (by refine Below.trans ?_ (Below.mono hb1 ?_) <;> first | exact (by repeat' first | with_reducible exact Below.refl _ _ | assumption | (with_reducible refine Below.alloc ?_ ?_ _) | (with_reducible refine Below.setCell ?_ ?_ _) | (with_reducible refine Below.drew ?_) | (with_reducible refine below_drewN ?_ _) | (with_reducible refine Below.trans ?_ (Below.mono ‹_› ?_)) | omega | (with_reducible refine le_alloc ?_) | (with_reducible refine le_setCell ?_) | (with_reducible refine le_drew ?_) | (with_reducible refine le_drewN ?_) | (with_reducible refine Nat.le_trans ?_ (Below.size ‹_›)) | (simp <;> omega)))
  have z1 : w.heap.size < w1.heap.size := by have := hb1.size; simp at this; omega
  have k1 : Blk w1 w.heap.size (.int .i64 a.n) (.slice A1 a.s.length c1) (.slice A2 a.lo.length c2) (.slice A3 a.hi.length c3) := Blk.below (by constructor <;> simp [go_sem]) hb1 (by simp <;> omega)
  obtain ⟨W1, hW1⟩ : ∃ W, W = w1.alloc (.cells #[.int .i64 (emptyC q).n, .slice B1 (emptyC q).s.length b1, .slice B2 (emptyC q).lo.length b2, .slice B3 (emptyC q).hi.length b3] 26) := ⟨_, rfl⟩
  have ka : Blk W1 w.heap.size (.int .i64 a.n) (.slice A1 a.s.length c1) (.slice A2 a.lo.length c2) (.slice A3 a.hi.length c3) := by rw [hW1]; exact k1.alloc z1 _
  have kd : Blk W1 w1.heap.size (.int .i64 (emptyC q).n) (.slice B1 (emptyC q).s.length b1) (.slice B2 (emptyC q).lo.length b2) (.slice B3 (emptyC q).hi.length b3) := by rw [hW1]; exact Blk.new _ _ _ _ _ _
  have qa : Below w1.heap.size w1 W1 := by rw [hW1]; exact bl1 _ _
  have zW : W1.heap.size = w1.heap.size + 1 := by rw [hW1]; simp
  have HR1 := hid hr1'; have KA := hid ka; have KD := hid kd; have QA := hid qa; have Q1 := hid q1; have HW1 := hid hW1
  clear hb1 hr1' k1 ka kd qa q1 hW1
  have hsp : (m < 0 ∧ (if m < 0 then 0 else m) = 0) ∨ (¬ m < 0 ∧ (if m < 0 then 0 else m) = m) := by
    by_cases h : m < 0
    · exact .inl ⟨h, if_pos h⟩
    · exact .inr ⟨h, if_neg h⟩
  rcases hsp with ⟨z, zz⟩ | ⟨z, zz⟩
  all_goals
    rw [zz] at HX
    clear zz
    go_wp2
    rw [← HW1.out]
    obtain ⟨d0, d1, d2, d3, -, -, -, -⟩ := KD.out
    go_region_held3 (fun w' => w'.cell? ⟨w1.heap.size, 0, none⟩ = some (.int .i64 (emptyC q).n) ∧ w'.cell? ⟨w1.heap.size, 1, none⟩ = some (.slice B1 (emptyC q).s.length b1) ∧ w'.cell? ⟨w1.heap.size, 2, none⟩ = some (.slice B2 (emptyC q).lo.length b2) ∧ w'.cell? ⟨w1.heap.size, 3, none⟩ = some (.slice B3 (emptyC q).hi.length b3)) (go_keep)
      (first
        | (go_at_call 18; refine (HX.out _).mono ?_; rintro e w2 ⟨y2, rfl, hr2, hb2⟩; have B2' := hid ((Below.refl W1.heap.size W1).drew.trans hb2); have HR2 := hid hr2; have KD2 := hid (KD.out.below B2'.out (by omega)); obtain ⟨d4, d5, d6, d7, -, -, -, -⟩ := KD2.out; clear hb2 hr2)
        | (go_at_call 13; refine (HS.out _ _ _ ((HR1.out.below (QA.out.trans (B2'.out.mono (by omega)))).more (by have := B2'.out.size; omega)) HR2.out).mono ?_; rintro e w3 ⟨rfl, hb3⟩; have B3' := hid (B2'.out.trans (hb3.mono B2'.out.size)); have KD3 := hid (KD.out.below B3'.out (by omega)); obtain ⟨d8, d9, d10, d11, -, -, -, -⟩ := KD3.out; clear hb3))
    have KA3 := hid (KA.out.below B3'.out (by omega))
    have s3 := B3'.out.size
    have QW := hid ((Q1.out.trans (QA.out.mono (by omega))).trans (B3'.out.mono (by omega)))
    obtain ⟨f0, f1, f2, f3, -, -, -, -⟩ := KA3.out
    go_wp2
    go_region_held3 (fun w' => w'.cell? ⟨w.heap.size, 0, none⟩ = some (.int .i64 a.n) ∧ w'.cell? ⟨w.heap.size, 1, none⟩ = some (.slice A1 a.s.length c1) ∧ w'.cell? ⟨w.heap.size, 2, none⟩ = some (.slice A2 a.lo.length c2) ∧ w'.cell? ⟨w.heap.size, 3, none⟩ = some (.slice A3 a.hi.length c3) ∧ w'.cell? ⟨w1.heap.size, 0, none⟩ = some (.int .i64 (emptyC q).n) ∧ w'.cell? ⟨w1.heap.size, 1, none⟩ = some (.slice B1 (emptyC q).s.length b1) ∧ w'.cell? ⟨w1.heap.size, 2, none⟩ = some (.slice B2 (emptyC q).lo.length b2) ∧ w'.cell? ⟨w1.heap.size, 3, none⟩ = some (.slice B3 (emptyC q).hi.length b3)) (go_keep)
      (first
        | (go_at_call_of 19 (Value.agg #[.int .i64 a.n, .slice A1 a.s.length c1, .slice A2 a.lo.length c2, .slice A3 a.hi.length c3]); refine (HM.out _ QW.out.drew).mono ?_; rintro e w4 ⟨rfl, hb4⟩; have B4 := hid ((Below.refl w3.heap.size w3).drew.trans hb4); have K4 := hid (KA3.out.below B4.out (by omega)); have L4 := hid (KD3.out.below B4.out (by omega)); obtain ⟨g0, g1, g2, g3, -, -, -, -⟩ := K4.out; obtain ⟨g4, g5, g6, g7, -, -, -, -⟩ := L4.out; clear hb4)
        | (go_at_call 20; refine (HR.out _ (QW.out.trans (B4.out.mono (by omega)))).mono ?_; rintro e w5 ⟨rfl, hb5⟩; have B5 := hid (B4.out.trans (hb5.mono B4.out.size)); have K5 := hid (KA3.out.below B5.out (by omega)); have L5 := hid (KD3.out.below B5.out (by omega)); obtain ⟨g8, g9, g10, g11, -, -, -, -⟩ := K5.out; obtain ⟨g12, g13, g14, g15, -, -, -, -⟩ := L5.out; clear hb5)
        | (go_at_call 19; refine (HD.out _ _ ((HR1.out.below ((QA.out.trans (B3'.out.mono (by omega))).trans (B5.out.mono (by omega)))).more (by have := B5.out.size; omega))).mono ?_; rintro e w6 ⟨rfl, hb6⟩; have B6 := hid (B5.out.trans (hb6.mono B5.out.size)); have K6 := hid (KA3.out.below B6.out (by omega)); have L6 := hid (KD3.out.below B6.out (by omega)); obtain ⟨g16, g17, g18, g19, -, -, -, -⟩ := K6.out; obtain ⟨g20, g21, g22, g23, -, -, -, -⟩ := L6.out; clear hb6)
        | (go_at_call 14; refine (lives_true _).mono ?_; rintro e w7 ⟨rfl, hb7⟩; have B7 := hid (B6.out.trans (hb7.mono B6.out.size)); have K7 := hid (KA3.out.below B7.out (by omega)); have L7 := hid (KD3.out.below B7.out (by omega)); obtain ⟨g24, g25, g26, g27, -, -, -, -⟩ := K7.out; obtain ⟨g28, g29, g30, g31, -, -, -, -⟩ := L7.out; clear hb7))
    go_wp2
    go_ret
    exact ⟨rfl, QW.out.trans (B7.out.mono (by omega))⟩
end Go.Proofs.Ytafmdpnfigkbfaa
