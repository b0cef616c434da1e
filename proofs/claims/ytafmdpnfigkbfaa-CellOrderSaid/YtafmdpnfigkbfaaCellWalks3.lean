/- The walk of CellParts. -/
import Derived.Test.YtafmdpnfigkbfaaCellFew
import Derived.Deep.Cut
import Derived.Deep.DeepCutAuto
namespace Go.Proofs.Ytafmdpnfigkbfaa
open Go.ChangeShapes Go.WideShapes Go.ChangeAt Go.RowKit
set_option linter.unusedVariables false
set_option linter.unusedSimpArgs false

theorem RowsI.tail {w : World} {B n c : Nat} {A : Option Addr} {l : List (List Int)} (h : RowsI w B (.slice A n c) l) (a : Nat) (ha : a ≤ n) :
    RowsI w B (.slice (if c = a then A else Option.map (fun x => x.add a) A) (n - a) (c - a)) (l.drop a) := by
  obtain ⟨A', c', e, h1, h2, h3⟩ := h
  injection e with e1 e2 e3
  subst e1; subst e2; subst e3
  refine ⟨_, _, by rw [List.length_drop], by rw [List.length_drop]; omega, by omega, fun i hi => ?_⟩
  rw [List.length_drop] at hi
  obtain ⟨b, off, u, rfl, g2, g3, g4⟩ := h3 (a + i) (by omega)
  refine ⟨b, off + a, u, ?_, g2, by rw [Nat.add_assoc]; exact g3, ?_⟩
  · rw [if_neg (by omega)]
    simp [Addr.add]
  · rw [show (l.drop a).getD i [] = l.getD (a + i) [] by rw [List.getD_eq_getElem?_getD, List.getD_eq_getElem?_getD, List.getElem?_drop]]
    exact g4
theorem rdRows {w : World} {B : Nat} {v : Value} {l : List (List Int)} (h : rdSlice 1 (rdSlice 1 rdInt) w B [v] l) : RowsI w B v l := by
  obtain ⟨A, c, rfl, h1, h2⟩ := h.form
  refine ⟨A, c, rfl, h1, h2, fun i hi => ?_⟩
  obtain ⟨b, off, e, hb, es, g1, g2, g3⟩ := h.at_ hi
  obtain ⟨u, rfl, hs⟩ := ints_sl g3
  refine ⟨b, off, u, e, hb, ?_, ?_⟩
  · have := g2 0 u rfl
    rwa [Nat.mul_one, Nat.add_zero] at this
  · rw [List.getD_eq_getElem?_getD, List.getElem?_eq_getElem hi]; exact hs
theorem opens_rowsI : Opens Try.prog 22 1 (rdSlice 1 (rdSlice 1 rdInt)) :=
  opens_slice (e := 24) (good_slice good_int) Try.underlying22 opens_intsI (by kernel_rfl) (by omega)
theorem fewL_len (m : Nat) (l : List (List Int)) : (fewL m l).length ≤ m := by unfold fewL; rw [List.length_map, List.length_take]; omega
theorem parts_ways {c1 c2 c3 : CellM} {k1 k2 k3 : Int} (hA : (k1 = 1 ∨ k2 = 1) → k3 = 1) (hB : (k1 ≠ 1 ∧ k2 ≠ 1) → k3 = 0 ∨ k3 = 14) (hC : k1 = 0 → k2 = 0 → (c3, k3) = mergeC c1 c2 ∧ mayC c1 = true ∧ mayC c2 = true) :
    ((k1 == 1) = true ∧ k3 = 1) ∨ ((k1 == 1) = false ∧ (k2 == 1) = true ∧ k3 = 1) ∨ ((k1 == 1) = false ∧ (k2 == 1) = false ∧ (k1 != 0) = true ∧ (k3 = 0 ∨ k3 = 14)) ∨
    ((k1 == 1) = false ∧ (k2 == 1) = false ∧ (k1 != 0) = false ∧ (k2 != 0) = true ∧ (k3 = 0 ∨ k3 = 14)) ∨ (k1 = 0 ∧ k2 = 0 ∧ (c3, k3) = mergeC c1 c2 ∧ mayC c1 = true ∧ mayC c2 = true) := by
  by_cases h1 : k1 = 1
  · exact .inl ⟨by simpa using h1, hA (.inl h1)⟩
  by_cases h2 : k2 = 1
  · exact .inr (.inl ⟨by simpa using h1, by simpa using h2, hA (.inr h2)⟩)
  by_cases h3 : k1 = 0
  · by_cases h4 : k2 = 0
    · exact .inr (.inr (.inr (.inr ⟨h3, h4, hC h3 h4⟩)))
    · exact .inr (.inr (.inr (.inl ⟨by simpa using h1, by simpa using h2, by simpa using h3, by simpa using h4, hB ⟨h1, h2⟩⟩)))
  · exact .inr (.inr (.inl ⟨by simpa using h1, by simpa using h2, by simpa using h3, hB ⟨h1, h2⟩⟩))
set_option maxRecDepth 100000 in
set_option maxHeartbeats 3200000 in
theorem walk_CellParts (w : World) (m : Int) (hm : -9223372036854775808 ≤ m ∧ m ≤ 9223372036854775807) (v : Value) (l : List (List Int)) (hl : rdSlice 1 (rdSlice 1 rdInt) w w.heap.size [v] l) (at_ : Int) (hat : -9223372036854775808 ≤ at_ ∧ at_ ≤ 9223372036854775807) :
    Calls Try.prog 7 #[.int .i64 m, v, .int .i64 at_] w (Gives (.bool true) w) := by
  have HFW := hid (few_any 40 v l w (rdRows hl) (by omega))
  have hL := fewL_len 40 l
  generalize fewL 40 l = L at *
  clear hl
  obtain ⟨x, hx, hx0, hx1⟩ : ∃ x : Int, ((at_ < 0 ∧ x = -(at_ + 1)) ∨ (¬ at_ < 0 ∧ x = at_)) ∧ 0 ≤ x ∧ x ≤ 9223372036854775807 := by
    by_cases h : at_ < 0
    · exact ⟨_, .inl ⟨h, rfl⟩, by omega, by omega⟩
    · exact ⟨_, .inr ⟨h, rfl⟩, by omega, by omega⟩
  obtain ⟨a, haL, ha⟩ : ∃ a : Nat, a ≤ L.length ∧ x % ((L.length : Int) + 1) = (a : Int) := ⟨(x % ((L.length : Int) + 1)).toNat, by
    have := Int.emod_lt_of_pos x (show (0 : Int) < (L.length : Int) + 1 by omega); omega, by
    have := Int.emod_nonneg x (show (L.length : Int) + 1 ≠ 0 by omega); omega⟩
  have hsplit : L.take a ++ L.drop a = L := List.take_append_drop a L
  have hfp := fold_parts (m := m) (l := L.take a) (k := L.drop a) (by rw [hsplit]; omega)
  rw [hsplit] at hfp
  have HF1 := hid (fun v W (h : RowsI W W.heap.size v (L.take a)) => (fold_any m v (L.take a) W h (by rw [List.length_take]; omega)).mono fun _ _ hp => MOwnPost.lit hp)
  have HF2 := hid (fun v W (h : RowsI W W.heap.size v (L.drop a)) => (fold_any m v (L.drop a) W h (by rw [List.length_drop]; omega)).mono fun _ _ hp => MOwnPost.lit hp)
  have HF3 := hid (fun v W (h : RowsI W W.heap.size v L) => (fold_any m v L W h (by omega)).mono fun _ _ hp => MOwnPost.lit hp)
  generalize foldC m (L.take a) = r1 at *
  generalize foldC m (L.drop a) = r2 at *
  generalize foldC m L = r3 at *
  obtain ⟨⟨n1, s1, lo1, hi1⟩, k1⟩ := r1
  obtain ⟨⟨n2, s2, lo2, hi2⟩, k2⟩ := r2
  obtain ⟨⟨n3, s3, lo3, hi3⟩, k3⟩ := r3
  simp only at hfp HF1 HF2 HF3
  have hways := parts_ways hfp.1 hfp.2.1 hfp.2.2
  have HWS := hid hways
  clear hways hfp hsplit
  go_enter Try.func7, Try.ntmps7
  have HXX := hid hx; have HA := hid ha
  clear hx ha
  go_upto_if 19 with (go_at_call 10; refine HFW.out.mono ?_; rintro e w1 ⟨v1, rfl, hr1, hb1⟩; have HR0 := hid hr1; have HB1 := hid hb1; obtain ⟨A, c, rfl, hc, hcm, -⟩ := hr1; unfold maxLen at hcm; have s1' := hb1.size; have HR1 := hid HR0.out; clear hb1 HR0)
  go_cut [2] (fun s2 wx => s2 = .int .i64 x ∧ w1 = wx)
  case first =>
    rcases HXX.out with ⟨h, h'⟩ | ⟨h, h'⟩
    · have H' := hid h'; clear h'
      go_wp2
      go_meet
      case rel => exact ⟨by rw [H'.out], rfl⟩
    · have H' := hid h'; clear h'
      go_wp2
      go_meet
      case rel => exact ⟨by rw [H'.out], rfl⟩
  case rest =>
  obtain ⟨rfl, rfl⟩ := hcut
  have ha := HA.out
  have TA := hid (fun (h : c = a) => show RowsI w1 w1.heap.size (.slice A 0 0) (L.drop a) by
    have := HR1.out.tail a haL
    rwa [if_pos h, show c - a = 0 by omega, show L.length - a = 0 by omega] at this)
  have TB := hid (fun (h : ¬ c = a) => show RowsI w1 w1.heap.size (.slice (Option.map (fun x => x.add a) A) (L.length - a) (c - a)) (L.drop a) by
    have := HR1.out.tail a haL
    rwa [if_neg h] at this)
  go_wp2_with fail
  refine (HF1.out _ _ (HR1.out.head a haL)).mono ?_
  rintro e w2 ⟨B1, b1, B2, b2, B3, b3, rfl, hr2, hb2⟩
  have s2' := hb2.size
  have HR2 := hid hr2; have HB2 := hid hb2
  have g2 : Below w1.heap.size w1 (w2.alloc (.cells #[.int .i64 n1, .slice B1 s1.length b1, .slice B2 lo1.length b2, .slice B3 hi1.length b3] 26)) := hb2.trans ((bl1 w2 _).mono s2')
  have G2 := hid g2
  clear hb2 hr2 g2
  by_cases hca : c = a
  case' pos =>
    have TAH := hid (TA.out hca)
    subst hca
    go_wp2_with fail
    refine (HF2.out _ _ ((TAH.out.below G2.out).more G2.out.size)).mono ?_
  case' neg =>
    have TAH := hid (TB.out hca)
    go_wp2_with fail
    refine (HF2.out _ _ ((TAH.out.below G2.out).more G2.out.size)).mono ?_
  all_goals
    rintro e w3 ⟨C1, c1, C2, c2, C3, c3, rfl, hr3, hb3⟩
    have q3 : Below w2.heap.size w2 w3 := (by refine Below.trans ?_ (Below.mono hb3 ?_) <;> first | exact (by repeat' first | with_reducible exact Below.refl _ _ | assumption | (with_reducible refine Below.alloc ?_ ?_ _) | (with_reducible refine Below.setCell ?_ ?_ _) | (with_reducible refine Below.drew ?_) | (with_reducible refine below_drewN ?_ _) | (with_reducible refine Below.trans ?_ (Below.mono ‹_› ?_)) | omega | (with_reducible refine le_alloc ?_) | (with_reducible refine le_setCell ?_) | (with_reducible refine le_drew ?_) | (with_reducible refine le_drewN ?_) | (with_reducible refine Nat.le_trans ?_ (Below.size ‹_›)) | (simp <;> omega)))
    have s3' := q3.size
    have s3z : w2.heap.size < w3.heap.size := by have := hb3.size; simp at this; omega
    have k2' : Blk w3 w2.heap.size (.int .i64 n1) (.slice B1 s1.length b1) (.slice B2 lo1.length b2) (.slice B3 hi1.length b3) := Blk.below (by constructor <;> simp [go_sem]) hb3 (by simp <;> omega)
    have g3 : Below w1.heap.size w1 (w3.alloc (.cells #[.int .i64 n2, .slice C1 s2.length c1, .slice C2 lo2.length c2, .slice C3 hi2.length c3] 26)) := (HB2.out.trans (q3.mono s2')).trans ((bl1 w3 _).mono (by omega))
    have G3 := hid g3; have HR3 := hid hr3; have K2 := hid k2'; have Q3 := hid q3
    clear hb3 hr3 k2' g3 q3
    go_wp2_with fail
    refine (HF3.out _ _ ((HR1.out.below G3.out).more G3.out.size)).mono ?_
    rintro e w4 ⟨D1, d1, D2, d2, D3, d3, rfl, hr4, hb4⟩
    have q4 : Below w3.heap.size w3 w4 := (by refine Below.trans ?_ (Below.mono hb4 ?_) <;> first | exact (by repeat' first | with_reducible exact Below.refl _ _ | assumption | (with_reducible refine Below.alloc ?_ ?_ _) | (with_reducible refine Below.setCell ?_ ?_ _) | (with_reducible refine Below.drew ?_) | (with_reducible refine below_drewN ?_ _) | (with_reducible refine Below.trans ?_ (Below.mono ‹_› ?_)) | omega | (with_reducible refine le_alloc ?_) | (with_reducible refine le_setCell ?_) | (with_reducible refine le_drew ?_) | (with_reducible refine le_drewN ?_) | (with_reducible refine Nat.le_trans ?_ (Below.size ‹_›)) | (simp <;> omega)))
    have s4' := q4.size
    have s4z : w3.heap.size < w4.heap.size := by have := hb4.size; simp at this; omega
    have k3' : Blk w4 w3.heap.size (.int .i64 n2) (.slice C1 s2.length c1) (.slice C2 lo2.length c2) (.slice C3 hi2.length c3) := Blk.below (by constructor <;> simp [go_sem]) hb4 (by simp <;> omega)
    have k4' : Blk w4 w2.heap.size (.int .i64 n1) (.slice B1 s1.length b1) (.slice B2 lo1.length b2) (.slice B3 hi1.length b3) := K2.out.below q4 s3z
    have HR4 := hid hr4; have K3 := hid k3'; have K4 := hid k4'; have Q4 := hid q4
    have HW4 := hid (HB1.out.trans (((HB2.out.trans (Q3.out.mono s2')).trans (q4.mono (by omega))).mono s1'))
    clear hb4 hr4 k3' k4' q4
    rcases HWS.out with ⟨y1, rfl⟩ | ⟨y1, y2, rfl⟩ | ⟨y1, y2, y3, y4⟩ | ⟨y1, y2, y3, y4, y5⟩ | ⟨rfl, rfl, hr, hm1, hm2⟩
    · go_wp2_with fail
      refine (lives_true _).mono ?_
      rintro e w5 ⟨rfl, hb5⟩
      have HB5 := hid hb5
      clear hb5
      go_wp2
      go_ret
      exact ⟨rfl, (HW4.out.trans ((bl1 w4 _).mono (by omega))).trans (HB5.out.mono (by simp; omega))⟩
    · go_wp2_with fail
      refine (lives_true _).mono ?_
      rintro e w5 ⟨rfl, hb5⟩
      have HB5 := hid hb5
      clear hb5
      go_wp2
      go_ret
      exact ⟨rfl, (HW4.out.trans ((bl1 w4 _).mono (by omega))).trans (HB5.out.mono (by simp; omega))⟩
    · rcases y4 with rfl | rfl
      all_goals
        go_wp2_with fail
        refine (lives_true _).mono ?_
        rintro e w5 ⟨rfl, hb5⟩
        have HB5 := hid hb5
        clear hb5
        go_wp2
        go_ret
        exact ⟨rfl, (HW4.out.trans ((bl1 w4 _).mono (by omega))).trans (HB5.out.mono (by simp; omega))⟩
    · rcases y5 with rfl | rfl
      all_goals
        go_wp2_with fail
        refine (lives_true _).mono ?_
        rintro e w5 ⟨rfl, hb5⟩
        have HB5 := hid hb5
        clear hb5
        go_wp2
        go_ret
        exact ⟨rfl, (HW4.out.trans ((bl1 w4 _).mono (by omega))).trans (HB5.out.mono (by simp; omega))⟩
    · have HMG := hid (fun v x W h1 h2 => (merge_any v x ⟨n1, s1, lo1, hi1⟩ ⟨n2, s2, lo2, hi2⟩ W h1 h2).mono fun _ _ hp => MOwnPost.lit hp)
      rw [← hr] at HMG
      simp only at HMG
      have hs := fun v x W => refSameC_any v x ⟨n3, s3, lo3, hi3⟩ ⟨n3, s3, lo3, hi3⟩ W
      rw [decide_eq_true (show (⟨n3, s3, lo3, hi3⟩ : CellM) = ⟨n3, s3, lo3, hi3⟩ from rfl)] at hs
      have HS := hid hs
      have hy1 := fun v W => may_any v ⟨n1, s1, lo1, hi1⟩ W
      have hy2 := fun v W => may_any v ⟨n2, s2, lo2, hi2⟩ W
      rw [hm1] at hy1
      rw [hm2] at hy2
      have HY1 := hid hy1; have HY2 := hid hy2
      have hkk : (k3 == k3) = true := by simp
      clear hs hy1 hy2 hr hm1 hm2
      have a4 : Below w4.heap.size w4 (w4.alloc (.cells #[.int .i64 n3, .slice D1 s3.length d1, .slice D2 lo3.length d2, .slice D3 hi3.length d3] 26)) := bl1 _ _
      have z4 : (w4.alloc (.cells #[.int .i64 n3, .slice D1 s3.length d1, .slice D2 lo3.length d2, .slice D3 hi3.length d3] 26)).heap.size = w4.heap.size + 1 := World.size_alloc _ _
      have A4 := hid a4
      have KA := hid (K4.out.alloc (by omega) (.cells #[.int .i64 n3, .slice D1 s3.length d1, .slice D2 lo3.length d2, .slice D3 hi3.length d3] 26))
      have KB := hid (K3.out.alloc s4z (.cells #[.int .i64 n3, .slice D1 s3.length d1, .slice D2 lo3.length d2, .slice D3 hi3.length d3] 26))
      clear a4
      obtain ⟨f0, f1, f2, f3, -, -, -, -⟩ := KA.out
      obtain ⟨f4, f5, f6, f7, -, -, -, -⟩ := KB.out
      go_wp2_with fail
      refine (HMG.out _ _ _ ((HR2.out.below (Q3.out.trans ((Q4.out.trans (A4.out.mono s4')).mono s3'))).more (by omega)) ((HR3.out.below (Q4.out.trans (A4.out.mono s4'))).more (by omega))).mono ?_
      rintro e w5 ⟨E1, e1, E2, e2, E3, e3, rfl, hr5, hb5⟩
      have q5 : Below w4.heap.size w4 w5 := A4.out.trans (hb5.mono (by omega))
      have s5' := q5.size
      have s5z : w4.heap.size < w5.heap.size := by have := hb5.size; omega
      have a5 : Below w5.heap.size w5 (w5.alloc (.cells #[.int .i64 n3, .slice E1 s3.length e1, .slice E2 lo3.length e2, .slice E3 hi3.length e3] 26)) := bl1 _ _
      have z5 : (w5.alloc (.cells #[.int .i64 n3, .slice E1 s3.length e1, .slice E2 lo3.length e2, .slice E3 hi3.length e3] 26)).heap.size = w5.heap.size + 1 := World.size_alloc _ _
      have kc : Blk w5 w4.heap.size (.int .i64 n3) (.slice D1 s3.length d1) (.slice D2 lo3.length d2) (.slice D3 hi3.length d3) := (Blk.new w4 _ _ _ _ _).below hb5 (by omega)
      have KC := hid (kc.alloc s5z (.cells #[.int .i64 n3, .slice E1 s3.length e1, .slice E2 lo3.length e2, .slice E3 hi3.length e3] 26))
      have KA5 := hid ((KA.out.below hb5 (by omega)).alloc (by omega) (.cells #[.int .i64 n3, .slice E1 s3.length e1, .slice E2 lo3.length e2, .slice E3 hi3.length e3] 26))
      have KB5 := hid ((KB.out.below hb5 (by omega)).alloc (by omega) (.cells #[.int .i64 n3, .slice E1 s3.length e1, .slice E2 lo3.length e2, .slice E3 hi3.length e3] 26))
      have HR5 := hid hr5; have Q5 := hid q5; have A5 := hid a5
      clear hb5 hr5 q5 a5 kc f0 f1 f2 f3 f4 f5 f6 f7
      obtain ⟨f0, f1, f2, f3, -, -, -, -⟩ := KC.out
      go_wp2_with fail
      refine (HS.out _ _ _ ((HR4.out.below (Q5.out.trans (A5.out.mono s5'))).more (by omega)) ((HR5.out.below A5.out).more (by omega))).mono ?_
      rintro e w6 ⟨rfl, hb6⟩
      have q6 : Below w5.heap.size w5 w6 := A5.out.trans (hb6.mono (by omega))
      have s6' := q6.size
      have KA6 := hid (KA5.out.below hb6 (by omega))
      have KB6 := hid (KB5.out.below hb6 (by omega))
      have Q6 := hid q6
      have R1 := hid (Q3.out.trans ((Q4.out.trans ((Q5.out.trans (Q6.out.mono s5')).mono s4')).mono s3'))
      have R2 := hid (Q4.out.trans ((Q5.out.trans (Q6.out.mono s5')).mono s4'))
      obtain ⟨f8, f9, f10, f11, -, -, -, -⟩ := KA6.out
      clear hb6 q6 f0 f1 f2 f3
      go_wp2_with fail
      refine (HY1.out _ _ ((HR2.out.below R1.out).more (by omega))).mono ?_
      rintro e w7 ⟨rfl, hb7⟩
      have s7' := hb7.size
      have KB7 := hid (KB6.out.below hb7 (by omega))
      have Q7 := hid hb7
      obtain ⟨f12, f13, f14, f15, -, -, -, -⟩ := KB7.out
      clear hb7 f8 f9 f10 f11
      go_wp2_with fail
      refine (HY2.out _ _ ((HR3.out.below (R2.out.trans (Q7.out.mono (by omega)))).more (by omega))).mono ?_
      rintro e w8 ⟨rfl, hb8⟩
      have s8' := hb8.size
      have Q8 := hid hb8
      clear hb8
      go_wp2_with fail
      refine (lives_true _).mono ?_
      rintro e w9 ⟨rfl, hb9⟩
      have Q9 := hid hb9
      clear hb9
      go_wp2
      go_ret
      exact ⟨rfl, HW4.out.trans ((Q5.out.trans ((Q6.out.trans ((Q7.out.trans ((Q8.out.trans (Q9.out.mono s8')).mono s7')).mono s6')).mono s5')).mono (by omega))⟩
end Go.Proofs.Ytafmdpnfigkbfaa
