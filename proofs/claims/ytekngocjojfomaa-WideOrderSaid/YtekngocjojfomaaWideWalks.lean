/- The walks of the six laws of layer 4. -/
import Derived.Test.YtekngocjojfomaaWideLaw
namespace Go.Proofs.Ytekngocjojfomaa
open Go.ChangeShapes Go.WideShapes Go.ChangeAt Go.RowKit
set_option linter.unusedVariables false

set_option maxHeartbeats 800000 in
theorem walk_WideOf (w : World) (n : Int) (hn : -9223372036854775808 ≤ n ∧ n ≤ 9223372036854775807) :
    Calls Try.prog 3 #[.int .i64 n] w (Gives (.bool true) w) := by
  have ho := wideOf_any n
  have hmay : MayB (n / 4294967296) (n % 4294967296) = true := by unfold MayB; rw [decide_eq_true_eq]; omega
  have hint := fun W => wideInt_yes (n / 4294967296) (n % 4294967296) W hmay (by omega) (by omega)
  rw [show n / 4294967296 * 4294967296 + n % 4294967296 = n by omega] at hint
  have his := fun v W h => is_yes v n W h (by omega) (by omega)
  have hm := wideMay_any (n / 4294967296) (n % 4294967296)
  rw [hmay] at hm
  have e1 : (n == n) = true := by simp
  unfold wval at ho hint his hm
  generalize n / 4294967296 = a at *
  generalize n % 4294967296 = b at *
  have HO := hid ho; have HI := hid hint; have HS := hid his; have HM := hid hm
  clear ho hint his hm hn hmay
  go_enter Try.func3, Try.ntmps3
  go_wp2_with fail
  refine (HO.out _).mono ?_
  rintro e w1 ⟨rfl, hb1⟩
  go_wp2_with fail
  refine (HI.out _).mono ?_
  rintro e w2 ⟨rfl, hb2⟩
  have hl2 : w1.heap.size < w2.heap.size := by have := hb2.size; simp at this; omega
  have z0 := cellK (b := w1.heap.size) (o := 0) hb2 (by simp) (v := .int .i64 a) (by simp [go_sem])
  have z1 := cellK (b := w1.heap.size) (o := 1) hb2 (by simp) (v := .int .i64 b) (by simp [go_sem])
  go_wp2
  go_region_held3 (fun w' => w'.cell? ⟨w1.heap.size, 0, none⟩ = some (.int .i64 a) ∧ w'.cell? ⟨w1.heap.size, 1, none⟩ = some (.int .i64 b)) (go_keep)
    (first
      | (go_at_call 19; refine (refOf_any _ _).mono ?_; rintro e w3 ⟨vr, rfl, hvr, hb3⟩; have y0 := cellK hb3 hl2 z0; have y1 := cellK hb3 hl2 z1)
      | (go_at_call 18; refine (HS.out _ _ hvr).mono ?_; rintro e w4 ⟨rfl, hb4⟩; have x0 := cellK (hb4.mono hb3.size) hl2 y0; have x1 := cellK (hb4.mono hb3.size) hl2 y1))
  go_wp2_with fail
  refine (HM.out _).mono ?_
  rintro e w5 ⟨rfl, hb5⟩
  go_wp2_with fail
  refine (lives_true _).mono ?_
  rintro e w6 ⟨rfl, hb6⟩
  go_wp2
  go_ret
  exact ⟨rfl, (by repeat' first | with_reducible exact Below.refl _ _ | assumption | (with_reducible refine Below.alloc ?_ ?_ _) | (with_reducible refine Below.setCell ?_ ?_ _) | (with_reducible refine Below.drew ?_) | (with_reducible refine below_drewN ?_ _) | (with_reducible refine Below.trans ?_ (Below.mono ‹_› ?_)) | omega | (with_reducible refine le_alloc ?_) | (with_reducible refine le_setCell ?_) | (with_reducible refine le_drew ?_) | (with_reducible refine le_drewN ?_) | (with_reducible refine Nat.le_trans ?_ (Below.size ‹_›)) | (simp <;> omega))⟩

theorem mayB_eq (a b : Int) : RefMayB a b = MayB a b := by unfold RefMayB MayB; rw [decide_eq_decide]; omega
set_option maxHeartbeats 800000 in
theorem walk_WideInts (w : World) (a : Int) (ha : -9223372036854775808 ≤ a ∧ a ≤ 9223372036854775807) (b : Int) (hbb : -9223372036854775808 ≤ b ∧ b ≤ 9223372036854775807) :
    Calls Try.prog 4 #[.int .i64 a, .int .i64 b] w (Gives (.bool true) w) := by
  clear ha hbb
  have hm0 := refMay_any a b
  have hm1 := wideMay_any a b
  rw [mayB_eq] at hm0
  unfold wval at hm1
  by_cases hmay : MayB a b = true
  · have hbd := may_bounds hmay
    have hrw := fun W => refWide_any a b W (by omega) (by omega)
    have hri := fun v W h => refInt_any v (a * 4294967296 + b) W h (by omega) (by omega)
    unfold RefIntPost at hri
    have e0 : ((0 : Int) == 0) = true := by simp
    by_cases hf : FitsI (a * 4294967296 + b) = true
    · have hf' := fits_of hf
      have hint := fun W => wideInt_yes a b W hmay (by omega) (by omega)
      simp only [hf, if_true] at hri
      unfold RefWidePost at hrw
      unfold wval at hint
      rw [hmay] at hm0 hm1
      generalize a * 4294967296 + b = z at *
      have e1 : (z == z) = true := by simp
      have HI := hid hint; have HM0 := hid hm0; have HM1 := hid hm1; have HW := hid hrw; have HR := hid hri
      clear hint hm0 hm1 hrw hri hbd hf hf' hmay
      go_enter Try.func4, Try.ntmps4
      go_wp2_with fail
      refine (HM0.out _).mono ?_
      rintro e w1 ⟨rfl, rfl⟩
      go_wp2_with fail
      refine (HI.out _).mono ?_
      rintro e w2 ⟨rfl, hb2⟩
      have hl2 : w.heap.size < w2.heap.size := by have := hb2.size; simp at this; omega
      have z0 := cellK (b := w.heap.size) (o := 0) hb2 (by simp) (v := .int .i64 a) (by simp [go_sem])
      have z1 := cellK (b := w.heap.size) (o := 1) hb2 (by simp) (v := .int .i64 b) (by simp [go_sem])
      go_wp2_with fail
      refine (HW.out _).mono ?_
      rintro e w3 ⟨vr, rfl, hvr, hb3⟩
      have y0 := cellK hb3 hl2 z0
      have y1 := cellK hb3 hl2 z1
      go_wp2_with fail
      refine (HR.out _ _ hvr).mono ?_
      rintro e w4 ⟨rfl, nq, rfl⟩
      go_wp2_with fail
      refine (HM1.out _).mono ?_
      rintro e w5 ⟨rfl, hb5⟩
      go_wp2_with fail
      refine (lives_true _).mono ?_
      rintro e w6 ⟨rfl, hb6⟩
      go_wp2
      go_ret
      exact ⟨rfl, (by repeat' first | with_reducible exact Below.refl _ _ | assumption | (with_reducible refine Below.alloc ?_ ?_ _) | (with_reducible refine Below.setCell ?_ ?_ _) | (with_reducible refine Below.drew ?_) | (with_reducible refine below_drewN ?_ _) | (with_reducible refine Below.trans ?_ (Below.mono ‹_› ?_)) | omega | (with_reducible refine le_alloc ?_) | (with_reducible refine le_setCell ?_) | (with_reducible refine le_drew ?_) | (with_reducible refine le_drewN ?_) | (with_reducible refine Nat.le_trans ?_ (Below.size ‹_›)) | (simp <;> omega))⟩
    · have hint := fun W => wideInt_no a b W hmay (by
        rcases Int.lt_or_le a (-2147483648) with h | h
        · exact .inl h
        · rcases Int.lt_or_le a 2147483648 with h' | h'
          · exact absurd (by unfold FitsI; rw [decide_eq_true_eq]; omega) hf
          · exact .inr h')
      simp only [hf] at hri
      unfold RefWidePost at hrw
      unfold wval at hint
      rw [hmay] at hm0 hm1
      generalize a * 4294967296 + b = z at *
      have e1 : ((14 : Int) == 14) = true := by simp
      have HI := hid hint; have HM0 := hid hm0; have HM1 := hid hm1; have HW := hid hrw; have HR := hid hri
      clear hint hm0 hm1 hrw hri hbd hf hmay
      go_enter Try.func4, Try.ntmps4
      go_wp2_with fail
      refine (HM0.out _).mono ?_
      rintro e w1 ⟨rfl, rfl⟩
      go_wp2_with fail
      refine (HI.out _).mono ?_
      rintro e w2 ⟨rfl, hb2⟩
      have hl2 : w.heap.size < w2.heap.size := by have := hb2.size; simp at this; omega
      have z0 := cellK (b := w.heap.size) (o := 0) hb2 (by simp) (v := .int .i64 a) (by simp [go_sem])
      have z1 := cellK (b := w.heap.size) (o := 1) hb2 (by simp) (v := .int .i64 b) (by simp [go_sem])
      go_wp2_with fail
      refine (HW.out _).mono ?_
      rintro e w3 ⟨vr, rfl, hvr, hb3⟩
      have y0 := cellK hb3 hl2 z0
      have y1 := cellK hb3 hl2 z1
      go_wp2_with fail
      refine (HR.out _ _ hvr).mono ?_
      rintro e w4 ⟨rfl, nq, rfl⟩
      go_wp2_with fail
      refine (HM1.out _).mono ?_
      rintro e w5 ⟨rfl, hb5⟩
      go_wp2_with fail
      refine (lives_true _).mono ?_
      rintro e w6 ⟨rfl, hb6⟩
      go_wp2
      go_ret
      exact ⟨rfl, (by repeat' first | with_reducible exact Below.refl _ _ | assumption | (with_reducible refine Below.alloc ?_ ?_ _) | (with_reducible refine Below.setCell ?_ ?_ _) | (with_reducible refine Below.drew ?_) | (with_reducible refine below_drewN ?_ _) | (with_reducible refine Below.trans ?_ (Below.mono ‹_› ?_)) | omega | (with_reducible refine le_alloc ?_) | (with_reducible refine le_setCell ?_) | (with_reducible refine le_drew ?_) | (with_reducible refine le_drewN ?_) | (with_reducible refine Nat.le_trans ?_ (Below.size ‹_›)) | (simp <;> omega))⟩
  · have hmay' : MayB a b = false := by simpa using hmay
    have hint := fun W => wideInt_bad a b W hmay'
    unfold wval at hint
    rw [hmay'] at hm0 hm1
    have e0 : ((0 : Int) == 0) = true := by simp
    have e1 : ((1 : Int) == 1) = true := by simp
    have HI := hid hint; have HM0 := hid hm0; have HM1 := hid hm1
    clear hint hm0 hm1 hmay hmay'
    go_enter Try.func4, Try.ntmps4
    go_wp2_with fail
    refine (HM0.out _).mono ?_
    rintro e w1 ⟨rfl, rfl⟩
    go_wp2_with fail
    refine (HI.out _).mono ?_
    rintro e w2 ⟨rfl, hb2⟩
    have hl2 : w.heap.size < w2.heap.size := by have := hb2.size; simp at this; omega
    have z0 := cellK (b := w.heap.size) (o := 0) hb2 (by simp) (v := .int .i64 a) (by simp [go_sem])
    have z1 := cellK (b := w.heap.size) (o := 1) hb2 (by simp) (v := .int .i64 b) (by simp [go_sem])
    go_wp2_with fail
    refine (HM1.out _).mono ?_
    rintro e w5 ⟨rfl, hb5⟩
    go_wp2_with fail
    refine (lives_true _).mono ?_
    rintro e w6 ⟨rfl, hb6⟩
    go_wp2
    go_ret
    exact ⟨rfl, (by repeat' first | with_reducible exact Below.refl _ _ | assumption | (with_reducible refine Below.alloc ?_ ?_ _) | (with_reducible refine Below.setCell ?_ ?_ _) | (with_reducible refine Below.drew ?_) | (with_reducible refine below_drewN ?_ _) | (with_reducible refine Below.trans ?_ (Below.mono ‹_› ?_)) | omega | (with_reducible refine le_alloc ?_) | (with_reducible refine le_setCell ?_) | (with_reducible refine le_drew ?_) | (with_reducible refine le_drewN ?_) | (with_reducible refine Nat.le_trans ?_ (Below.size ‹_›)) | (simp <;> omega))⟩
end Go.Proofs.Ytekngocjojfomaa
