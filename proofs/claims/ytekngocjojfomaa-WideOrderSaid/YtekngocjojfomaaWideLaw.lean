/- What the statements' own helpers answer: is, right, lives (layer 4). -/
import Derived.Test.YtekngocjojfomaaWideRef3
import Derived.Test.YtekngocjojfomaaWide2
namespace Go.Proofs.Ytekngocjojfomaa
open Go.ChangeShapes Go.WideShapes Go.ChangeAt Go.RowKit
set_option linter.unusedVariables false

set_option maxHeartbeats 400000 in
theorem is_yes (v : Value) (z : Int) (w : World) (hv : Sl w w.heap.size v (ivals (bits z 80))) (h1 : -604462909807314587353088 ≤ z) (h2 : z < 604462909807314587353088) :
    Calls Try.prog 18 #[wval (z / 4294967296) (z % 4294967296), v] w (Gives (.bool true) w) := by
  have hp := fun W h => parts_any v z W h h1 h2
  unfold PartsPost at hp
  generalize z / 4294967296 = a at *
  generalize z % 4294967296 = b at *
  have HP := hid hp; have HV := hid hv
  clear hp hv h1 h2
  have e1 : (a == a) = true := by simp
  have e2 : (b == b) = true := by simp
  go_enter Try.func18, Try.ntmps18
  unfold wval
  go_wp2_with fail
  refine (HP.out _ ((HV.out.below (bl1 _ _)).more (by simp))).mono ?_
  rintro e w1 ⟨rfl, nq, rfl⟩
  go_wp2
  go_ret
  exact ⟨rfl, (by repeat' first | with_reducible exact Below.refl _ _ | assumption | (with_reducible refine Below.alloc ?_ ?_ _) | (with_reducible refine Below.setCell ?_ ?_ _) | (with_reducible refine Below.drew ?_) | (with_reducible refine below_drewN ?_ _) | (with_reducible refine Below.trans ?_ (Below.mono ‹_› ?_)) | omega | (with_reducible refine le_alloc ?_) | (with_reducible refine le_setCell ?_) | (with_reducible refine le_drew ?_) | (with_reducible refine le_drewN ?_) | (with_reducible refine Nat.le_trans ?_ (Below.size ‹_›)) | (simp <;> omega))⟩

set_option maxHeartbeats 400000 in
theorem right_yes (v : Value) (z : Int) (w : World) (hv : Sl w w.heap.size v (ivals (bits z 80))) (h1 : -604462909807314587353088 ≤ z) (h2 : z < 604462909807314587353088) (hm : RefMayB (z / 4294967296) (z % 4294967296) = true) :
    Calls Try.prog 26 #[wval (z / 4294967296) (z % 4294967296), .int .i64 0, v] w (Gives (.bool true) w) := by
  have hp := fun W h => parts_any v z W h h1 h2
  unfold PartsPost at hp
  generalize z / 4294967296 = a at *
  generalize z % 4294967296 = b at *
  have HP := hid hp; have HV := hid hv
  clear hp hv h1 h2
  have e1 : (a == a) = true := by simp
  have e2 : (b == b) = true := by simp
  go_enter Try.func26, Try.ntmps26
  unfold wval
  go_wp2_with fail
  refine (HP.out _ ((HV.out.below (bl1 _ _)).more (by simp))).mono ?_
  rintro e w1 ⟨rfl, nq, rfl⟩
  go_wp2_with fail
  refine (refMay_any a b _).mono ?_
  rintro e w1 ⟨rfl, rfl⟩
  go_wp2
  go_ret
  exact ⟨rfl, (by repeat' first | with_reducible exact Below.refl _ _ | assumption | (with_reducible refine Below.alloc ?_ ?_ _) | (with_reducible refine Below.setCell ?_ ?_ _) | (with_reducible refine Below.drew ?_) | (with_reducible refine below_drewN ?_ _) | (with_reducible refine Below.trans ?_ (Below.mono ‹_› ?_)) | omega | (with_reducible refine le_alloc ?_) | (with_reducible refine le_setCell ?_) | (with_reducible refine le_drew ?_) | (with_reducible refine le_drewN ?_) | (with_reducible refine Nat.le_trans ?_ (Below.size ‹_›)) | (simp <;> omega))⟩
set_option maxHeartbeats 400000 in
theorem right_no (v : Value) (z : Int) (w : World) (hv : Sl w w.heap.size v (ivals (bits z 80))) (h1 : -604462909807314587353088 ≤ z) (h2 : z < 604462909807314587353088) (hm : RefMayB (z / 4294967296) (z % 4294967296) = false) :
    Calls Try.prog 26 #[wval 0 0, .int .i64 14, v] w (Gives (.bool true) w) := by
  have hp := fun W h => parts_any v z W h h1 h2
  unfold PartsPost at hp
  generalize z / 4294967296 = a at *
  generalize z % 4294967296 = b at *
  have HP := hid hp; have HV := hid hv
  clear hp hv h1 h2
  go_enter Try.func26, Try.ntmps26
  unfold wval
  go_wp2_with fail
  refine (HP.out _ ((HV.out.below (bl1 _ _)).more (by simp))).mono ?_
  rintro e w1 ⟨rfl, nq, rfl⟩
  go_wp2_with fail
  refine (refMay_any a b _).mono ?_
  rintro e w1 ⟨rfl, rfl⟩
  go_wp2
  go_ret
  exact ⟨rfl, (by repeat' first | with_reducible exact Below.refl _ _ | assumption | (with_reducible refine Below.alloc ?_ ?_ _) | (with_reducible refine Below.setCell ?_ ?_ _) | (with_reducible refine Below.drew ?_) | (with_reducible refine below_drewN ?_ _) | (with_reducible refine Below.trans ?_ (Below.mono ‹_› ?_)) | omega | (with_reducible refine le_alloc ?_) | (with_reducible refine le_setCell ?_) | (with_reducible refine le_drew ?_) | (with_reducible refine le_drewN ?_) | (with_reducible refine Nat.le_trans ?_ (Below.size ‹_›)) | (simp <;> omega))⟩

theorem sl_lit (w : World) (l : List Int) (n : Nat) (hn : l.length = n) (hn' : n ≤ 1000) : Sl (w.alloc (.cells (ivals l).toArray 3)) (w.heap.size + 1) (.slice (some ⟨w.heap.size, 0, none⟩) n n) (ivals l) := by
  subst hn
  refine ⟨_, _, by rw [ivals_len], by rw [ivals_len]; exact Nat.le_refl _, by unfold maxLen; omega, fun _ => ⟨w.heap.size, 0, rfl, by omega, fun j u hu => ?_⟩⟩
  rw [World.cell?_alloc_at _ _ _ _ rfl]
  simpa using hu
set_option maxHeartbeats 800000 in
theorem lives_true (w : World) : Calls Try.prog 21 #[] w (Gives (.bool true) w) := by
  have ht := fun W h => wideTotal_any (.slice (some ⟨w.heap.size, 0, none⟩) 3 3) [9223372036854775807, 1, 1] W (by decide) h (by decide)
  rw [show FitsV (([9223372036854775807, 1, 1] : List Int).sum / 4294967296) (([9223372036854775807, 1, 1] : List Int).sum % 4294967296) = #[wval 2147483648 1, .int .i64 0] by kernel_rfl] at ht
  have HT := hid ht; clear ht
  have hi1 := fun W => wideInt_no 2147483648 0 W (by decide) (by omega)
  have hi2 := fun W => wideInt_bad 0 (-1) W (by decide)
  have ho := wideOf_any (-1)
  rw [show wval (-1 / 4294967296) (-1 % 4294967296) = wval (-1) 4294967295 by kernel_rfl] at ho
  unfold wval at hi1 hi2 ho
  have H1 := hid hi1; have H2 := hid hi2; have HO := hid ho
  clear hi1 hi2 ho
  go_enter Try.func21, Try.ntmps21
  go_wp2_with fail
  refine (HT.out _ ((sl_lit w [9223372036854775807, 1, 1] 3 rfl (by omega)).more (by simp))).mono ?_
  rintro e w1 ⟨rfl, hb1⟩
  unfold wval
  go_wp2_with fail
  refine (H1.out _).mono ?_
  rintro e w2 ⟨rfl, hb2⟩
  go_wp2_with fail
  refine (H2.out _).mono ?_
  rintro e w3 ⟨rfl, hb3⟩
  have hl2 : w1.heap.size < w2.heap.size := by have := hb2.size; simp at this; omega
  have z0 := cellK (b := w1.heap.size) (o := 0) hb2 (by simp) (v := .int .i64 2147483648) (by simp [go_sem])
  have z1 := cellK (b := w1.heap.size) (o := 1) hb2 (by simp) (v := .int .i64 1) (by simp [go_sem])
  have y0 := cellK hb3 hl2 z0
  have y1 := cellK hb3 hl2 z1
  go_wp2_with fail
  refine (HO.out _).mono ?_
  rintro e w4 ⟨rfl, hb4⟩
  have x0 := cellK (hb4.mono hb3.size) hl2 y0
  have x1 := cellK (hb4.mono hb3.size) hl2 y1
  go_wp2
  go_ret
  exact ⟨rfl, (by repeat' first | with_reducible exact Below.refl _ _ | assumption | (with_reducible refine Below.alloc ?_ ?_ _) | (with_reducible refine Below.setCell ?_ ?_ _) | (with_reducible refine Below.drew ?_) | (with_reducible refine below_drewN ?_ _) | (with_reducible refine Below.trans ?_ (Below.mono ‹_› ?_)) | omega | (with_reducible refine le_alloc ?_) | (with_reducible refine le_setCell ?_) | (with_reducible refine le_drew ?_) | (with_reducible refine le_drewN ?_) | (with_reducible refine Nat.le_trans ?_ (Below.size ‹_›)) | (simp <;> omega))⟩
end Go.Proofs.Ytekngocjojfomaa
