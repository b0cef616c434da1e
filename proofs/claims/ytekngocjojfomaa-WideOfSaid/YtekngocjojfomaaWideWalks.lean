/- The walks of the six laws of layer 4. -/
import Derived.Test.YtekngocjojfomaaWideLaw
namespace Go.Proofs.Ytekngocjojfomaa
open Go.ChangeShapes Go.WideShapes Go.ChangeAt Go.RowKit
set_option linter.unusedVariables false

set_option maxHeartbeats 800000 in
theorem walk_WideOf (n : Int) (hn : -9223372036854775808 ≤ n ∧ n ≤ 9223372036854775807) (w : World) :
    Calls Try.prog 3 #[.int .i64 n] w (Gives (.bool true) w) := by
  have ho := wideOf_any n
  have hmay : MayB (n / 4294967296) (n % 4294967296) = true := by unfold MayB; rw [decide_eq_true_eq]; omega
  have hint := fun W => wideInt_yes (n / 4294967296) (n % 4294967296) W hmay (by omega) (by omega)
  rw [show n / 4294967296 * 4294967296 + n % 4294967296 = n by omega] at hint
  have his := fun v W h => is_yes v n W h (by omega) (by omega)
  have hm := wideMay_any (n / 4294967296) (n % 4294967296)
  rw [hmay] at hm
  have e1 : (n == n) = true := by simp
  unfold wval at ho hint his hm
  generalize n / 4294967296 = a at *
  generalize n % 4294967296 = b at *
  have HO := hid ho; have HI := hid hint; have HS := hid his; have HM := hid hm
  clear ho hint his hm hn hmay
  go_enter Try.func3, Try.ntmps3
  go_wp2_with fail
  refine (HO.out _).mono ?_
  rintro e w1 ⟨rfl, hb1⟩
  go_wp2_with fail
  refine (HI.out _).mono ?_
  rintro e w2 ⟨rfl, hb2⟩
  have hl2 : w1.heap.size < w2.heap.size := by have := hb2.size; simp at this; omega
  have z0 := cellK (b := w1.heap.size) (o := 0) hb2 (by simp) (v := .int .i64 a) (by simp [go_sem])
  have z1 := cellK (b := w1.heap.size) (o := 1) hb2 (by simp) (v := .int .i64 b) (by simp [go_sem])
  go_wp2
  go_region_held3 (fun w' => w'.cell? ⟨w1.heap.size, 0, none⟩ = some (.int .i64 a) ∧ w'.cell? ⟨w1.heap.size, 1, none⟩ = some (.int .i64 b)) (go_keep)
    (first
      | (go_at_call 19; refine (refOf_any _ _).mono ?_; rintro e w3 ⟨vr, rfl, hvr, hb3⟩; have y0 := cellK hb3 hl2 z0; have y1 := cellK hb3 hl2 z1)
      | (go_at_call 18; refine (HS.out _ _ hvr).mono ?_; rintro e w4 ⟨rfl, hb4⟩; have x0 := cellK (hb4.mono hb3.size) hl2 y0; have x1 := cellK (hb4.mono hb3.size) hl2 y1))
  go_wp2_with fail
  refine (HM.out _).mono ?_
  rintro e w5 ⟨rfl, hb5⟩
  go_wp2_with fail
  refine (lives_true _).mono ?_
  rintro e w6 ⟨rfl, hb6⟩
  go_wp2
  go_ret
  exact ⟨rfl, (by repeat' first | with_reducible exact Below.refl _ _ | assumption | (with_reducible refine Below.alloc ?_ ?_ _) | (with_reducible refine Below.setCell ?_ ?_ _) | (with_reducible refine Below.drew ?_) | (with_reducible refine below_drewN ?_ _) | (with_reducible refine Below.trans ?_ (Below.mono ‹_› ?_)) | omega | (with_reducible refine le_alloc ?_) | (with_reducible refine le_setCell ?_) | (with_reducible refine le_drew ?_) | (with_reducible refine le_drewN ?_) | (with_reducible refine Nat.le_trans ?_ (Below.size ‹_›)) | (simp <;> omega))⟩
end Go.Proofs.Ytekngocjojfomaa
