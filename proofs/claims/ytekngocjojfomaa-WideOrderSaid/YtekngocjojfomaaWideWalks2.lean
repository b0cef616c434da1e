/- The walks of the laws of layer 4: WideTotals, WideAdds. -/
import Derived.Test.YtekngocjojfomaaWideWalks
namespace Go.Proofs.Ytekngocjojfomaa
open Go.ChangeShapes Go.WideShapes Go.ChangeAt Go.RowKit
set_option linter.unusedVariables false

theorem small_sum (l : List Int) (n : Nat) (hn : l.length ≤ n) (hn' : n ≤ 60) (hr : ∀ x ∈ l, -9223372036854775808 ≤ x ∧ x ≤ 9223372036854775807) :
    -604462909807314587353088 ≤ l.sum ∧ l.sum < 604462909807314587353088 ∧ MayB (l.sum / 4294967296) (l.sum % 4294967296) = true := by
  have := sum_bounds l hr
  have h1 : -9223372036854775808 * 60 ≤ l.sum := by omega
  have h2 : l.sum ≤ 9223372036854775808 * 60 := by omega
  refine ⟨by omega, by omega, ?_⟩
  unfold MayB; rw [decide_eq_true_eq]; omega
theorem Sl.front {w : World} {B : Nat} {A : Option Addr} {n c k : Nat} {l : List Int} (h : Sl w B (.slice A n c) (ivals l)) (hk : k ≤ l.length) : Sl w B (.slice A k c) (ivals (l.take k)) := by
  obtain ⟨A', c', e, h2, h3, h4⟩ := h
  injection e with e1 e2 e3
  subst e1; subst e3
  rw [ivals_len] at *
  have hl : (l.take k).length = k := by rw [List.length_take]; omega
  refine ⟨A, c, by rw [ivals_len, hl], by rw [ivals_len]; omega, h3, fun h0 => ?_⟩
  rw [ivals_len] at h0
  obtain ⟨b, off, hA, hb, hc⟩ := h4 (by omega)
  refine ⟨b, off, hA, hb, fun j u hu => hc j u ?_⟩
  unfold ivals at *
  rw [List.map_take, List.getElem?_take] at hu
  split at hu
  · exact hu
  · cases hu

set_option maxHeartbeats 800000 in
theorem walk_WideTotals (w : World) (v : Value) (l : List Int) (hv : Sl w w.heap.size v (ivals l)) (hr : ∀ x ∈ l, -9223372036854775808 ≤ x ∧ x ≤ 9223372036854775807) :
    Calls Try.prog 5 #[v] w (Gives (.bool true) w) := by
  have hv0 := hv
  obtain ⟨A, c, rfl, hc1, hc2, hA⟩ := hv
  rw [ivals_len] at hv0 hA hc1 ⊢
  obtain ⟨n, l', hn, hv', hlen, hr', hcase⟩ : ∃ (n : Nat) (l' : List Int), n ≤ 60 ∧ Sl w w.heap.size (.slice A n c) (ivals l') ∧ l'.length = n ∧ (∀ x ∈ l', -9223372036854775808 ≤ x ∧ x ≤ 9223372036854775807) ∧ ((l.length ≤ 60 ∧ n = l.length) ∨ (60 < l.length ∧ n = 60)) := by
    rcases Nat.lt_or_ge 60 l.length with h | h
    · exact ⟨60, l.take 60, by omega, hv0.front (by omega), by rw [List.length_take]; omega, fun x hx => hr x (List.mem_of_mem_take hx), .inr ⟨h, rfl⟩⟩
    · exact ⟨l.length, l, h, hv0, rfl, hr, .inl ⟨h, rfl⟩⟩
  obtain ⟨s1, s2, s3⟩ := small_sum l' n (by omega) hn hr'
  have ht := fun W h => wideTotal_any (.slice A n c) l' W (by omega) h hr'
  have htr := fun W h => refTotal_any (.slice A n c) l' W (by omega) h
  have hrt := fun vr W h => right_yes vr l'.sum W h s1 s2 (by rw [mayB_eq]; exact s3)
  unfold FitsV at ht
  simp only [s3, if_true] at ht
  unfold wval at ht hrt
  generalize l'.sum / 4294967296 = a at *
  generalize l'.sum % 4294967296 = b at *
  have HV := hid hv'; have HT := hid ht; have HTR := hid htr; have HRT := hid hrt; have HA := hid hA; have HC := hid hcase
  clear hv0 hA hv' hlen hr' hcase s1 s2 s3 ht htr hrt hr
  go_enter Try.func5, Try.ntmps5
  rcases HC.out with ⟨h, rfl⟩ | ⟨h, rfl⟩
  · go_wp2_with fail
    refine (HT.out _ HV.out).mono ?_
    rintro e w1 ⟨rfl, hb1⟩
    go_wp2
    go_region_held3 (fun w' => w'.cell? ⟨w1.heap.size, 0, none⟩ = some (.int .i64 a) ∧ w'.cell? ⟨w1.heap.size, 1, none⟩ = some (.int .i64 b)) (go_keep)
      (first
        | (go_at_call 27; refine (HTR.out _ ((HV.out.below (by repeat' first | with_reducible exact Below.refl _ _ | assumption | (with_reducible refine Below.alloc ?_ ?_ _) | (with_reducible refine Below.setCell ?_ ?_ _) | (with_reducible refine Below.drew ?_) | (with_reducible refine below_drewN ?_ _) | (with_reducible refine Below.trans ?_ (Below.mono ‹_› ?_)) | omega | (with_reducible refine le_alloc ?_) | (with_reducible refine le_setCell ?_) | (with_reducible refine le_drew ?_) | (with_reducible refine le_drewN ?_) | (with_reducible refine Nat.le_trans ?_ (Below.size ‹_›)) | (simp <;> omega))).more (by repeat' first | with_reducible exact Below.refl _ _ | assumption | (with_reducible refine Below.alloc ?_ ?_ _) | (with_reducible refine Below.setCell ?_ ?_ _) | (with_reducible refine Below.drew ?_) | (with_reducible refine below_drewN ?_ _) | (with_reducible refine Below.trans ?_ (Below.mono ‹_› ?_)) | omega | (with_reducible refine le_alloc ?_) | (with_reducible refine le_setCell ?_) | (with_reducible refine le_drew ?_) | (with_reducible refine le_drewN ?_) | (with_reducible refine Nat.le_trans ?_ (Below.size ‹_›)) | (simp <;> omega)))).mono ?_; rintro e w3 ⟨vr, rfl, hvr, hb3⟩; have y0 := cellK hb3 (by simp) (v := .int .i64 a) (b := w1.heap.size) (o := 0) (by simp [go_sem]); have y1 := cellK hb3 (by simp) (v := .int .i64 b) (b := w1.heap.size) (o := 1) (by simp [go_sem]))
        | (go_at_call 26; refine (HRT.out _ _ hvr).mono ?_; rintro e w4 ⟨rfl, hb4⟩; have hl3 : w1.heap.size < w3.heap.size := lt_of_below hb3 (by simp); have x0 := cellK hb4 hl3 y0; have x1 := cellK hb4 hl3 y1))
    go_wp2_with fail
    refine (lives_true _).mono ?_
    rintro e w6 ⟨rfl, hb6⟩
    go_wp2
    go_ret
    exact ⟨rfl, (by repeat' first | with_reducible exact Below.refl _ _ | assumption | (with_reducible refine Below.alloc ?_ ?_ _) | (with_reducible refine Below.setCell ?_ ?_ _) | (with_reducible refine Below.drew ?_) | (with_reducible refine below_drewN ?_ _) | (with_reducible refine Below.trans ?_ (Below.mono ‹_› ?_)) | omega | (with_reducible refine le_alloc ?_) | (with_reducible refine le_setCell ?_) | (with_reducible refine le_drew ?_) | (with_reducible refine le_drewN ?_) | (with_reducible refine Nat.le_trans ?_ (Below.size ‹_›)) | (simp <;> omega))⟩
  · obtain ⟨b', off, rfl, hbl, hcell⟩ := HA.out (by omega)
    have HCell := hid hcell; clear hcell
    go_wp2_with fail
    refine (HT.out _ HV.out).mono ?_
    rintro e w1 ⟨rfl, hb1⟩
    go_wp2
    go_region_held3 (fun w' => w'.cell? ⟨w1.heap.size, 0, none⟩ = some (.int .i64 a) ∧ w'.cell? ⟨w1.heap.size, 1, none⟩ = some (.int .i64 b)) (go_keep)
      (first
        | (go_at_call 27; refine (HTR.out _ ((HV.out.below (by repeat' first | with_reducible exact Below.refl _ _ | assumption | (with_reducible refine Below.alloc ?_ ?_ _) | (with_reducible refine Below.setCell ?_ ?_ _) | (with_reducible refine Below.drew ?_) | (with_reducible refine below_drewN ?_ _) | (with_reducible refine Below.trans ?_ (Below.mono ‹_› ?_)) | omega | (with_reducible refine le_alloc ?_) | (with_reducible refine le_setCell ?_) | (with_reducible refine le_drew ?_) | (with_reducible refine le_drewN ?_) | (with_reducible refine Nat.le_trans ?_ (Below.size ‹_›)) | (simp <;> omega))).more (by repeat' first | with_reducible exact Below.refl _ _ | assumption | (with_reducible refine Below.alloc ?_ ?_ _) | (with_reducible refine Below.setCell ?_ ?_ _) | (with_reducible refine Below.drew ?_) | (with_reducible refine below_drewN ?_ _) | (with_reducible refine Below.trans ?_ (Below.mono ‹_› ?_)) | omega | (with_reducible refine le_alloc ?_) | (with_reducible refine le_setCell ?_) | (with_reducible refine le_drew ?_) | (with_reducible refine le_drewN ?_) | (with_reducible refine Nat.le_trans ?_ (Below.size ‹_›)) | (simp <;> omega)))).mono ?_; rintro e w3 ⟨vr, rfl, hvr, hb3⟩; have y0 := cellK hb3 (by simp) (v := .int .i64 a) (b := w1.heap.size) (o := 0) (by simp [go_sem]); have y1 := cellK hb3 (by simp) (v := .int .i64 b) (b := w1.heap.size) (o := 1) (by simp [go_sem]))
        | (go_at_call 26; refine (HRT.out _ _ hvr).mono ?_; rintro e w4 ⟨rfl, hb4⟩; have hl3 : w1.heap.size < w3.heap.size := lt_of_below hb3 (by simp); have x0 := cellK hb4 hl3 y0; have x1 := cellK hb4 hl3 y1))
    go_wp2_with fail
    refine (lives_true _).mono ?_
    rintro e w6 ⟨rfl, hb6⟩
    go_wp2
    go_ret
    exact ⟨rfl, (by repeat' first | with_reducible exact Below.refl _ _ | assumption | (with_reducible refine Below.alloc ?_ ?_ _) | (with_reducible refine Below.setCell ?_ ?_ _) | (with_reducible refine Below.drew ?_) | (with_reducible refine below_drewN ?_ _) | (with_reducible refine Below.trans ?_ (Below.mono ‹_› ?_)) | omega | (with_reducible refine le_alloc ?_) | (with_reducible refine le_setCell ?_) | (with_reducible refine le_drew ?_) | (with_reducible refine le_drewN ?_) | (with_reducible refine Nat.le_trans ?_ (Below.size ‹_›)) | (simp <;> omega))⟩

set_option maxHeartbeats 1600000 in
theorem walk_WideAdds (w : World) (a b : Int) (_ : -9223372036854775808 ≤ a ∧ a ≤ 9223372036854775807) (_ : -9223372036854775808 ≤ b ∧ b ≤ 9223372036854775807) (c d : Int) (_ : -9223372036854775808 ≤ c ∧ c ≤ 9223372036854775807) (_ : -9223372036854775808 ≤ d ∧ d ≤ 9223372036854775807) : Calls Try.prog 6 #[wval a b, wval c d] w (Gives (.bool true) w) := by
  have hm0 := refMay_any a b
  have hm1 := refMay_any c d
  rw [mayB_eq] at hm0 hm1
  have e0 : ((0 : Int) == 0) = true := by simp
  have e1 : ((1 : Int) == 1) = true := by simp
  by_cases h1 : MayB a b = true ∧ MayB c d = true
  · obtain ⟨h1, h2⟩ := h1
    have ba := may_bounds h1
    have bc := may_bounds h2
    have hadd := fun W => wideAdd_ok a b c d W h1 h2
    have hadd2 := fun W => wideAdd_ok c d a b W h2 h1
    rw [show c + a + (d + b) / 4294967296 = a + c + (b + d) / 4294967296 by omega, show (d + b) % 4294967296 = (b + d) % 4294967296 by omega] at hadd2
    have hw1 := fun W => refWide_any a b W (by omega) (by omega)
    have hw2 := fun W => refWide_any c d W (by omega) (by omega)
    have hra := fun u v W => refAdd_any u v (a * 4294967296 + b) (c * 4294967296 + d) W
    have hz : (a * 4294967296 + b + (c * 4294967296 + d)) / 4294967296 = a + c + (b + d) / 4294967296 ∧ (a * 4294967296 + b + (c * 4294967296 + d)) % 4294967296 = (b + d) % 4294967296 := by omega
    have hry := fun v W h => right_yes v (a * 4294967296 + b + (c * 4294967296 + d)) W h (by omega) (by omega)
    have hrn := fun v W h => right_no v (a * 4294967296 + b + (c * 4294967296 + d)) W h (by omega) (by omega)
    rw [hz.1, hz.2, mayB_eq] at hry hrn
    rw [h1] at hm0
    rw [h2] at hm1
    unfold FitsV at hadd hadd2
    clear ba bc hz
    generalize a + c + (b + d) / 4294967296 = A at *
    generalize (b + d) % 4294967296 = B at *
    have fin : ∀ (x y n : Int) (hq : (x == x) = true) (hq2 : (y == y) = true) (hq3 : (n == n) = true) (hx : ∀ W, Calls Try.prog 28 #[.agg #[.int .i64 a, .int .i64 b], .agg #[.int .i64 c, .int .i64 d]] W (Gives (.tuple #[.agg #[.int .i64 x, .int .i64 y], .int .i64 n]) W))
        (hx2 : ∀ W, Calls Try.prog 28 #[.agg #[.int .i64 c, .int .i64 d], .agg #[.int .i64 a, .int .i64 b]] W (Gives (.tuple #[.agg #[.int .i64 x, .int .i64 y], .int .i64 n]) W))
        (hr : ∀ v W, Sl W W.heap.size v (ivals (bits (a * 4294967296 + b + (c * 4294967296 + d)) 80)) → Calls Try.prog 26 #[.agg #[.int .i64 x, .int .i64 y], .int .i64 n, v] W (Gives (.bool true) W)),
        Calls Try.prog 6 #[wval a b, wval c d] w (Gives (.bool true) w) := by
      intro x y n hq hq2 hq3 hx hx2 hr
      have HX := hid hx; have HX2 := hid hx2; have HR := hid hr; have HM0 := hid hm0; have HM1 := hid hm1; have HW1 := hid hw1; have HW2 := hid hw2; have HRA := hid hra
      clear hx hx2 hr hm0 hm1 hw1 hw2 hra hadd hadd2 hry hrn h1 h2
      go_enter Try.func6, Try.ntmps6
      unfold wval
      go_wp2_with fail
      refine (HX.out _).mono ?_
      rintro e w1 ⟨rfl, hb1⟩
      have p0 := cellK (b := w.heap.size) (o := 0) hb1 (by simp <;> omega) (v := .int .i64 a) (by simp [go_sem])
      have p1 := cellK (b := w.heap.size) (o := 1) hb1 (by simp <;> omega) (v := .int .i64 b) (by simp [go_sem])
      have p2 := cellK (b := w.heap.size + 1) (o := 0) hb1 (by simp <;> omega) (v := .int .i64 c) (by simp [go_sem])
      have p3 := cellK (b := w.heap.size + 1) (o := 1) hb1 (by simp <;> omega) (v := .int .i64 d) (by simp [go_sem])
      have l0 : w.heap.size < w1.heap.size := lt_of_below hb1 (by simp <;> omega)
      have l1 : w.heap.size + 1 < w1.heap.size := lt_of_below hb1 (by simp <;> omega)
      go_wp2_with fail
      refine (HM0.out _).mono ?_
      rintro e w2 ⟨rfl, rfl⟩
      go_wp2_with fail
      refine (HM1.out _).mono ?_
      rintro e w2 ⟨rfl, rfl⟩
      go_wp2_with fail
      refine (HX2.out _).mono ?_
      rintro e w2 ⟨rfl, hb2⟩
      have q0 := cellK (b := w.heap.size) (o := 0) hb2 (by simp <;> omega) (v := .int .i64 a) (by simp [go_sem, l0, p0])
      have q1 := cellK (b := w.heap.size) (o := 1) hb2 (by simp <;> omega) (v := .int .i64 b) (by simp [go_sem, l0, p1])
      have q2 := cellK (b := w.heap.size + 1) (o := 0) hb2 (by simp <;> omega) (v := .int .i64 c) (by simp [go_sem, l1, p2])
      have q3 := cellK (b := w.heap.size + 1) (o := 1) hb2 (by simp <;> omega) (v := .int .i64 d) (by simp [go_sem, l1, p3])
      have q4 := cellK (b := w1.heap.size) (o := 0) hb2 (by simp <;> omega) (v := .int .i64 x) (by simp [go_sem])
      have q5 := cellK (b := w1.heap.size) (o := 1) hb2 (by simp <;> omega) (v := .int .i64 y) (by simp [go_sem])
      have m0 : w.heap.size < w2.heap.size := lt_of_below hb2 (by simp <;> omega)
      have m1 : w.heap.size + 1 < w2.heap.size := lt_of_below hb2 (by simp <;> omega)
      have m2 : w1.heap.size < w2.heap.size := lt_of_below hb2 (by simp <;> omega)
      have z0 : (w2.alloc (.cells #[.int .i64 x, .int .i64 y] 23)).cell? ⟨w2.heap.size, 0, none⟩ = some (.int .i64 x) := (by simp [go_sem])
      have z1 : (w2.alloc (.cells #[.int .i64 x, .int .i64 y] 23)).cell? ⟨w2.heap.size, 1, none⟩ = some (.int .i64 y) := (by simp [go_sem])
      have r0 : (w2.alloc (.cells #[.int .i64 x, .int .i64 y] 23)).cell? ⟨w.heap.size, 0, none⟩ = some (.int .i64 a) := by simp [go_sem, m0, q0]
      have r1 : (w2.alloc (.cells #[.int .i64 x, .int .i64 y] 23)).cell? ⟨w.heap.size, 1, none⟩ = some (.int .i64 b) := by simp [go_sem, m0, q1]
      have r2 : (w2.alloc (.cells #[.int .i64 x, .int .i64 y] 23)).cell? ⟨w.heap.size + 1, 0, none⟩ = some (.int .i64 c) := by simp [go_sem, m1, q2]
      have r3 : (w2.alloc (.cells #[.int .i64 x, .int .i64 y] 23)).cell? ⟨w.heap.size + 1, 1, none⟩ = some (.int .i64 d) := by simp [go_sem, m1, q3]
      have r4 : (w2.alloc (.cells #[.int .i64 x, .int .i64 y] 23)).cell? ⟨w1.heap.size, 0, none⟩ = some (.int .i64 x) := by simp [go_sem, m2, q4]
      have r5 : (w2.alloc (.cells #[.int .i64 x, .int .i64 y] 23)).cell? ⟨w1.heap.size, 1, none⟩ = some (.int .i64 y) := by simp [go_sem, m2, q5]
      go_wp2
      have hW0 : Below w.heap.size w (w2.alloc (.cells #[.int .i64 x, .int .i64 y] 23)) := (by repeat' first | with_reducible exact Below.refl _ _ | assumption | (with_reducible refine Below.alloc ?_ ?_ _) | (with_reducible refine Below.setCell ?_ ?_ _) | (with_reducible refine Below.drew ?_) | (with_reducible refine below_drewN ?_ _) | (with_reducible refine Below.trans ?_ (Below.mono ‹_› ?_)) | omega | (with_reducible refine le_alloc ?_) | (with_reducible refine le_setCell ?_) | (with_reducible refine le_drew ?_) | (with_reducible refine le_drewN ?_) | (with_reducible refine Nat.le_trans ?_ (Below.size ‹_›)) | (simp <;> omega))
      have hW1 : w2.heap.size < (w2.alloc (.cells #[.int .i64 x, .int .i64 y] 23)).heap.size := (by simp <;> omega)
      have hW2 : w.heap.size < (w2.alloc (.cells #[.int .i64 x, .int .i64 y] 23)).heap.size := (by simp <;> omega)
      have hW3 : w.heap.size + 1 < (w2.alloc (.cells #[.int .i64 x, .int .i64 y] 23)).heap.size := (by simp <;> omega)
      have hW4 : w1.heap.size < (w2.alloc (.cells #[.int .i64 x, .int .i64 y] 23)).heap.size := (by simp <;> omega)
      generalize hg : w2.alloc (.cells #[.int .i64 x, .int .i64 y] 23) = W at *
      clear hg q0 q1 q2 q3 q4 q5 p0 p1 p2 p3 hb1 l0 l1
      go_region_held3 (fun w' => w'.cell? ⟨w.heap.size, 0, none⟩ = some (.int .i64 a) ∧ w'.cell? ⟨w.heap.size, 1, none⟩ = some (.int .i64 b) ∧ w'.cell? ⟨w.heap.size + 1, 0, none⟩ = some (.int .i64 c) ∧ w'.cell? ⟨w.heap.size + 1, 1, none⟩ = some (.int .i64 d) ∧ w'.cell? ⟨w1.heap.size, 0, none⟩ = some (.int .i64 x) ∧ w'.cell? ⟨w1.heap.size, 1, none⟩ = some (.int .i64 y)) (go_keep)
        (first
          | (go_at_call_of 24 (Value.int .i64 a); refine (HW1.out _).mono ?_; rintro e w3 ⟨u1, rfl, hu1, hb3⟩; have s0 := cellK hb3 hW2 r0; have s1 := cellK hb3 hW2 r1; have s2 := cellK hb3 hW3 r2; have s3 := cellK hb3 hW3 r3; have s4 := cellK hb3 hW4 r4; have s5 := cellK hb3 hW4 r5)
          | (go_at_call_of 24 (Value.int .i64 c); refine (HW2.out _).mono ?_; rintro e w4 ⟨u2, rfl, hu2, hb4⟩; have s0 := cellK (hb4.mono hb3.size) hW2 s0; have s1 := cellK (hb4.mono hb3.size) hW2 s1; have s2 := cellK (hb4.mono hb3.size) hW3 s2; have s3 := cellK (hb4.mono hb3.size) hW3 s3; have s4 := cellK (hb4.mono hb3.size) hW4 s4; have s5 := cellK (hb4.mono hb3.size) hW4 s5)
          | (go_at_call 29; refine (HRA.out _ _ _ ((hu1.below hb4).more hb4.size) hu2).mono ?_; rintro e w5 ⟨u3, rfl, hu3, hb5⟩; have hb5' := hb5.mono (Nat.le_trans hb3.size hb4.size); have s0 := cellK hb5' hW2 s0; have s1 := cellK hb5' hW2 s1; have s2 := cellK hb5' hW3 s2; have s3 := cellK hb5' hW3 s3; have s4 := cellK hb5' hW4 s4; have s5 := cellK hb5' hW4 s5)
          | (go_at_call 26; refine (HR.out _ _ hu3).mono ?_; rintro e w6 ⟨rfl, hb6⟩; have hb6' := hb6.mono (Nat.le_trans (Nat.le_trans hb3.size hb4.size) hb5.size); have s0 := cellK hb6' hW2 s0; have s1 := cellK hb6' hW2 s1; have s2 := cellK hb6' hW3 s2; have s3 := cellK hb6' hW3 s3; have s4 := cellK hb6' hW4 s4; have s5 := cellK hb6' hW4 s5; have s6 := cellK hb6' hW1 (cellK hb5' hW1 (cellK (hb4.mono hb3.size) hW1 (cellK hb3 hW1 z0))); have s7 := cellK hb6' hW1 (cellK hb5' hW1 (cellK (hb4.mono hb3.size) hW1 (cellK hb3 hW1 z1)))))
      go_wp2_with fail
      refine (lives_true _).mono ?_
      rintro e w7 ⟨rfl, hb7⟩
      go_wp2
      go_ret
      exact ⟨rfl, (hW0.trans ((((Below.refl _ _).drew.trans hb3).mono hW0.size))).trans (((hb4.trans (hb5.mono hb4.size)).trans (hb6.mono (Nat.le_trans hb4.size hb5.size))).mono (Nat.le_trans hW0.size hb3.size)) |>.trans (hb7.mono (by repeat' first | with_reducible exact Below.refl _ _ | assumption | (with_reducible refine Below.alloc ?_ ?_ _) | (with_reducible refine Below.setCell ?_ ?_ _) | (with_reducible refine Below.drew ?_) | (with_reducible refine below_drewN ?_ _) | (with_reducible refine Below.trans ?_ (Below.mono ‹_› ?_)) | omega | (with_reducible refine le_alloc ?_) | (with_reducible refine le_setCell ?_) | (with_reducible refine le_drew ?_) | (with_reducible refine le_drewN ?_) | (with_reducible refine Nat.le_trans ?_ (Below.size ‹_›)) | (simp <;> omega)))⟩
    by_cases h3 : MayB A B = true
    · simp only [h3, if_true] at hadd hadd2
      unfold wval at hadd hadd2 hry
      exact fin A B 0 (by simp) (by simp) (by simp) hadd hadd2 (fun v W h => hry v W h h3)
    · simp only [h3] at hadd hadd2
      unfold wval at hadd hadd2 hrn
      exact fin 0 0 14 (by simp) (by simp) (by simp) hadd hadd2 (fun v W h => hrn v W h (by simpa using h3))
  · have hbad : MayB a b = false ∨ MayB c d = false := by
      rcases Bool.eq_false_or_eq_true (MayB a b) with h | h
      · rcases Bool.eq_false_or_eq_true (MayB c d) with h' | h'
        · exact absurd ⟨h, h'⟩ h1
        · exact .inr h'
      · exact .inl h
    have hadd := fun W => wideAdd_bad a b c d W hbad
    unfold wval at hadd
    have HX := hid hadd; have HM0 := hid hm0; have HM1 := hid hm1; have HB := hid hbad
    clear hadd hm0 hm1 hbad h1
    go_enter Try.func6, Try.ntmps6
    unfold wval
    go_wp2_with fail
    refine (HX.out _).mono ?_
    rintro e w1 ⟨rfl, hb1⟩
    have p0 := cellK (b := w.heap.size) (o := 0) hb1 (by simp <;> omega) (v := .int .i64 a) (by simp [go_sem])
    have p1 := cellK (b := w.heap.size) (o := 1) hb1 (by simp <;> omega) (v := .int .i64 b) (by simp [go_sem])
    have p2 := cellK (b := w.heap.size + 1) (o := 0) hb1 (by simp <;> omega) (v := .int .i64 c) (by simp [go_sem])
    have p3 := cellK (b := w.heap.size + 1) (o := 1) hb1 (by simp <;> omega) (v := .int .i64 d) (by simp [go_sem])
    have l0 : w.heap.size < w1.heap.size := lt_of_below hb1 (by simp <;> omega)
    have l1 : w.heap.size + 1 < w1.heap.size := lt_of_below hb1 (by simp <;> omega)
    go_wp2_with fail
    refine (HM0.out _).mono ?_
    rintro e w2 ⟨rfl, rfl⟩
    go_wp2_with fail
    refine (HM1.out _).mono ?_
    rintro e w2 ⟨rfl, rfl⟩
    rcases HB.out with h | h
    · go_wp2_with fail
      refine (lives_true _).mono ?_
      rintro e w7 ⟨rfl, hb7⟩
      go_wp2
      go_ret
      exact ⟨rfl, (by repeat' first | with_reducible exact Below.refl _ _ | assumption | (with_reducible refine Below.alloc ?_ ?_ _) | (with_reducible refine Below.setCell ?_ ?_ _) | (with_reducible refine Below.drew ?_) | (with_reducible refine below_drewN ?_ _) | (with_reducible refine Below.trans ?_ (Below.mono ‹_› ?_)) | omega | (with_reducible refine le_alloc ?_) | (with_reducible refine le_setCell ?_) | (with_reducible refine le_drew ?_) | (with_reducible refine le_drewN ?_) | (with_reducible refine Nat.le_trans ?_ (Below.size ‹_›)) | (simp <;> omega))⟩
    · rcases Bool.eq_false_or_eq_true (MayB a b) with h' | h'
      all_goals
        go_wp2_with fail
        refine (lives_true _).mono ?_
        rintro e w7 ⟨rfl, hb7⟩
        go_wp2
        go_ret
        exact ⟨rfl, (by repeat' first | with_reducible exact Below.refl _ _ | assumption | (with_reducible refine Below.alloc ?_ ?_ _) | (with_reducible refine Below.setCell ?_ ?_ _) | (with_reducible refine Below.drew ?_) | (with_reducible refine below_drewN ?_ _) | (with_reducible refine Below.trans ?_ (Below.mono ‹_› ?_)) | omega | (with_reducible refine le_alloc ?_) | (with_reducible refine le_setCell ?_) | (with_reducible refine le_drew ?_) | (with_reducible refine le_drewN ?_) | (with_reducible refine Nat.le_trans ?_ (Below.size ‹_›)) | (simp <;> omega))⟩
end Go.Proofs.Ytekngocjojfomaa
