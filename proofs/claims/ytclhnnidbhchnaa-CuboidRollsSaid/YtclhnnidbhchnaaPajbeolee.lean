/- 1 text of this claim, in build order. -/
import Derived.Test.YtclhnnidbhchnaaPhffoljof
/- Contracts of package wide: Of, May, sum, fits, Add, Int, Cmp, Total. -/
namespace Go.Proofs.Ytclhnnidbhchnaa
open Go.ChangeShapes Go.WideShapes Go.ChangeAt Go.RowKit
set_option linter.unusedVariables false

/-- A wide number as a value. -/
def wval (hi lo : Int) : Value := .agg #[.int .i64 hi, .int .i64 lo]
def MayB (hi lo : Int) : Bool := decide (0 ≤ lo ∧ lo ≤ 4294967295 ∧ -1099511627776 ≤ hi ∧ hi ≤ 1099511627776)


set_option maxRecDepth 100000 in
theorem wideOf_any (n : Int) (w : World) :
    Calls Try.prog 76 #[.int .i64 n] w (Gives (wval (n / 4294967296) (n % 4294967296)) w) := by
  go_enter Try.func76, Try.ntmps76
  go_wp2
  exact bodyPost_ret (v := wval (n / 4294967296) (n % 4294967296)) (by simp [results, Try.results76, go_sem, wval, i64_and_low]) rfl ⟨rfl, bl1 _ _⟩

set_option maxRecDepth 100000 in
theorem wideMay_any (a b : Int) (w : World) : Calls Try.prog 78 #[wval a b] w (Gives (.bool (MayB a b)) w) := by
  go_enter Try.func78, Try.ntmps78
  unfold wval
  go_wp2
  all_goals go_ret
  all_goals refine ⟨ret_bool ?_, bl1 _ _⟩
  all_goals unfold MayB
  all_goals first | (symm; rw [decide_eq_true_eq]; omega) | (symm; rw [decide_eq_false_iff_not]; omega) | (rw [decide_eq_decide]; omega)

set_option maxRecDepth 100000 in
theorem wideSum_any (a b c d : Int) (w : World) (h1 : -4611686018427387904 ≤ a) (h2 : a ≤ 4611686018427387904) (h3 : 0 ≤ b) (h4 : b ≤ 4294967295) (h5 : -4611686018427387904 ≤ c) (h6 : c ≤ 4611686018427387000) (h7 : 0 ≤ d) (h8 : d ≤ 4294967295) :
    Calls Try.prog 75 #[wval a b, wval c d] w (Gives (wval (a + c + (b + d) / 4294967296) ((b + d) % 4294967296)) w) := by
  go_enter Try.func75, Try.ntmps75
  unfold wval
  go_wp2
  exact bodyPost_ret (v := wval (a + c + (b + d) / 4294967296) ((b + d) % 4294967296)) (by simp [results, Try.results75, go_sem, wval, i64_and_low]) rfl ⟨rfl, (by repeat' first | with_reducible exact Below.refl _ _ | assumption | (with_reducible refine Below.alloc ?_ ?_ _) | (with_reducible refine Below.setCell ?_ ?_ _) | (with_reducible refine Below.drew ?_) | (with_reducible refine below_drewN ?_ _) | (with_reducible refine Below.trans ?_ (Below.mono ‹_› ?_)) | omega | (with_reducible refine le_alloc ?_) | (with_reducible refine le_setCell ?_) | (with_reducible refine le_drew ?_) | (with_reducible refine le_drewN ?_) | (with_reducible refine Nat.le_trans ?_ (Below.size ‹_›)) | (simp <;> omega))⟩


set_option maxRecDepth 100000 in
theorem wideFits_yes (a b : Int) (w : World) (h : MayB a b = true) : Calls Try.prog 77 #[wval a b] w (Gives (.tuple #[wval a b, .int .i64 0]) w) := by
  go_enter Try.func77, Try.ntmps77
  unfold wval
  go_wp2_with fail
  refine (wideMay_any a b _).mono ?_
  rintro e w1 ⟨rfl, hb1⟩
  obtain ⟨hc1, hf1⟩ := bcell hb1; have hs1 := hb1.size
  go_wp2
  exact bodyPost_ret (v := .tuple #[wval a b, .int .i64 0]) (by simp [results, Try.results77, go_sem, wval, hc1]; done) rfl ⟨rfl, (by repeat' first | with_reducible exact Below.refl _ _ | assumption | (with_reducible refine Below.alloc ?_ ?_ _) | (with_reducible refine Below.setCell ?_ ?_ _) | (with_reducible refine Below.drew ?_) | (with_reducible refine below_drewN ?_ _) | (with_reducible refine Below.trans ?_ (Below.mono ‹_› ?_)) | omega | (with_reducible refine le_alloc ?_) | (with_reducible refine le_setCell ?_) | (with_reducible refine le_drew ?_) | (with_reducible refine le_drewN ?_) | (with_reducible refine Nat.le_trans ?_ (Below.size ‹_›)) | (simp <;> omega))⟩
set_option maxRecDepth 100000 in
theorem wideFits_no (a b : Int) (w : World) (h : MayB a b = false) : Calls Try.prog 77 #[wval a b] w (Gives (.tuple #[wval 0 0, .int .i64 14]) w) := by
  go_enter Try.func77, Try.ntmps77
  unfold wval
  go_wp2_with fail
  refine (wideMay_any a b _).mono ?_
  rintro e w1 ⟨rfl, hb1⟩
  obtain ⟨hc1, hf1⟩ := bcell hb1; have hs1 := hb1.size
  go_wp2
  exact bodyPost_ret (v := .tuple #[wval 0 0, .int .i64 14]) (by simp [results, Try.results77, go_sem, wval, hc1]; done) rfl ⟨rfl, (by repeat' first | with_reducible exact Below.refl _ _ | assumption | (with_reducible refine Below.alloc ?_ ?_ _) | (with_reducible refine Below.setCell ?_ ?_ _) | (with_reducible refine Below.drew ?_) | (with_reducible refine below_drewN ?_ _) | (with_reducible refine Below.trans ?_ (Below.mono ‹_› ?_)) | omega | (with_reducible refine le_alloc ?_) | (with_reducible refine le_setCell ?_) | (with_reducible refine le_drew ?_) | (with_reducible refine le_drewN ?_) | (with_reducible refine Nat.le_trans ?_ (Below.size ‹_›)) | (simp <;> omega))⟩

set_option maxRecDepth 100000 in
set_option maxHeartbeats 400000 in
theorem wideAdd_bad (a b c d : Int) (w : World) (h : MayB a b = false ∨ MayB c d = false) : Calls Try.prog 86 #[wval a b, wval c d] w (Gives (.tuple #[wval 0 0, .int .i64 1]) w) := by
  go_enter Try.func86, Try.ntmps86
  unfold wval
  go_wp2_with fail
  refine (wideMay_any a b _).mono ?_
  rintro e w1 ⟨rfl, hb1⟩
  obtain ⟨hc1, hf1⟩ := bcell hb1; have hs1 := hb1.size
  by_cases h1 : MayB a b = true
  · have h2 : MayB c d = false := by rcases h with h | h <;> simp_all
    have HH := hid h; clear h
    go_wp2_with fail
    refine (wideMay_any c d _).mono ?_
    rintro e w2 ⟨rfl, hb2⟩
    have hm2 := Below.mono hb2 (Nat.le_trans hs1 (by simp)); obtain ⟨hc2, hf2⟩ := bcell hm2; have hs2 := Nat.le_trans (Nat.le_trans hs1 (by simp)) hb2.size
    go_wp2
    exact bodyPost_ret (v := .tuple #[wval 0 0, .int .i64 1]) (by simp [results, Try.results86, go_sem, wval, hc1, hc2]; done) rfl ⟨rfl, (by repeat' first | with_reducible exact Below.refl _ _ | assumption | (with_reducible refine Below.alloc ?_ ?_ _) | (with_reducible refine Below.setCell ?_ ?_ _) | (with_reducible refine Below.drew ?_) | (with_reducible refine below_drewN ?_ _) | (with_reducible refine Below.trans ?_ (Below.mono ‹_› ?_)) | omega | (with_reducible refine le_alloc ?_) | (with_reducible refine le_setCell ?_) | (with_reducible refine le_drew ?_) | (with_reducible refine le_drewN ?_) | (with_reducible refine Nat.le_trans ?_ (Below.size ‹_›)) | (simp <;> omega))⟩
  · have h1' : MayB a b = false := by simpa using h1
    have HH := hid h; clear h h1
    go_wp2
    exact bodyPost_ret (v := .tuple #[wval 0 0, .int .i64 1]) (by simp [results, Try.results86, go_sem, wval, hc1]; done) rfl ⟨rfl, (by repeat' first | with_reducible exact Below.refl _ _ | assumption | (with_reducible refine Below.alloc ?_ ?_ _) | (with_reducible refine Below.setCell ?_ ?_ _) | (with_reducible refine Below.drew ?_) | (with_reducible refine below_drewN ?_ _) | (with_reducible refine Below.trans ?_ (Below.mono ‹_› ?_)) | omega | (with_reducible refine le_alloc ?_) | (with_reducible refine le_setCell ?_) | (with_reducible refine le_drew ?_) | (with_reducible refine le_drewN ?_) | (with_reducible refine Nat.le_trans ?_ (Below.size ‹_›)) | (simp <;> omega))⟩

theorem may_bounds {a b : Int} (h : MayB a b = true) : 0 ≤ b ∧ b ≤ 4294967295 ∧ -1099511627776 ≤ a ∧ a ≤ 1099511627776 := by
  unfold MayB at h; rw [decide_eq_true_eq] at h; exact h
theorem wideFits_any (a b : Int) (w : World) : Calls Try.prog 77 #[wval a b] w (Gives (.tuple (if MayB a b then #[wval a b, .int .i64 0] else #[wval 0 0, .int .i64 14])) w) := by
  by_cases h : MayB a b = true
  · rw [if_pos h]; exact wideFits_yes a b w h
  · rw [if_neg h]; exact wideFits_no a b w (by simpa using h)
def FitsV (a b : Int) : Array Value := if MayB a b then #[wval a b, .int .i64 0] else #[wval 0 0, .int .i64 14]
set_option maxRecDepth 100000 in
set_option maxHeartbeats 400000 in
theorem wideAdd_ok (a b c d : Int) (w : World) (h1 : MayB a b = true) (h2 : MayB c d = true) :
    Calls Try.prog 86 #[wval a b, wval c d] w (Gives (.tuple (FitsV (a + c + (b + d) / 4294967296) ((b + d) % 4294967296))) w) := by
  go_enter Try.func86, Try.ntmps86
  unfold wval
  go_wp2_with fail
  refine (wideMay_any a b _).mono ?_
  rintro e w1 ⟨rfl, hb1⟩
  obtain ⟨hc1, hf1⟩ := bcell hb1; have hs1 := hb1.size
  go_wp2_with fail
  refine (wideMay_any c d _).mono ?_
  rintro e w2 ⟨rfl, hb2⟩
  have hm2 := Below.mono hb2 (Nat.le_trans hs1 (by simp)); obtain ⟨hc2, hf2⟩ := bcell hm2; have hs2 := Nat.le_trans (Nat.le_trans hs1 (by simp)) hb2.size
  go_wp2_with fail
  have ha := may_bounds h1
  have hc := may_bounds h2
  refine (wideSum_any a b c d _ (by omega) (by omega) (by omega) (by omega) (by omega) (by omega) (by omega) (by omega)).mono ?_
  rintro e w3 ⟨rfl, hb3⟩
  have hm3 := Below.mono hb3 (Nat.le_trans hs2 (by simp)); obtain ⟨hc3, hf3⟩ := bcell hm3; have hs3 := Nat.le_trans (Nat.le_trans hs2 (by simp)) hb3.size
  clear ha hc
  unfold wval
  go_wp2_with fail
  refine (wideFits_any _ _ _).mono ?_
  rintro e w4 ⟨rfl, hb4⟩
  have hm4 := Below.mono hb4 (Nat.le_trans hs3 (by simp)); obtain ⟨hc4, hf4⟩ := bcell hm4; have hs4 := Nat.le_trans (Nat.le_trans hs3 (by simp)) hb4.size
  generalize hA : a + c + (b + d) / 4294967296 = A
  generalize hB : (b + d) % 4294967296 = B
  have HA := hid hA; have HB := hid hB
  clear hA hB
  unfold FitsV
  by_cases h3 : MayB A B = true
  · rw [if_pos h3]
    unfold wval
    go_wp2
    exact bodyPost_ret (v := .tuple #[wval A B, .int .i64 0]) (by simp [results, Try.results86, go_sem, wval, hc1, hc2, hc3, hc4]; done) rfl ⟨by rw [← HA.out, ← HB.out] at h3; unfold FitsV; rw [if_pos h3, HA.out, HB.out], (by repeat' first | with_reducible exact Below.refl _ _ | assumption | (with_reducible refine Below.alloc ?_ ?_ _) | (with_reducible refine Below.setCell ?_ ?_ _) | (with_reducible refine Below.drew ?_) | (with_reducible refine below_drewN ?_ _) | (with_reducible refine Below.trans ?_ (Below.mono ‹_› ?_)) | omega | (with_reducible refine le_alloc ?_) | (with_reducible refine le_setCell ?_) | (with_reducible refine le_drew ?_) | (with_reducible refine le_drewN ?_) | (with_reducible refine Nat.le_trans ?_ (Below.size ‹_›)) | (simp <;> omega))⟩
  · rw [if_neg h3]
    unfold wval
    go_wp2
    exact bodyPost_ret (v := .tuple #[wval 0 0, .int .i64 14]) (by simp [results, Try.results86, go_sem, wval, hc1, hc2, hc3, hc4]; done) rfl ⟨by rw [← HA.out, ← HB.out] at h3; unfold FitsV; rw [if_neg h3]; try rfl, (by repeat' first | with_reducible exact Below.refl _ _ | assumption | (with_reducible refine Below.alloc ?_ ?_ _) | (with_reducible refine Below.setCell ?_ ?_ _) | (with_reducible refine Below.drew ?_) | (with_reducible refine below_drewN ?_ _) | (with_reducible refine Below.trans ?_ (Below.mono ‹_› ?_)) | omega | (with_reducible refine le_alloc ?_) | (with_reducible refine le_setCell ?_) | (with_reducible refine le_drew ?_) | (with_reducible refine le_drewN ?_) | (with_reducible refine Nat.le_trans ?_ (Below.size ‹_›)) | (simp <;> omega))⟩

set_option maxRecDepth 100000 in
set_option maxHeartbeats 400000 in
theorem wideInt_bad (a b : Int) (w : World) (h : MayB a b = false) : Calls Try.prog 44 #[wval a b] w (Gives (.tuple #[.int .i64 0, .int .i64 1]) w) := by
  go_enter Try.func44, Try.ntmps44
  unfold wval
  go_wp2_with fail
  refine (wideMay_any a b _).mono ?_
  rintro e w1 ⟨rfl, hb1⟩
  obtain ⟨hc1, hf1⟩ := bcell hb1; have hs1 := hb1.size
  go_wp2
  go_ret2
  exact ⟨rfl, (by repeat' first | with_reducible exact Below.refl _ _ | assumption | (with_reducible refine Below.alloc ?_ ?_ _) | (with_reducible refine Below.setCell ?_ ?_ _) | (with_reducible refine Below.drew ?_) | (with_reducible refine below_drewN ?_ _) | (with_reducible refine Below.trans ?_ (Below.mono ‹_› ?_)) | omega | (with_reducible refine le_alloc ?_) | (with_reducible refine le_setCell ?_) | (with_reducible refine le_drew ?_) | (with_reducible refine le_drewN ?_) | (with_reducible refine Nat.le_trans ?_ (Below.size ‹_›)) | (simp <;> omega))⟩
set_option maxRecDepth 100000 in
set_option maxHeartbeats 400000 in
theorem wideInt_yes (a b : Int) (w : World) (h : MayB a b = true) (h1 : -2147483648 ≤ a) (h2 : a < 2147483648) : Calls Try.prog 44 #[wval a b] w (Gives (.tuple #[.int .i64 (a * 4294967296 + b), .int .i64 0]) w) := by
  go_enter Try.func44, Try.ntmps44
  unfold wval
  go_wp2_with fail
  refine (wideMay_any a b _).mono ?_
  rintro e w1 ⟨rfl, hb1⟩
  obtain ⟨hc1, hf1⟩ := bcell hb1; have hs1 := hb1.size
  have hm := may_bounds h
  go_wp2
  rw [show Go.bits .or .i64 (a * 4294967296) b = a * 4294967296 + b by rw [i64_or_low _ _ (by omega) (by omega), IntKind.wrap_i64]; omega]
  have e1 : (a * 4294967296 + b) / 4294967296 = a := by omega
  have e2 : (a * 4294967296 + b) % 4294967296 = b := by omega
  generalize hN : a * 4294967296 + b = N at e1 e2
  clear hm h1 h2
  have HN := hid hN; clear hN
  have hx := wideOf_any N
  rw [e1, e2] at hx
  unfold wval at hx
  have HX := hid hx
  clear hx e1 e2
  go_region_held3 (fun w' => w'.cell? ⟨w.heap.size, 0, none⟩ = some (.int .i64 a) ∧ w'.cell? ⟨w.heap.size, 1, none⟩ = some (.int .i64 b)) (go_keep)
    ((go_at_call 76; refine (HX.out _).mono ?_; rintro e w2 ⟨rfl, hb2⟩; have hm2 := Below.mono hb2 (Nat.le_trans hs1 (by simp)); obtain ⟨hc2, hf2⟩ := bcell hm2; have hs2 := Nat.le_trans (Nat.le_trans hs1 (by simp)) hb2.size))
  go_wp2
  go_ret2
  exact ⟨by rw [HN.out]; rfl, (by repeat' first | with_reducible exact Below.refl _ _ | assumption | (with_reducible refine Below.alloc ?_ ?_ _) | (with_reducible refine Below.setCell ?_ ?_ _) | (with_reducible refine Below.drew ?_) | (with_reducible refine below_drewN ?_ _) | (with_reducible refine Below.trans ?_ (Below.mono ‹_› ?_)) | omega | (with_reducible refine le_alloc ?_) | (with_reducible refine le_setCell ?_) | (with_reducible refine le_drew ?_) | (with_reducible refine le_drewN ?_) | (with_reducible refine Nat.le_trans ?_ (Below.size ‹_›)) | (simp <;> omega))⟩
set_option maxRecDepth 100000 in
set_option maxHeartbeats 400000 in
theorem wideInt_no (a b : Int) (w : World) (h : MayB a b = true) (h1 : a < -2147483648 ∨ 2147483648 ≤ a) : Calls Try.prog 44 #[wval a b] w (Gives (.tuple #[.int .i64 0, .int .i64 14]) w) := by
  have HH := hid h1; clear h1
  go_enter Try.func44, Try.ntmps44
  unfold wval
  go_wp2_with fail
  refine (wideMay_any a b _).mono ?_
  rintro e w1 ⟨rfl, hb1⟩
  obtain ⟨hc1, hf1⟩ := bcell hb1; have hs1 := hb1.size
  have hm := may_bounds h
  have HM := hid hm; clear hm
  go_wp2
  have hm := HM.out
  rw [show Go.bits .or .i64 (wrap64 (a * 4294967296)) b = IntKind.i64.wrap (a * 4294967296 + b) by rw [wrap64_eq]; exact i64_or_low_wrap a b (by omega) (by omega)]
  generalize hN : IntKind.i64.wrap (a * 4294967296 + b) = N
  rw [IntKind.wrap_i64] at hN
  have hx := wideOf_any N
  have hne : (N / 4294967296 == a) = false := by
    rw [beq_eq_false_iff_ne]
    have := HH.out
    omega
  clear hm
  generalize N / 4294967296 = A at hx hne
  generalize N % 4294967296 = B at hx
  unfold wval at hx
  have HX := hid hx
  have HN := hid hN; clear hN hx
  go_region_held3 (fun w' => w'.cell? ⟨w.heap.size, 0, none⟩ = some (.int .i64 a) ∧ w'.cell? ⟨w.heap.size, 1, none⟩ = some (.int .i64 b)) (go_keep)
    ((go_at_call 76; refine (HX.out _).mono ?_; rintro e w2 ⟨rfl, hb2⟩; have hm2 := Below.mono hb2 (Nat.le_trans hs1 (by simp)); obtain ⟨hc2, hf2⟩ := bcell hm2; have hs2 := Nat.le_trans (Nat.le_trans hs1 (by simp)) hb2.size))
  go_wp2
  go_ret2
  exact ⟨rfl, (by repeat' first | with_reducible exact Below.refl _ _ | assumption | (with_reducible refine Below.alloc ?_ ?_ _) | (with_reducible refine Below.setCell ?_ ?_ _) | (with_reducible refine Below.drew ?_) | (with_reducible refine below_drewN ?_ _) | (with_reducible refine Below.trans ?_ (Below.mono ‹_› ?_)) | omega | (with_reducible refine le_alloc ?_) | (with_reducible refine le_setCell ?_) | (with_reducible refine le_drew ?_) | (with_reducible refine le_drewN ?_) | (with_reducible refine Nat.le_trans ?_ (Below.size ‹_›)) | (simp <;> omega))⟩
end Go.Proofs.Ytclhnnidbhchnaa
