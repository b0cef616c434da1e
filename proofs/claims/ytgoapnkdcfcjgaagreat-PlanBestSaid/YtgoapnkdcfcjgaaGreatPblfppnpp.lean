/- 4 texts of this claim, in build order. -/
import Derived.Test.YtgoapnkdcfcjgaaGreatPnpnbicoc
import Derived.Test.YtgoapnkdcfcjgaaGreatPnmdaaljb
namespace Go.Proofs.YtgoapnkdcfcjgaaGreat
open Go.ChangeShapes Go.WideShapes Go.ChangeAt Go.RowKit
set_option linter.unusedVariables false
def wval (hi lo : Int) : Value := .agg #[.int .i64 hi, .int .i64 lo]
def MayB (hi lo : Int) : Bool := decide (0 ≤ lo ∧ lo ≤ 4294967295 ∧ -1099511627776 ≤ hi ∧ hi ≤ 1099511627776)
set_option maxRecDepth 100000 in
theorem wideOf_any (n : Int) (w : World) :
  Calls Tryz.prog 128 #[.int .i64 n] w (Gives (wval (n / 4294967296) (n % 4294967296)) w) := by
 go_enter Tryz.func128, Tryz.ntmps128
 go_wp2
 exact bodyPost_ret (v := wval (n / 4294967296) (n % 4294967296)) (by simp [results, Tryz.results128, go_sem, wval, i64_and_low]) rfl ⟨rfl, bl1 _ _⟩
set_option maxRecDepth 100000 in
theorem wideMay_any (a b : Int) (w : World) : Calls Tryz.prog 130 #[wval a b] w (Gives (.bool (MayB a b)) w) := by
 go_enter Tryz.func130, Tryz.ntmps130
 unfold wval
 go_wp2
 all_goals go_ret
 all_goals refine ⟨ret_bool ?_, bl1 _ _⟩
 all_goals unfold MayB
 all_goals first | (symm; rw [decide_eq_true_eq]; omega) | (symm; rw [decide_eq_false_iff_not]; omega) | (rw [decide_eq_decide]; omega)
set_option maxRecDepth 100000 in
theorem wideSum_any (a b c d : Int) (w : World) (h1 : -4611686018427387904 ≤ a) (h2 : a ≤ 4611686018427387904) (h3 : 0 ≤ b) (h4 : b ≤ 4294967295) (h5 : -4611686018427387904 ≤ c) (h6 : c ≤ 4611686018427387000) (h7 : 0 ≤ d) (h8 : d ≤ 4294967295) :
  Calls Tryz.prog 127 #[wval a b, wval c d] w (Gives (wval (a + c + (b + d) / 4294967296) ((b + d) % 4294967296)) w) := by
 go_enter Tryz.func127, Tryz.ntmps127
 unfold wval
 go_wp2
 exact bodyPost_ret (v := wval (a + c + (b + d) / 4294967296) ((b + d) % 4294967296)) (by simp [results, Tryz.results127, go_sem, wval, i64_and_low]) rfl ⟨rfl, (by repeat' first | with_reducible exact Below.refl _ _ | assumption | (with_reducible refine Below.alloc ?_ ?_ _) | (with_reducible refine Below.setCell ?_ ?_ _) | (with_reducible refine Below.drew ?_) | (with_reducible refine below_drewN ?_ _) | (with_reducible refine Below.trans ?_ (Below.mono ‹_› ?_)) | omega | (with_reducible refine le_alloc ?_) | (with_reducible refine le_setCell ?_) | (with_reducible refine le_drew ?_) | (with_reducible refine le_drewN ?_) | (with_reducible refine Nat.le_trans ?_ (Below.size ‹_›)) | (simp <;> omega))⟩
set_option maxRecDepth 100000 in
theorem wideFits_yes (a b : Int) (w : World) (h : MayB a b = true) : Calls Tryz.prog 129 #[wval a b] w (Gives (.tuple #[wval a b, .int .i64 0]) w) := by
 go_enter Tryz.func129, Tryz.ntmps129
 unfold wval
 go_wp2_with fail
 refine (wideMay_any a b _).mono ?_
 rintro e w1 ⟨rfl, hb1⟩
 obtain ⟨hc1, hf1⟩ := bcell hb1; have hs1 := hb1.size
 go_wp2
 exact bodyPost_ret (v := .tuple #[wval a b, .int .i64 0]) (by simp [results, Tryz.results129, go_sem, wval, hc1]; done) rfl ⟨rfl, (by repeat' first | with_reducible exact Below.refl _ _ | assumption | (with_reducible refine Below.alloc ?_ ?_ _) | (with_reducible refine Below.setCell ?_ ?_ _) | (with_reducible refine Below.drew ?_) | (with_reducible refine below_drewN ?_ _) | (with_reducible refine Below.trans ?_ (Below.mono ‹_› ?_)) | omega | (with_reducible refine le_alloc ?_) | (with_reducible refine le_setCell ?_) | (with_reducible refine le_drew ?_) | (with_reducible refine le_drewN ?_) | (with_reducible refine Nat.le_trans ?_ (Below.size ‹_›)) | (simp <;> omega))⟩
set_option maxRecDepth 100000 in
theorem wideFits_no (a b : Int) (w : World) (h : MayB a b = false) : Calls Tryz.prog 129 #[wval a b] w (Gives (.tuple #[wval 0 0, .int .i64 14]) w) := by
 go_enter Tryz.func129, Tryz.ntmps129
 unfold wval
 go_wp2_with fail
 refine (wideMay_any a b _).mono ?_
 rintro e w1 ⟨rfl, hb1⟩
 obtain ⟨hc1, hf1⟩ := bcell hb1; have hs1 := hb1.size
 go_wp2
 exact bodyPost_ret (v := .tuple #[wval 0 0, .int .i64 14]) (by simp [results, Tryz.results129, go_sem, wval, hc1]; done) rfl ⟨rfl, (by repeat' first | with_reducible exact Below.refl _ _ | assumption | (with_reducible refine Below.alloc ?_ ?_ _) | (with_reducible refine Below.setCell ?_ ?_ _) | (with_reducible refine Below.drew ?_) | (with_reducible refine below_drewN ?_ _) | (with_reducible refine Below.trans ?_ (Below.mono ‹_› ?_)) | omega | (with_reducible refine le_alloc ?_) | (with_reducible refine le_setCell ?_) | (with_reducible refine le_drew ?_) | (with_reducible refine le_drewN ?_) | (with_reducible refine Nat.le_trans ?_ (Below.size ‹_›)) | (simp <;> omega))⟩
theorem may_bounds {a b : Int} (h : MayB a b = true) : 0 ≤ b ∧ b ≤ 4294967295 ∧ -1099511627776 ≤ a ∧ a ≤ 1099511627776 := by
 unfold MayB at h; rw [decide_eq_true_eq] at h; exact h
theorem wideFits_any (a b : Int) (w : World) : Calls Tryz.prog 129 #[wval a b] w (Gives (.tuple (if MayB a b then #[wval a b, .int .i64 0] else #[wval 0 0, .int .i64 14])) w) := by
 by_cases h : MayB a b = true
 ·rw [if_pos h]; exact wideFits_yes a b w h
 ·rw [if_neg h]; exact wideFits_no a b w (by simpa using h)
def FitsV (a b : Int) : Array Value := if MayB a b then #[wval a b, .int .i64 0] else #[wval 0 0, .int .i64 14]
set_option maxRecDepth 100000 in
set_option maxHeartbeats 400000 in
theorem wideAdd_ok (a b c d : Int) (w : World) (h1 : MayB a b = true) (h2 : MayB c d = true) :
  Calls Tryz.prog 134 #[wval a b, wval c d] w (Gives (.tuple (FitsV (a + c + (b + d) / 4294967296) ((b + d) % 4294967296))) w) := by
 go_enter Tryz.func134, Tryz.ntmps134
 unfold wval
 go_wp2_with fail
 refine (wideMay_any a b _).mono ?_
 rintro e w1 ⟨rfl, hb1⟩
 obtain ⟨hc1, hf1⟩ := bcell hb1; have hs1 := hb1.size
 go_wp2_with fail
 refine (wideMay_any c d _).mono ?_
 rintro e w2 ⟨rfl, hb2⟩
 have hm2 := Below.mono hb2 (Nat.le_trans hs1 (by simp)); obtain ⟨hc2, hf2⟩ := bcell hm2; have hs2 := Nat.le_trans (Nat.le_trans hs1 (by simp)) hb2.size
 go_wp2_with fail
 have ha := may_bounds h1
 have hc := may_bounds h2
 refine (wideSum_any a b c d _ (by omega) (by omega) (by omega) (by omega) (by omega) (by omega) (by omega) (by omega)).mono ?_
 rintro e w3 ⟨rfl, hb3⟩
 have hm3 := Below.mono hb3 (Nat.le_trans hs2 (by simp)); obtain ⟨hc3, hf3⟩ := bcell hm3; have hs3 := Nat.le_trans (Nat.le_trans hs2 (by simp)) hb3.size
 clear ha hc
 unfold wval
 go_wp2_with fail
 refine (wideFits_any _ _ _).mono ?_
 rintro e w4 ⟨rfl, hb4⟩
 have hm4 := Below.mono hb4 (Nat.le_trans hs3 (by simp)); obtain ⟨hc4, hf4⟩ := bcell hm4; have hs4 := Nat.le_trans (Nat.le_trans hs3 (by simp)) hb4.size
 generalize hA : a + c + (b + d) / 4294967296 = A
 generalize hB : (b + d) % 4294967296 = B
 have HA := hid hA; have HB := hid hB
 clear hA hB
 unfold FitsV
 by_cases h3 : MayB A B = true
 ·rw [if_pos h3]
  unfold wval
  go_wp2
  exact bodyPost_ret (v := .tuple #[wval A B, .int .i64 0]) (by simp [results, Tryz.results134, go_sem, wval, hc1, hc2, hc3, hc4]; done) rfl ⟨by rw [← HA.out, ← HB.out] at h3; unfold FitsV; rw [if_pos h3, HA.out, HB.out], (by repeat' first | with_reducible exact Below.refl _ _ | assumption | (with_reducible refine Below.alloc ?_ ?_ _) | (with_reducible refine Below.setCell ?_ ?_ _) | (with_reducible refine Below.drew ?_) | (with_reducible refine below_drewN ?_ _) | (with_reducible refine Below.trans ?_ (Below.mono ‹_› ?_)) | omega | (with_reducible refine le_alloc ?_) | (with_reducible refine le_setCell ?_) | (with_reducible refine le_drew ?_) | (with_reducible refine le_drewN ?_) | (with_reducible refine Nat.le_trans ?_ (Below.size ‹_›)) | (simp <;> omega))⟩
 ·rw [if_neg h3]
  unfold wval
  go_wp2
  exact bodyPost_ret (v := .tuple #[wval 0 0, .int .i64 14]) (by simp [results, Tryz.results134, go_sem, wval, hc1, hc2, hc3, hc4]; done) rfl ⟨by rw [← HA.out, ← HB.out] at h3; unfold FitsV; rw [if_neg h3]; try rfl, (by repeat' first | with_reducible exact Below.refl _ _ | assumption | (with_reducible refine Below.alloc ?_ ?_ _) | (with_reducible refine Below.setCell ?_ ?_ _) | (with_reducible refine Below.drew ?_) | (with_reducible refine below_drewN ?_ _) | (with_reducible refine Below.trans ?_ (Below.mono ‹_› ?_)) | omega | (with_reducible refine le_alloc ?_) | (with_reducible refine le_setCell ?_) | (with_reducible refine le_drew ?_) | (with_reducible refine le_drewN ?_) | (with_reducible refine Nat.le_trans ?_ (Below.size ‹_›)) | (simp <;> omega))⟩
set_option maxRecDepth 100000 in
set_option maxHeartbeats 400000 in
theorem wideInt_yes (a b : Int) (w : World) (h : MayB a b = true) (h1 : -2147483648 ≤ a) (h2 : a < 2147483648) : Calls Tryz.prog 102 #[wval a b] w (Gives (.tuple #[.int .i64 (a * 4294967296 + b), .int .i64 0]) w) := by
 go_enter Tryz.func102, Tryz.ntmps102
 unfold wval
 go_wp2_with fail
 refine (wideMay_any a b _).mono ?_
 rintro e w1 ⟨rfl, hb1⟩
 obtain ⟨hc1, hf1⟩ := bcell hb1; have hs1 := hb1.size
 have hm := may_bounds h
 go_wp2
 rw [show Go.bits .or .i64 (a * 4294967296) b = a * 4294967296 + b by rw [i64_or_low _ _ (by omega) (by omega), IntKind.wrap_i64]; omega]
 have e1 : (a * 4294967296 + b) / 4294967296 = a := by omega
 have e2 : (a * 4294967296 + b) % 4294967296 = b := by omega
 generalize hN : a * 4294967296 + b = N at e1 e2
 clear hm h1 h2
 have HN := hid hN; clear hN
 have hx := wideOf_any N
 rw [e1, e2] at hx
 unfold wval at hx
 have HX := hid hx
 clear hx e1 e2
 go_region_held3 (fun w' => w'.cell? ⟨w.heap.size, 0, none⟩ = some (.int .i64 a) ∧ w'.cell? ⟨w.heap.size, 1, none⟩ = some (.int .i64 b)) (go_keep)
  ((go_at_call 128; refine (HX.out _).mono ?_; rintro e w2 ⟨rfl, hb2⟩; have hm2 := Below.mono hb2 (Nat.le_trans hs1 (by simp)); obtain ⟨hc2, hf2⟩ := bcell hm2; have hs2 := Nat.le_trans (Nat.le_trans hs1 (by simp)) hb2.size))
 go_wp2
 go_ret2
 exact ⟨by rw [HN.out]; rfl, (by repeat' first | with_reducible exact Below.refl _ _ | assumption | (with_reducible refine Below.alloc ?_ ?_ _) | (with_reducible refine Below.setCell ?_ ?_ _) | (with_reducible refine Below.drew ?_) | (with_reducible refine below_drewN ?_ _) | (with_reducible refine Below.trans ?_ (Below.mono ‹_› ?_)) | omega | (with_reducible refine le_alloc ?_) | (with_reducible refine le_setCell ?_) | (with_reducible refine le_drew ?_) | (with_reducible refine le_drewN ?_) | (with_reducible refine Nat.le_trans ?_ (Below.size ‹_›)) | (simp <;> omega))⟩
set_option maxRecDepth 100000 in
set_option maxHeartbeats 400000 in
theorem wideInt_no (a b : Int) (w : World) (h : MayB a b = true) (h1 : a < -2147483648 ∨ 2147483648 ≤ a) : Calls Tryz.prog 102 #[wval a b] w (Gives (.tuple #[.int .i64 0, .int .i64 14]) w) := by
 have HH := hid h1; clear h1
 go_enter Tryz.func102, Tryz.ntmps102
 unfold wval
 go_wp2_with fail
 refine (wideMay_any a b _).mono ?_
 rintro e w1 ⟨rfl, hb1⟩
 obtain ⟨hc1, hf1⟩ := bcell hb1; have hs1 := hb1.size
 have hm := may_bounds h
 have HM := hid hm; clear hm
 go_wp2
 have hm := HM.out
 rw [show Go.bits .or .i64 (wrap64 (a * 4294967296)) b = IntKind.i64.wrap (a * 4294967296 + b) by rw [wrap64_eq]; exact i64_or_low_wrap a b (by omega) (by omega)]
 generalize hN : IntKind.i64.wrap (a * 4294967296 + b) = N
 rw [IntKind.wrap_i64] at hN
 have hx := wideOf_any N
 have hne : (N / 4294967296 == a) = false := by
  rw [beq_eq_false_iff_ne]
  have := HH.out
  omega
 clear hm
 generalize N / 4294967296 = A at hx hne
 generalize N % 4294967296 = B at hx
 unfold wval at hx
 have HX := hid hx
 have HN := hid hN; clear hN hx
 go_region_held3 (fun w' => w'.cell? ⟨w.heap.size, 0, none⟩ = some (.int .i64 a) ∧ w'.cell? ⟨w.heap.size, 1, none⟩ = some (.int .i64 b)) (go_keep)
  ((go_at_call 128; refine (HX.out _).mono ?_; rintro e w2 ⟨rfl, hb2⟩; have hm2 := Below.mono hb2 (Nat.le_trans hs1 (by simp)); obtain ⟨hc2, hf2⟩ := bcell hm2; have hs2 := Nat.le_trans (Nat.le_trans hs1 (by simp)) hb2.size))
 go_wp2
 go_ret2
 exact ⟨rfl, (by repeat' first | with_reducible exact Below.refl _ _ | assumption | (with_reducible refine Below.alloc ?_ ?_ _) | (with_reducible refine Below.setCell ?_ ?_ _) | (with_reducible refine Below.drew ?_) | (with_reducible refine below_drewN ?_ _) | (with_reducible refine Below.trans ?_ (Below.mono ‹_› ?_)) | omega | (with_reducible refine le_alloc ?_) | (with_reducible refine le_setCell ?_) | (with_reducible refine le_drew ?_) | (with_reducible refine le_drewN ?_) | (with_reducible refine Nat.le_trans ?_ (Below.size ‹_›)) | (simp <;> omega))⟩
theorem wide_step (x y : Int) : x / 4294967296 + y / 4294967296 + (x % 4294967296 + y % 4294967296) / 4294967296 = (x + y) / 4294967296 ∧ (x % 4294967296 + y % 4294967296) % 4294967296 = (x + y) % 4294967296 := by omega
theorem sum_bounds (l : List Int) (hr : ∀ x ∈ l, -9223372036854775808 ≤ x ∧ x ≤ 9223372036854775807) : -9223372036854775808 * (l.length : Int) ≤ l.sum ∧ l.sum ≤ 9223372036854775808 * (l.length : Int) := by
 induction l with
 | nil => simp
 | cons x l ih =>
   have h1 := hr x (by simp)
   have h2 := ih (fun y hy => hr y (by simp [hy]))
   simp only [List.sum_cons, List.length_cons]
   omega
theorem take_succ_sum (l : List Int) (k : Nat) (hk : k < l.length) : (l.take (k + 1)).sum = (l.take k).sum + l.getD k 0 := by
 rw [List.take_succ_eq_append_getElem hk, List.sum_append, List.getD_eq_getElem?_getD, List.getElem?_eq_getElem hk]
 simp
def TotRel (l : List Int) (w : World) (i : Value) (wr : World) : Prop :=
 ∃ k : Nat, k ≤ l.length ∧ i = .int .i64 k ∧ wr.cell? ⟨w.heap.size + 1, 0, none⟩ = some (.int .i64 ((l.take k).sum / 4294967296)) ∧ wr.cell? ⟨w.heap.size + 1, 1, none⟩ = some (.int .i64 ((l.take k).sum % 4294967296)) ∧
  Below (w.heap.size + 1) ((w.alloc (.cells #[.int .i64 0, .int .i64 0] 156)).alloc (.cells #[.int .i64 0, .int .i64 0] 156)) wr ∧ wr.frozen? ⟨w.heap.size + 1, 0, none⟩ = false ∧ wr.frozen? ⟨w.heap.size + 1, 1, none⟩ = false
set_option maxRecDepth 100000 in
set_option maxHeartbeats 800000 in
theorem wideTotal_any (v : Value) (l : List Int) (w : World) (hl : l.length ≤ 1073741824) (hv : Sl w w.heap.size v (ivals l)) (hr : ∀ x ∈ l, -9223372036854775808 ≤ x ∧ x ≤ 9223372036854775807) :
  Calls Tryz.prog 101 #[v] w (Gives (.tuple (FitsV (l.sum / 4294967296) (l.sum % 4294967296))) w) := by
 obtain ⟨A, c, rfl, hc1, hc2, hA⟩ := hv
 simp only [ivals_len] at *
 have HA := hid hA; have HR := hid hr
 clear hA hr
 go_enter Tryz.func101, Tryz.ntmps101
 go_wp2
 go_loopw [9] (fun i wr => TotRel l w i wr) (fun i _ => l.length - (intOf i).toNat)
 case atStart => exact ⟨0, by omega, rfl, by simp [go_sem], by simp [go_sem], Below.refl _ _, by simp [go_sem], by simp [go_sem]⟩
 case round =>
  obtain ⟨k, hk, rfl, q0, q1, hb, f0, f1⟩ := hrel
  have hbs := hb.size
  simp at hbs
  have hl0 : w.heap.size < wr.heap.size := by omega
  have hl1 : w.heap.size + 1 < wr.heap.size := by omega
  by_cases hlt : k < l.length
  ·obtain ⟨b, off, rfl, hbl, hcell⟩ := HA.out (by omega)
   have g1 : wr.cell? ⟨b, off + k, none⟩ = some (.int .i64 (l.getD k 0)) := by
    rw [(hb.cell (p := ⟨b, off + k, none⟩) (by show b < _; omega))]
    rw [World.cell?_alloc_past _ _ _ (by simp; omega), World.cell?_alloc_past _ _ _ (by omega)]
    refine hcell k _ ?_
    simp [ivals, List.getElem?_eq_getElem hlt]
   have hx := HR.out (l.getD k 0) (by rw [List.getD_eq_getElem?_getD, List.getElem?_eq_getElem hlt]; simp)
   have hs := sum_bounds (l.take k) (fun x hx => HR.out x (List.mem_of_mem_take hx))
   rw [List.length_take, Nat.min_eq_left hk] at hs
   have hsn := take_succ_sum l k hlt
   have hst := wide_step (l.take k).sum (l.getD k 0)
   rw [← hsn] at hst
   generalize l.getD k 0 = x at *
   generalize (l.take k).sum = s at *
   generalize hs' : (l.take (k + 1)).sum = s' at *
   have HS' := hid hs'; clear hs'
   have hsum := fun W => wideSum_any (s / 4294967296) (s % 4294967296) (x / 4294967296) (x % 4294967296) W (by omega) (by omega) (by omega) (by omega) (by omega) (by omega) (by omega) (by omega)
   rw [hst.1, hst.2] at hsum
   have HS := hid hsum
   clear hsum hst hsn hs hx hcell
   have hof := wideOf_any x
   generalize x / 4294967296 = xh at *
   generalize x % 4294967296 = xl at *
   generalize s / 4294967296 = sh at *
   generalize s % 4294967296 = sl at *
   have HO := hid hof; clear hof
   unfold wval at HS HO
   go_wp2
   go_region_with (first | (go_at_call 128; refine (HO.out _).mono ?_; rintro e w2 ⟨rfl, hb2⟩; have z0 := cellK hb2 hl1 q0; have z1 := cellK hb2 hl1 q1) | (go_at_call 127; refine (HS.out _).mono ?_; rintro e w3 ⟨rfl, hb3⟩; have z2 := cellK (hb3.mono hb2.size) hl1 z0; have z3 := cellK (hb3.mono hb2.size) hl1 z1; have z4 := frozenK (hb3.mono hb2.size) hl1 (frozenK hb2 hl1 f0); have z5 := frozenK (hb3.mono hb2.size) hl1 (frozenK hb2 hl1 f1)))
   all_goals go_wp2
   all_goals go_roundw
   all_goals first | (case measure => simp [intOf]; omega) | skip
   all_goals
    refine ⟨k + 1, by omega, by go_num, by rw [HS'.out]; simp [go_sem, z2], by rw [HS'.out]; simp [go_sem, z3], ?_, by simp [go_sem, z4], by simp [go_sem, z5]⟩
    have hb' := hb.trans ((show Below wr.heap.size wr w3 from ((Below.refl _ wr).drew.trans hb2).trans (hb3.mono hb2.size)).mono (by omega))
    exact (hb'.setCell (by simp) _).setCell (by simp) _
  ·obtain rfl : k = l.length := by omega
   rw [List.take_length] at q0 q1
   generalize hX : l.sum / 4294967296 = X at *
   generalize hY : l.sum % 4294967296 = Y at *
   have HX := hid hX; have HY := hid hY
   clear hX hY
   have p0 : wr.cell? ⟨w.heap.size, 0, none⟩ = some (.int .i64 0) := (hb.cell (p := ⟨w.heap.size, 0, none⟩) (by simp)).trans (by simp [go_sem])
   have p1 : wr.cell? ⟨w.heap.size, 1, none⟩ = some (.int .i64 0) := (hb.cell (p := ⟨w.heap.size, 1, none⟩) (by simp)).trans (by simp [go_sem])
   have p2 : wr.frozen? ⟨w.heap.size, 0, none⟩ = false := (hb.frozen (p := ⟨w.heap.size, 0, none⟩) (by simp)).trans (by simp [go_sem])
   have p3 : wr.frozen? ⟨w.heap.size, 1, none⟩ = false := (hb.frozen (p := ⟨w.heap.size, 1, none⟩) (by simp)).trans (by simp [go_sem])
   go_wp2_with fail
   refine (wideFits_any X Y _).mono ?_
   rintro e w1 ⟨rfl, hb1⟩
   have y0 := cellK hb1 hl0 p0
   have y1 := cellK hb1 hl0 p1
   have y2 := frozenK hb1 hl0 p2
   have y3 := frozenK hb1 hl0 p3
   have hbw : Below w.heap.size w wr := (show Below w.heap.size w _ from ((bl1 w _).alloc (by simp) _)).trans (hb.mono (by omega))
   unfold FitsV
   by_cases h3 : MayB X Y = true
   ·rw [if_pos h3]
    unfold wval
    go_wp2
    exact bodyPost_ret (v := .tuple #[wval X Y, .int .i64 0]) (by simp [results, Tryz.results101, go_sem, wval, y0, y1]; done) rfl ⟨by unfold FitsV; rw [if_pos h3], (by repeat' first | with_reducible exact Below.refl _ _ | assumption | (with_reducible refine Below.alloc ?_ ?_ _) | (with_reducible refine Below.setCell ?_ ?_ _) | (with_reducible refine Below.drew ?_) | (with_reducible refine below_drewN ?_ _) | (with_reducible refine Below.trans ?_ (Below.mono ‹_› ?_)) | omega | (with_reducible refine le_alloc ?_) | (with_reducible refine le_setCell ?_) | (with_reducible refine le_drew ?_) | (with_reducible refine le_drewN ?_) | (with_reducible refine Nat.le_trans ?_ (Below.size ‹_›)) | (simp <;> omega))⟩
   ·rw [if_neg h3]
    unfold wval
    go_wp2
    exact bodyPost_ret (v := .tuple #[wval 0 0, .int .i64 14]) (by simp [results, Tryz.results101, go_sem, wval, y0, y1]; done) rfl ⟨by unfold FitsV; rw [if_neg h3], (by repeat' first | with_reducible exact Below.refl _ _ | assumption | (with_reducible refine Below.alloc ?_ ?_ _) | (with_reducible refine Below.setCell ?_ ?_ _) | (with_reducible refine Below.drew ?_) | (with_reducible refine below_drewN ?_ _) | (with_reducible refine Below.trans ?_ (Below.mono ‹_› ?_)) | omega | (with_reducible refine le_alloc ?_) | (with_reducible refine le_setCell ?_) | (with_reducible refine le_drew ?_) | (with_reducible refine le_drewN ?_) | (with_reducible refine Nat.le_trans ?_ (Below.size ‹_›)) | (simp <;> omega))⟩
def cmpI (a b : Int) : Int := if a < b then -1 else if b < a then 1 else 0
set_option maxRecDepth 100000 in
theorem isNaN_any (n : Int) (w : World) : Calls Tryz.prog 140 #[.int .i64 n] w fun e w' => e = .returned (.bool false) ∧ w' = w := by
 have h : (n != n) = false := by simp
 go_enter Tryz.func140, Tryz.ntmps140
 go_wp2
 go_ret
 exact ⟨rfl, rfl⟩
set_option maxRecDepth 100000 in
theorem compare_any (a b : Int) (w : World) : Calls Tryz.prog 133 #[.int .i64 a, .int .i64 b] w fun e w' => e = .returned (.int .i64 (cmpI a b)) ∧ w' = w := by
 go_enter Tryz.func133, Tryz.ntmps133
 go_wp2_with (go_at_call 140; refine (isNaN_any _ _).mono ?_; rintro e w1 ⟨rfl, rfl⟩)
 all_goals go_ret
 all_goals refine ⟨ret_int ?_, rfl⟩
 all_goals unfold cmpI
 all_goals first | (rw [if_pos (by omega)]; done) | (rw [if_neg (by omega), if_pos (by omega)]; done) | (rw [if_neg (by omega), if_neg (by omega)]; done)
def CellR (w : World) (B : Nat) (v : Value) (c : CellM) : Prop :=
 ∃ v1 v2 v3, v = .agg #[.int .i64 c.n, v1, v2, v3] ∧ Sl w B v1 (ivals c.s) ∧ Sl w B v2 (ivals c.lo) ∧ Sl w B v3 (ivals c.hi)
theorem CellR.below {w w' : World} {B : Nat} {v : Value} {c : CellM} (h : CellR w B v c) (hb : Below B w w') : CellR w' B v c := by
 obtain ⟨v1, v2, v3, e, h1, h2, h3⟩ := h
 exact ⟨v1, v2, v3, e, h1.below hb, h2.below hb, h3.below hb⟩
theorem CellR.more {w : World} {B B' : Nat} {v : Value} {c : CellM} (h : CellR w B v c) (hb : B ≤ B') : CellR w B' v c := by
 obtain ⟨v1, v2, v3, e, h1, h2, h3⟩ := h
 exact ⟨v1, v2, v3, e, h1.more hb, h2.more hb, h3.more hb⟩
theorem CellR.nil_ {w : World} {B : Nat} : CellR w B (.agg #[.int .i64 0, .slice none 0 0, .slice none 0 0, .slice none 0 0]) nilC := ⟨_, _, _, rfl, Sl.nil_, Sl.nil_, Sl.nil_⟩
theorem Sl.formI {w : World} {B : Nat} {v : Value} {l : List Int} (h : Sl w B v (ivals l)) : ∃ A c, v = .slice A l.length c ∧ l.length ≤ c ∧ c ≤ maxLen := by
 obtain ⟨A, c, rfl, h1, h2, -⟩ := h
 rw [ivals_len] at h1 ⊢
 exact ⟨A, c, rfl, h1, h2⟩
theorem Sl.int {w : World} {B n c : Nat} {A : Option Addr} {l : List Int} {k : Nat} (h : Sl w B (.slice A n c) (ivals l)) (hk : k < l.length) :
  ∃ b off, A = some ⟨b, off, none⟩ ∧ b < B ∧ w.cell? ⟨b, off + k, none⟩ = some (.int .i64 (l.getD k 0)) := by
 obtain ⟨A', c', e, h1, h2, h3⟩ := h
 injection e with e1 _ _
 subst e1
 exact Sl.of_int h3 hk
theorem take_succ_getD (l : List Int) (k : Nat) (hk : k < l.length) : l.take (k + 1) = l.take k ++ [l.getD k 0] := by
 rw [List.take_succ_eq_append_getElem hk, List.getD_eq_getElem?_getD, List.getElem?_eq_getElem hk]; rfl
theorem getD_ne {l r : List Int} {k : Nat} (h : l.getD k 0 ≠ r.getD k 0) : l ≠ r := fun e => h (by rw [e])
set_option maxRecDepth 100000 in
theorem refInC_any (x m : Int) (w : World) (h0 : 0 ≤ m) (h1 : m ≤ 4611686018427387904) :
  Calls Tryz.prog 137 #[.int .i64 x, .int .i64 m] w (Stays (.bool (inB x m)) w) := by
 have hu : inB x m = (decide (-m ≤ x) && decide (x ≤ m)) := rfl
 rw [hu]
 clear hu
 go_enter Tryz.func137, Tryz.ntmps137
 go_wp2
 all_goals go_ret
 all_goals refine ⟨ret_bool ?_, Qu.refl _⟩
 all_goals simp [*] <;> omega
set_option maxRecDepth 100000 in
theorem within_any (x m : Int) (w : World) (h0 : 0 ≤ m) (h1 : m ≤ 4611686018427387904) :
  Calls Tryz.prog 99 #[.int .i64 x, .int .i64 m] w (Stays (.bool (inB x m)) w) := by
 have hu : inB x m = (decide (-m ≤ x) && decide (x ≤ m)) := rfl
 rw [hu]
 clear hu
 go_enter Tryz.func99, Tryz.ntmps99
 go_wp2
 all_goals go_ret
 all_goals refine ⟨ret_bool ?_, Qu.refl _⟩
 all_goals simp [*] <;> omega
def EqRel (l r : List Int) (w : World) (i : Value) (wr : World) : Prop := ∃ k : Nat, k ≤ l.length ∧ i = .int .i64 k ∧ l.take k = r.take k ∧ Qu w wr
end Go.Proofs.YtgoapnkdcfcjgaaGreat
