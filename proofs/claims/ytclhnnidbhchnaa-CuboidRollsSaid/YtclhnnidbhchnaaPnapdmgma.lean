/- 2 texts of this claim, in build order. -/
import Derived.Test.YtclhnnidbhchnaaPajbeolee
import Derived.Test.YtclhnnidbhchnaaPhffoljof
/- Contracts of cmp.Compare, cmp.Or at int, of wide.Cmp, and of wide.Total. -/
namespace Go.Proofs.Ytclhnnidbhchnaa
open Go.ChangeShapes Go.WideShapes Go.ChangeAt Go.RowKit
set_option linter.unusedVariables false

/-! ### Total -/
theorem wide_step (x y : Int) : x / 4294967296 + y / 4294967296 + (x % 4294967296 + y % 4294967296) / 4294967296 = (x + y) / 4294967296 ∧ (x % 4294967296 + y % 4294967296) % 4294967296 = (x + y) % 4294967296 := by omega
theorem sum_bounds (l : List Int) (hr : ∀ x ∈ l, -9223372036854775808 ≤ x ∧ x ≤ 9223372036854775807) : -9223372036854775808 * (l.length : Int) ≤ l.sum ∧ l.sum ≤ 9223372036854775808 * (l.length : Int) := by
  induction l with
  | nil => simp
  | cons x l ih =>
    have h1 := hr x (by simp)
    have h2 := ih (fun y hy => hr y (by simp [hy]))
    simp only [List.sum_cons, List.length_cons]
    omega
theorem take_succ_sum (l : List Int) (k : Nat) (hk : k < l.length) : (l.take (k + 1)).sum = (l.take k).sum + l.getD k 0 := by
  rw [List.take_succ_eq_append_getElem hk, List.sum_append, List.getD_eq_getElem?_getD, List.getElem?_eq_getElem hk]
  simp
def TotRel (l : List Int) (w : World) (i : Value) (wr : World) : Prop :=
  ∃ k : Nat, k ≤ l.length ∧ i = .int .i64 k ∧ wr.cell? ⟨w.heap.size + 1, 0, none⟩ = some (.int .i64 ((l.take k).sum / 4294967296)) ∧ wr.cell? ⟨w.heap.size + 1, 1, none⟩ = some (.int .i64 ((l.take k).sum % 4294967296)) ∧
    Below (w.heap.size + 1) ((w.alloc (.cells #[.int .i64 0, .int .i64 0] 82)).alloc (.cells #[.int .i64 0, .int .i64 0] 82)) wr ∧ wr.frozen? ⟨w.heap.size + 1, 0, none⟩ = false ∧ wr.frozen? ⟨w.heap.size + 1, 1, none⟩ = false
set_option maxRecDepth 100000 in
set_option maxHeartbeats 800000 in
theorem wideTotal_any (v : Value) (l : List Int) (w : World) (hl : l.length ≤ 1073741824) (hv : Sl w w.heap.size v (ivals l)) (hr : ∀ x ∈ l, -9223372036854775808 ≤ x ∧ x ≤ 9223372036854775807) :
    Calls Try.prog 43 #[v] w (Gives (.tuple (FitsV (l.sum / 4294967296) (l.sum % 4294967296))) w) := by
  obtain ⟨A, c, rfl, hc1, hc2, hA⟩ := hv
  simp only [ivals_len] at *
  have HA := hid hA; have HR := hid hr
  clear hA hr
  go_enter Try.func43, Try.ntmps43
  go_wp2
  go_loopw [9] (fun i wr => TotRel l w i wr) (fun i _ => l.length - (intOf i).toNat)
  case atStart => exact ⟨0, by omega, rfl, by simp [go_sem], by simp [go_sem], Below.refl _ _, by simp [go_sem], by simp [go_sem]⟩
  case round =>
    obtain ⟨k, hk, rfl, q0, q1, hb, f0, f1⟩ := hrel
    have hbs := hb.size
    simp at hbs
    have hl0 : w.heap.size < wr.heap.size := by omega
    have hl1 : w.heap.size + 1 < wr.heap.size := by omega
    by_cases hlt : k < l.length
    · obtain ⟨b, off, rfl, hbl, hcell⟩ := HA.out (by omega)
      have g1 : wr.cell? ⟨b, off + k, none⟩ = some (.int .i64 (l.getD k 0)) := by
        rw [(hb.cell (p := ⟨b, off + k, none⟩) (by show b < _; omega))]
        rw [World.cell?_alloc_past _ _ _ (by simp; omega), World.cell?_alloc_past _ _ _ (by omega)]
        refine hcell k _ ?_
        simp [ivals, List.getElem?_eq_getElem hlt]
      have hx := HR.out (l.getD k 0) (by rw [List.getD_eq_getElem?_getD, List.getElem?_eq_getElem hlt]; simp)
      have hs := sum_bounds (l.take k) (fun x hx => HR.out x (List.mem_of_mem_take hx))
      rw [List.length_take, Nat.min_eq_left hk] at hs
      have hsn := take_succ_sum l k hlt
      have hst := wide_step (l.take k).sum (l.getD k 0)
      rw [← hsn] at hst
      generalize l.getD k 0 = x at *
      generalize (l.take k).sum = s at *
      generalize hs' : (l.take (k + 1)).sum = s' at *
      have HS' := hid hs'; clear hs'
      have hsum := fun W => wideSum_any (s / 4294967296) (s % 4294967296) (x / 4294967296) (x % 4294967296) W (by omega) (by omega) (by omega) (by omega) (by omega) (by omega) (by omega) (by omega)
      rw [hst.1, hst.2] at hsum
      have HS := hid hsum
      clear hsum hst hsn hs hx hcell
      have hof := wideOf_any x
      generalize x / 4294967296 = xh at *
      generalize x % 4294967296 = xl at *
      generalize s / 4294967296 = sh at *
      generalize s % 4294967296 = sl at *
      have HO := hid hof; clear hof
      unfold wval at HS HO
      go_wp2
      go_region_with (first | (go_at_call 76; refine (HO.out _).mono ?_; rintro e w2 ⟨rfl, hb2⟩; have z0 := cellK hb2 hl1 q0; have z1 := cellK hb2 hl1 q1) | (go_at_call 75; refine (HS.out _).mono ?_; rintro e w3 ⟨rfl, hb3⟩; have z2 := cellK (hb3.mono hb2.size) hl1 z0; have z3 := cellK (hb3.mono hb2.size) hl1 z1; have z4 := frozenK (hb3.mono hb2.size) hl1 (frozenK hb2 hl1 f0); have z5 := frozenK (hb3.mono hb2.size) hl1 (frozenK hb2 hl1 f1)))
      all_goals go_wp2
      all_goals go_roundw
      all_goals first | (case measure => simp [intOf]; omega) | skip
      all_goals
        refine ⟨k + 1, by omega, by go_num, by rw [HS'.out]; simp [go_sem, z2], by rw [HS'.out]; simp [go_sem, z3], ?_, by simp [go_sem, z4], by simp [go_sem, z5]⟩
        have hb' := hb.trans ((show Below wr.heap.size wr w3 from ((Below.refl _ wr).drew.trans hb2).trans (hb3.mono hb2.size)).mono (by omega))
        exact (hb'.setCell (by simp) _).setCell (by simp) _
    · obtain rfl : k = l.length := by omega
      rw [List.take_length] at q0 q1
      generalize hX : l.sum / 4294967296 = X at *
      generalize hY : l.sum % 4294967296 = Y at *
      have HX := hid hX; have HY := hid hY
      clear hX hY
      have p0 : wr.cell? ⟨w.heap.size, 0, none⟩ = some (.int .i64 0) := (hb.cell (p := ⟨w.heap.size, 0, none⟩) (by simp)).trans (by simp [go_sem])
      have p1 : wr.cell? ⟨w.heap.size, 1, none⟩ = some (.int .i64 0) := (hb.cell (p := ⟨w.heap.size, 1, none⟩) (by simp)).trans (by simp [go_sem])
      have p2 : wr.frozen? ⟨w.heap.size, 0, none⟩ = false := (hb.frozen (p := ⟨w.heap.size, 0, none⟩) (by simp)).trans (by simp [go_sem])
      have p3 : wr.frozen? ⟨w.heap.size, 1, none⟩ = false := (hb.frozen (p := ⟨w.heap.size, 1, none⟩) (by simp)).trans (by simp [go_sem])
      go_wp2_with fail
      refine (wideFits_any X Y _).mono ?_
      rintro e w1 ⟨rfl, hb1⟩
      have y0 := cellK hb1 hl0 p0
      have y1 := cellK hb1 hl0 p1
      have y2 := frozenK hb1 hl0 p2
      have y3 := frozenK hb1 hl0 p3
      have hbw : Below w.heap.size w wr := (show Below w.heap.size w _ from ((bl1 w _).alloc (by simp) _)).trans (hb.mono (by omega))
      unfold FitsV
      by_cases h3 : MayB X Y = true
      · rw [if_pos h3]
        unfold wval
        go_wp2
        exact bodyPost_ret (v := .tuple #[wval X Y, .int .i64 0]) (by simp [results, Try.results43, go_sem, wval, y0, y1]; done) rfl ⟨by unfold FitsV; rw [if_pos h3], (by repeat' first | with_reducible exact Below.refl _ _ | assumption | (with_reducible refine Below.alloc ?_ ?_ _) | (with_reducible refine Below.setCell ?_ ?_ _) | (with_reducible refine Below.drew ?_) | (with_reducible refine below_drewN ?_ _) | (with_reducible refine Below.trans ?_ (Below.mono ‹_› ?_)) | omega | (with_reducible refine le_alloc ?_) | (with_reducible refine le_setCell ?_) | (with_reducible refine le_drew ?_) | (with_reducible refine le_drewN ?_) | (with_reducible refine Nat.le_trans ?_ (Below.size ‹_›)) | (simp <;> omega))⟩
      · rw [if_neg h3]
        unfold wval
        go_wp2
        exact bodyPost_ret (v := .tuple #[wval 0 0, .int .i64 14]) (by simp [results, Try.results43, go_sem, wval, y0, y1]; done) rfl ⟨by unfold FitsV; rw [if_neg h3], (by repeat' first | with_reducible exact Below.refl _ _ | assumption | (with_reducible refine Below.alloc ?_ ?_ _) | (with_reducible refine Below.setCell ?_ ?_ _) | (with_reducible refine Below.drew ?_) | (with_reducible refine below_drewN ?_ _) | (with_reducible refine Below.trans ?_ (Below.mono ‹_› ?_)) | omega | (with_reducible refine le_alloc ?_) | (with_reducible refine le_setCell ?_) | (with_reducible refine le_drew ?_) | (with_reducible refine le_drewN ?_) | (with_reducible refine Nat.le_trans ?_ (Below.size ‹_›)) | (simp <;> omega))⟩
end Go.Proofs.Ytclhnnidbhchnaa
/- cmp.Compare at int. -/
namespace Go.Proofs.Ytclhnnidbhchnaa
open Go.ChangeShapes Go.WideShapes Go.ChangeAt Go.RowKit
set_option linter.unusedVariables false

def cmpI (a b : Int) : Int := if a < b then -1 else if b < a then 1 else 0
set_option maxRecDepth 100000 in
theorem isNaN_any (n : Int) (w : World) : Calls Try.prog 98 #[.int .i64 n] w fun e w' => e = .returned (.bool false) ∧ w' = w := by
  have h : (n != n) = false := by simp
  go_enter Try.func98, Try.ntmps98
  go_wp2
  go_ret
  exact ⟨rfl, rfl⟩
set_option maxRecDepth 100000 in
theorem compare_any (a b : Int) (w : World) : Calls Try.prog 74 #[.int .i64 a, .int .i64 b] w fun e w' => e = .returned (.int .i64 (cmpI a b)) ∧ w' = w := by
  go_enter Try.func74, Try.ntmps74
  go_wp2_with (go_at_call 98; refine (isNaN_any _ _).mono ?_; rintro e w1 ⟨rfl, rfl⟩)
  all_goals go_ret
  all_goals refine ⟨ret_int ?_, rfl⟩
  all_goals unfold cmpI
  all_goals first | (rw [if_pos (by omega)]; done) | (rw [if_neg (by omega), if_pos (by omega)]; done) | (rw [if_neg (by omega), if_neg (by omega)]; done)
end Go.Proofs.Ytclhnnidbhchnaa
