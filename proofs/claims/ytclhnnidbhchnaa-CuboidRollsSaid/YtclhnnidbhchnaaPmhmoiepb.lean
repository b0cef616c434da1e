/- 2 texts of this claim, in build order. -/
import Derived.Test.YtclhnnidbhchnaaPnmcpgjaa
/- slices.Equal, ContainsFunc, IndexFunc, Min, Max, Clone at ints; cell.pick. -/
namespace Go.Proofs.Ytclhnnidbhchnaa
open Go.ChangeShapes Go.WideShapes Go.ChangeAt Go.RowKit
set_option linter.unusedVariables false

set_option maxRecDepth 100000 in
theorem pick_lt_any (a b : Int) (w : World) : Calls Try.prog 42 #[.int .i64 a, .int .i64 b, .int .i64 (-1)] w (fun e w' => e = .returned (.int .i64 (min a b)) ∧ w = w') := by
  go_enter Try.func42, Try.ntmps42
  have hc := fun w => compare_any a b w
  by_cases h : a < b
  · have e : cmpI a b = -1 := by unfold cmpI; rw [if_pos h]
    rw [e] at hc
    go_wp2_with fail
    refine (hc _).mono ?_
    rintro e w1 ⟨rfl, rfl⟩
    go_wp2
    go_ret
    exact ⟨ret_int (by omega), rfl⟩
  · have e : (cmpI a b == -1) = false := by unfold cmpI; rw [if_neg h]; split <;> rfl
    go_wp2_with fail
    refine (hc _).mono ?_
    rintro e w1 ⟨rfl, rfl⟩
    go_wp2
    go_ret
    exact ⟨ret_int (by omega), rfl⟩
set_option maxRecDepth 100000 in
theorem pick_gt_any (a b : Int) (w : World) : Calls Try.prog 42 #[.int .i64 a, .int .i64 b, .int .i64 1] w (fun e w' => e = .returned (.int .i64 (max a b)) ∧ w = w') := by
  go_enter Try.func42, Try.ntmps42
  have hc := fun w => compare_any a b w
  by_cases h : b < a
  · have e : cmpI a b = 1 := by unfold cmpI; rw [if_neg (by omega), if_pos h]
    rw [e] at hc
    go_wp2_with fail
    refine (hc _).mono ?_
    rintro e w1 ⟨rfl, rfl⟩
    go_wp2
    go_ret
    exact ⟨ret_int (by omega), rfl⟩
  · have e : (cmpI a b == 1) = false := by unfold cmpI; split <;> (try split) <;> first | rfl | omega
    go_wp2_with fail
    refine (hc _).mono ?_
    rintro e w1 ⟨rfl, rfl⟩
    go_wp2
    go_ret
    exact ⟨ret_int (by omega), rfl⟩
set_option maxRecDepth 100000 in
set_option maxHeartbeats 800000 in
theorem equalI_any (v x : Value) (l r : List Int) (w : World) (B : Nat) (hv : Sl w B v (ivals l)) (hx : Sl w B x (ivals r)) :
    Calls Try.prog 97 #[v, x] w (Stays (.bool (decide (l = r))) w) := by
  obtain ⟨A1, c1, rfl, hc1, hm1⟩ := hv.formI
  obtain ⟨A2, c2, rfl, hc2, hm2⟩ := hx.formI
  unfold maxLen at hm1 hm2
  have S1 := hid hv; have S2 := hid hx; clear hv hx
  have hdec : l ≠ r → decide (l = r) = false := fun h => decide_eq_false h
  have hyes : l = r → decide (l = r) = true := fun h => decide_eq_true h
  generalize decide (l = r) = res at *
  have HD := hid hdec; have HY := hid hyes; clear hdec hyes
  go_enter Try.func97, Try.ntmps97
  by_cases hl : l.length = r.length
  · have HL := hid hl
    have u0 : ((l.length : Int) != (r.length : Int)) = false := by simp [hl]
    clear hl
    go_wp2
    go_loopw [13] (fun i wr => EqRel l r w i wr) (fun i _ => l.length - (intOf i).toNat)
    case atStart => exact ⟨0, by omega, rfl, rfl, Qu.refl _⟩
    case round =>
      obtain ⟨k, hk, rfl, hsame, hq⟩ := hrel
      have HS := hid hsame; clear hsame
      by_cases hlt : k < l.length
      · have hlt' : k < r.length := by have := HL.out; omega
        obtain ⟨b1, o1, rfl, hb1, hx1⟩ := S1.out.int hlt
        obtain ⟨b2, o2, rfl, hb2, hx2⟩ := S2.out.int hlt'
        have g1 : wr.cell? ⟨b1, o1 + k, none⟩ = _ := (hq.cell _).trans hx1
        have g2 : wr.cell? ⟨b2, o2 + k, none⟩ = _ := (hq.cell _).trans hx2
        clear hx1 hx2
        have e1 := take_succ_getD l k hlt
        have e2 := take_succ_getD r k hlt'
        have hgn : l.getD k 0 ≠ r.getD k 0 → l ≠ r := getD_ne
        generalize l.getD k 0 = p1 at *
        generalize r.getD k 0 = p2 at *
        by_cases he : p1 = p2
        · subst he
          have hs' : l.take (k + 1) = r.take (k + 1) := by rw [e1, e2, HS.out]
          have t2 : (p1 != p1) = false := by simp
          have HS' := hid hs'; clear e1 e2 hs' hgn
          go_wp2
          go_quiet (fail)
          go_wp2
          go_roundw
          case rel => exact ⟨k + 1, by omega, by go_num, HS'.out, hq.drewN _⟩
          case measure => simp [intOf]; omega
        · have hn := HD.out (hgn he)
          have t2 : (p1 != p2) = true := by simpa using he
          have HN := hid hn; clear e1 e2 hgn hn he
          go_wp2
          go_quiet (fail)
          go_wp2
          go_ret
          exact ⟨ret_bool HN.out.symm, hq.drewN _⟩
      · have he1 : l = r := by
          have := HS.out
          rwa [List.take_of_length_le (by omega), List.take_of_length_le (by have := HL.out; omega)] at this
        have hn := HY.out he1
        have HN := hid hn; clear he1 HS hn
        go_wp2
        go_ret
        exact ⟨ret_bool HN.out.symm, hq⟩
  · have u0 : ((l.length : Int) != (r.length : Int)) = true := by simp; omega
    have hn := HD.out (fun e => hl (by rw [e]))
    have HN := hid hn
    clear hl hn
    go_wp2
    go_ret
    exact ⟨ret_bool HN.out.symm, Qu.refl _⟩
set_option maxRecDepth 100000 in
theorem foldAt_any (x : Int) (w : World) : Calls Try.prog 83 #[.int .i64 x] w (Stays (.bool (!inB x VAL)) w) := by
  go_enter Try.func83, Try.ntmps83
  go_wp2_with fail
  refine (within_any _ _ _ (by omega) (by omega)).mono ?_
  rintro e w1 ⟨rfl, hq⟩
  go_wp2
  go_ret
  exact ⟨rfl, hq⟩
def AllRel (l : List Int) (w : World) (i : Value) (wr : World) : Prop := ∃ k : Nat, k ≤ l.length ∧ i = .int .i64 k ∧ (∀ x ∈ l.take k, inB x VAL = true) ∧ Qu w wr
theorem all_take_succ {l : List Int} {k : Nat} (h : ∀ x ∈ l.take k, inB x VAL = true) (hk : k < l.length) (hx : inB (l.getD k 0) VAL = true) : ∀ x ∈ l.take (k + 1), inB x VAL = true := by
  intro x hm
  rw [take_succ_getD l k hk] at hm
  rcases List.mem_append.1 hm with h' | h'
  · exact h x h'
  · simp at h'; rw [h']; exact hx
theorem getD_mem {l : List Int} {k : Nat} (hk : k < l.length) : l.getD k 0 ∈ l := by
  rw [List.getD_eq_getElem?_getD, List.getElem?_eq_getElem hk]; exact List.getElem_mem hk
def IdxP (l : List Int) (w : World) (e : Ending) (w' : World) : Prop := (∃ i : Int, e = .returned (.int .i64 i) ∧ (decide (0 ≤ i)) = !(l.all fun x => inB x VAL)) ∧ Qu w w'
set_option maxRecDepth 100000 in
set_option maxHeartbeats 800000 in
theorem indexI_any (v : Value) (l : List Int) (w : World) (B : Nat) (hv : Sl w B v (ivals l)) :
    Calls Try.prog 102 #[v, .func (Fn.func 83) #[] #[]] w (IdxP l w) := by
  obtain ⟨A1, c1, rfl, hc1, hm1⟩ := hv.formI
  unfold maxLen at hm1
  have S1 := hid hv; clear hv
  go_enter Try.func102, Try.ntmps102
  go_wp2
  go_loopw [8] (fun i wr => AllRel l w i wr) (fun i _ => l.length - (intOf i).toNat)
  case atStart => exact ⟨0, by omega, rfl, by simp, Qu.refl _⟩
  case round =>
    obtain ⟨k, hk, rfl, hall, hq⟩ := hrel
    have HA := hid hall; clear hall
    by_cases hlt : k < l.length
    · obtain ⟨b1, o1, rfl, hb1, hx1⟩ := S1.out.int hlt
      have g1 : wr.cell? ⟨b1, o1 + k, none⟩ = _ := (hq.cell _).trans hx1
      clear hx1
      have hm := getD_mem hlt
      have hn := all_take_succ HA.out hlt
      generalize l.getD k 0 = x at *
      have HM := hid hm; have HN := hid hn; clear hm hn
      have hf := foldAt_any x
      cases hb : inB x VAL
      · rw [hb] at hf
        have HF := hid hf; have HB := hid hb; clear hf hb
        go_wp2_with fail
        refine (HF.out _).mono ?_
        rintro e w1 ⟨rfl, hq1⟩
        go_wp2
        go_ret
        refine ⟨⟨_, rfl, ?_⟩, hq.trans hq1⟩
        rw [decide_eq_true (by omega)]
        symm
        rw [Bool.not_eq_true', ← Bool.not_eq_true, List.all_eq_true]
        intro h
        have := h x HM.out
        rw [HB.out] at this
        cases this
      · rw [hb] at hf
        have HF := hid hf; have HB := hid hb; clear hf hb
        go_wp2_with fail
        refine (HF.out _).mono ?_
        rintro e w1 ⟨rfl, hq1⟩
        go_wp2
        go_roundw
        case rel => exact ⟨k + 1, by omega, by go_num, HN.out HB.out, hq.trans hq1⟩
        case measure => simp [intOf]; omega
    · have := HA.out
      rw [List.take_of_length_le (by omega)] at this
      have HT := hid this; clear this
      go_wp2
      go_ret
      refine ⟨⟨_, rfl, ?_⟩, hq⟩
      rw [List.all_eq_true.2 (by simpa using HT.out)]
      rfl
set_option maxRecDepth 100000 in
theorem containsI_any (v : Value) (l : List Int) (w : World) (B : Nat) (hv : Sl w B v (ivals l)) :
    Calls Try.prog 82 #[v, .func (Fn.func 83) #[] #[]] w (Stays (.bool (!(l.all fun x => inB x VAL))) w) := by
  have HI := hid (fun W (hq : Qu w W) => indexI_any v l W B (hv.qu' hq))
  clear hv
  go_enter Try.func82, Try.ntmps82
  go_wp2_with fail
  refine (HI.out _ (Qu.refl _)).mono ?_
  rintro e w1 ⟨⟨i, rfl, hi⟩, hq⟩
  go_wp2
  go_ret
  exact ⟨ret_bool (by rw [← hi]), hq⟩
def MinRel (f : Int → Int → Int) (l : List Int) (w : World) (m i : Value) (wr : World) : Prop := ∃ k : Nat, 1 ≤ k ∧ k ≤ l.length ∧ i = .int .i64 k ∧ m = .int .i64 ((l.take k).tail.foldl f (l.getD 0 0)) ∧ Qu w wr
theorem fold_step {f : Int → Int → Int} {l : List Int} {k : Nat} (h1 : 1 ≤ k) (hk : k < l.length) : (l.take (k + 1)).tail.foldl f (l.getD 0 0) = f ((l.take k).tail.foldl f (l.getD 0 0)) (l.getD k 0) := by
  rw [take_succ_getD l k hk]
  have hne : l.take k ≠ [] := by intro e; have := congrArg List.length e; rw [List.length_take, List.length_nil] at this; omega
  rw [List.tail_append_of_ne_nil hne, List.foldl_append]
  rfl
theorem minL_fold {l : List Int} (h : l ≠ []) : minL l = l.tail.foldl min (l.getD 0 0) := by cases l with
  | nil => exact absurd rfl h
  | cons x l => rfl
theorem maxL_fold {l : List Int} (h : l ≠ []) : maxL l = l.tail.foldl max (l.getD 0 0) := by cases l with
  | nil => exact absurd rfl h
  | cons x l => rfl
set_option maxRecDepth 100000 in
set_option maxHeartbeats 800000 in
theorem minI_any (v : Value) (l : List Int) (w : World) (B : Nat) (hv : Sl w B v (ivals l)) (h0 : l ≠ []) :
    Calls Try.prog 84 #[v] w (Stays (.int .i64 (minL l)) w) := by
  rw [minL_fold h0]
  obtain ⟨A1, c1, rfl, hc1, hm1⟩ := hv.formI
  unfold maxLen at hm1
  have hpos := List.length_pos_iff.2 h0
  obtain ⟨b1, o1, rfl, hb1, hx0⟩ := hv.int hpos
  rw [Nat.add_zero] at hx0
  have S1 := hid hv; clear hv h0
  go_enter Try.func84, Try.ntmps84
  go_wp2
  go_loopw [3, 4] (fun m i wr => MinRel min l w m i wr) (fun _ i _ => l.length - (intOf i).toNat)
  case atStart => exact ⟨1, by omega, by omega, rfl, by rw [show (l.take 1).tail = [] by cases l <;> simp]; simp [List.getD_eq_getElem?_getD, List.getElem?_eq_getElem hpos], Qu.refl _⟩
  case round =>
    obtain ⟨k, hk1, hk, rfl, rfl, hq⟩ := hrel
    by_cases hlt : k < l.length
    · obtain ⟨b2, o2, e, hb2, hx1⟩ := S1.out.int hlt
      injection e with e; injection e with e1 e2 _; subst e1 e2
      have g1 : wr.cell? ⟨b1, o1 + k, none⟩ = _ := (hq.cell _).trans hx1
      clear hx1
      have hs := fold_step (f := min) hk1 hlt
      generalize l.getD k 0 = x at *
      generalize (l.take k).tail.foldl min (l.getD 0 0) = y at *
      have HS := hid hs; clear hs
      go_wp2
      go_roundw
      case rel => exact ⟨k + 1, by omega, by omega, by go_num, by rw [HS.out]; congr 1; rw [Int.min_def]; split <;> split <;> omega, hq⟩
      case measure => simp [intOf]; omega
    · obtain rfl : k = l.length := by omega
      go_wp2
      go_ret
      exact ⟨by first | rfl | (rw [List.take_length]; rfl), hq⟩
set_option maxRecDepth 100000 in
set_option maxHeartbeats 800000 in
theorem maxI_any (v : Value) (l : List Int) (w : World) (B : Nat) (hv : Sl w B v (ivals l)) (h0 : l ≠ []) :
    Calls Try.prog 85 #[v] w (Stays (.int .i64 (maxL l)) w) := by
  rw [maxL_fold h0]
  obtain ⟨A1, c1, rfl, hc1, hm1⟩ := hv.formI
  unfold maxLen at hm1
  have hpos := List.length_pos_iff.2 h0
  obtain ⟨b1, o1, rfl, hb1, hx0⟩ := hv.int hpos
  rw [Nat.add_zero] at hx0
  have S1 := hid hv; clear hv h0
  go_enter Try.func85, Try.ntmps85
  go_wp2
  go_loopw [3, 4] (fun m i wr => MinRel max l w m i wr) (fun _ i _ => l.length - (intOf i).toNat)
  case atStart => exact ⟨1, by omega, by omega, rfl, by rw [show (l.take 1).tail = [] by cases l <;> simp]; simp [List.getD_eq_getElem?_getD, List.getElem?_eq_getElem hpos], Qu.refl _⟩
  case round =>
    obtain ⟨k, hk1, hk, rfl, rfl, hq⟩ := hrel
    by_cases hlt : k < l.length
    · obtain ⟨b2, o2, e, hb2, hx1⟩ := S1.out.int hlt
      injection e with e; injection e with e1 e2 _; subst e1 e2
      have g1 : wr.cell? ⟨b1, o1 + k, none⟩ = _ := (hq.cell _).trans hx1
      clear hx1
      have hs := fold_step (f := max) hk1 hlt
      generalize l.getD k 0 = x at *
      generalize (l.take k).tail.foldl max (l.getD 0 0) = y at *
      have HS := hid hs; clear hs
      go_wp2
      go_roundw
      case rel => exact ⟨k + 1, by omega, by omega, by go_num, by rw [HS.out]; congr 1; rw [Int.max_def]; split <;> split <;> omega, hq⟩
      case measure => simp [intOf]; omega
    · obtain rfl : k = l.length := by omega
      go_wp2
      go_ret
      exact ⟨by first | rfl | (rw [List.take_length]; rfl), hq⟩
end Go.Proofs.Ytclhnnidbhchnaa
/- The reference's total, Values, Merge. -/
namespace Go.Proofs.Ytclhnnidbhchnaa
open Go.ChangeShapes Go.WideShapes Go.ChangeAt Go.RowKit
set_option linter.unusedVariables false

def okSum (x : Int) : Bool := decide (-SUM ≤ x ∧ x ≤ SUM)
theorem okSum_iff {x : Int} : okSum x = true ↔ -SUM ≤ x ∧ x ≤ SUM := by unfold okSum; rw [decide_eq_true_eq]
def TotalP (x : Int) (w : World) (e : Ending) (w' : World) : Prop := (∃ y, e = .returned (.tuple #[.int .i64 y, .bool (okSum x)]) ∧ (okSum x = true → y = x)) ∧ Below w.heap.size w w'
set_option maxRecDepth 100000 in
set_option maxHeartbeats 800000 in
theorem total_any (v : Value) (l : List Int) (w : World) (hl : l.length ≤ 1073741824) (hv : Sl w w.heap.size v (ivals l)) (h1 : -604462909807314587353088 ≤ l.sum) (h2 : l.sum < 604462909807314587353088) :
    Calls Try.prog 48 #[v] w (TotalP l.sum w) := by
  have HT := hid (refTotal_any v l w hl hv); clear hv
  obtain ⟨z, hz⟩ : ∃ z, z = l.sum := ⟨_, rfl⟩
  rw [← hz] at h1 h2 ⊢
  have HZ := hid hz; clear hz
  have H1 := hid h1; have H2 := hid h2; clear h1 h2
  go_enter Try.func48, Try.ntmps48
  go_wp2_with fail
  refine HT.out.mono ?_
  rintro e w1 ⟨v1, rfl, hs1, hb1⟩
  rw [← HZ.out] at hs1
  have HI := hid (refInt_any v1 z w1 hs1 H1.out H2.out)
  have HB := hid hb1
  clear hs1 hb1
  cases hf : FitsI z
  · have hno : okSum z = false := by
      rw [Bool.eq_false_iff]; intro h
      have := okSum_iff.1 h
      unfold SUM at this
      unfold FitsI at hf
      rw [decide_eq_false_iff_not] at hf
      omega
    rw [show RefIntPost z w1 = fun e w' => e = .returned (.tuple #[.int .i64 0, .int .i64 14]) ∧ Qu w1 w' by unfold RefIntPost; rw [hf]; rfl] at HI
    have HN := hid hno; clear hno hf
    go_wp2_with fail
    refine HI.out.mono ?_
    rintro e w2 ⟨rfl, hq⟩
    go_wp2
    go_ret2
    exact ⟨⟨0, by rw [HN.out]; rfl, fun h => by rw [HN.out] at h; cases h⟩, HB.out.trans (hq.below _)⟩
  · have hin : inB z 4611686018427387904 = okSum z := by
      rw [Bool.eq_iff_iff, inB_iff, okSum_iff]; exact Iff.rfl
    rw [show RefIntPost z w1 = fun e w' => e = .returned (.tuple #[.int .i64 z, .int .i64 0]) ∧ Qu w1 w' by unfold RefIntPost; rw [hf]; rfl] at HI
    have HC := hid (fun w => refInC_any z 4611686018427387904 w (by omega) (by omega))
    rw [hin] at HC
    clear hin hf
    go_wp2_with fail
    refine HI.out.mono ?_
    rintro e w2 ⟨rfl, hq⟩
    go_wp2_with fail
    refine (HC.out _).mono ?_
    rintro e w3 ⟨rfl, hq3⟩
    go_wp2
    go_ret2
    exact ⟨⟨z, rfl, fun _ => rfl⟩, (HB.out.trans (hq.below _)).trans (hq3.below _)⟩
end Go.Proofs.Ytclhnnidbhchnaa
