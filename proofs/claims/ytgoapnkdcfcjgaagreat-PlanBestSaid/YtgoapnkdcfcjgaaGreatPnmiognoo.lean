/- 3 texts of this claim, in build order. -/
import Derived.Test.YtgoapnkdcfcjgaaGreatPifimpmmc
namespace Go.Proofs.YtgoapnkdcfcjgaaGreat
open Go.ChangeShapes Go.WideShapes Go.ChangeAt Go.RowKit
set_option linter.unusedVariables false
set_option maxRecDepth 100000 in
theorem pick_lt_any (a b : Int) (w : World) : Calls Tryz.prog 110 #[.int .i64 a, .int .i64 b, .int .i64 (-1)] w (fun e w' => e = .returned (.int .i64 (min a b)) ∧ w = w') := by
 go_enter Tryz.func110, Tryz.ntmps110
 have hc := fun w => compare_any a b w
 by_cases h : a < b
 ·have e : cmpI a b = -1 := by unfold cmpI; rw [if_pos h]
  rw [e] at hc
  go_wp2_with fail
  refine (hc _).mono ?_
  rintro e w1 ⟨rfl, rfl⟩
  go_wp2
  go_ret
  exact ⟨ret_int (by omega), rfl⟩
 ·have e : (cmpI a b == -1) = false := by unfold cmpI; rw [if_neg h]; split <;> rfl
  go_wp2_with fail
  refine (hc _).mono ?_
  rintro e w1 ⟨rfl, rfl⟩
  go_wp2
  go_ret
  exact ⟨ret_int (by omega), rfl⟩
set_option maxRecDepth 100000 in
theorem pick_gt_any (a b : Int) (w : World) : Calls Tryz.prog 110 #[.int .i64 a, .int .i64 b, .int .i64 1] w (fun e w' => e = .returned (.int .i64 (max a b)) ∧ w = w') := by
 go_enter Tryz.func110, Tryz.ntmps110
 have hc := fun w => compare_any a b w
 by_cases h : b < a
 ·have e : cmpI a b = 1 := by unfold cmpI; rw [if_neg (by omega), if_pos h]
  rw [e] at hc
  go_wp2_with fail
  refine (hc _).mono ?_
  rintro e w1 ⟨rfl, rfl⟩
  go_wp2
  go_ret
  exact ⟨ret_int (by omega), rfl⟩
 ·have e : (cmpI a b == 1) = false := by unfold cmpI; split <;> (try split) <;> first | rfl | omega
  go_wp2_with fail
  refine (hc _).mono ?_
  rintro e w1 ⟨rfl, rfl⟩
  go_wp2
  go_ret
  exact ⟨ret_int (by omega), rfl⟩
set_option maxRecDepth 100000 in
set_option maxHeartbeats 800000 in
theorem equalI_any (v x : Value) (l r : List Int) (w : World) (B : Nat) (hv : Sl w B v (ivals l)) (hx : Sl w B x (ivals r)) :
  Calls Tryz.prog 60 #[v, x] w (Stays (.bool (decide (l = r))) w) := by
 obtain ⟨A1, c1, rfl, hc1, hm1⟩ := hv.formI
 obtain ⟨A2, c2, rfl, hc2, hm2⟩ := hx.formI
 unfold maxLen at hm1 hm2
 have S1 := hid hv; have S2 := hid hx; clear hv hx
 have hdec : l ≠ r → decide (l = r) = false := fun h => decide_eq_false h
 have hyes : l = r → decide (l = r) = true := fun h => decide_eq_true h
 generalize decide (l = r) = res at *
 have HD := hid hdec; have HY := hid hyes; clear hdec hyes
 go_enter Tryz.func60, Tryz.ntmps60
 by_cases hl : l.length = r.length
 ·have HL := hid hl
  have u0 : ((l.length : Int) != (r.length : Int)) = false := by simp [hl]
  clear hl
  go_wp2
  go_loopw [13] (fun i wr => EqRel l r w i wr) (fun i _ => l.length - (intOf i).toNat)
  case atStart => exact ⟨0, by omega, rfl, rfl, Qu.refl _⟩
  case round =>
   obtain ⟨k, hk, rfl, hsame, hq⟩ := hrel
   have HS := hid hsame; clear hsame
   by_cases hlt : k < l.length
   ·have hlt' : k < r.length := by have := HL.out; omega
    obtain ⟨b1, o1, rfl, hb1, hx1⟩ := S1.out.int hlt
    obtain ⟨b2, o2, rfl, hb2, hx2⟩ := S2.out.int hlt'
    have g1 : wr.cell? ⟨b1, o1 + k, none⟩ = _ := (hq.cell _).trans hx1
    have g2 : wr.cell? ⟨b2, o2 + k, none⟩ = _ := (hq.cell _).trans hx2
    clear hx1 hx2
    have e1 := take_succ_getD l k hlt
    have e2 := take_succ_getD r k hlt'
    have hgn : l.getD k 0 ≠ r.getD k 0 → l ≠ r := getD_ne
    generalize l.getD k 0 = p1 at *
    generalize r.getD k 0 = p2 at *
    by_cases he : p1 = p2
    ·subst he
     have hs' : l.take (k + 1) = r.take (k + 1) := by rw [e1, e2, HS.out]
     have t2 : (p1 != p1) = false := by simp
     have HS' := hid hs'; clear e1 e2 hs' hgn
     go_wp2
     go_quiet (fail)
     go_wp2
     go_roundw
     case rel => exact ⟨k + 1, by omega, by go_num, HS'.out, hq.drewN _⟩
     case measure => simp [intOf]; omega
    ·have hn := HD.out (hgn he)
     have t2 : (p1 != p2) = true := by simpa using he
     have HN := hid hn; clear e1 e2 hgn hn he
     go_wp2
     go_quiet (fail)
     go_wp2
     go_ret
     exact ⟨ret_bool HN.out.symm, hq.drewN _⟩
   ·have he1 : l = r := by
     have := HS.out
     rwa [List.take_of_length_le (by omega), List.take_of_length_le (by have := HL.out; omega)] at this
    have hn := HY.out he1
    have HN := hid hn; clear he1 HS hn
    go_wp2
    go_ret
    exact ⟨ret_bool HN.out.symm, hq⟩
 ·have u0 : ((l.length : Int) != (r.length : Int)) = true := by simp; omega
  have hn := HD.out (fun e => hl (by rw [e]))
  have HN := hid hn
  clear hl hn
  go_wp2
  go_ret
  exact ⟨ret_bool HN.out.symm, Qu.refl _⟩
set_option maxRecDepth 100000 in
theorem foldAt_any (x : Int) (w : World) : Calls Tryz.prog 98 #[.int .i64 x] w (Stays (.bool (!inB x VAL)) w) := by
 go_enter Tryz.func98, Tryz.ntmps98
 go_wp2_with fail
 refine (within_any _ _ _ (by omega) (by omega)).mono ?_
 rintro e w1 ⟨rfl, hq⟩
 go_wp2
 go_ret
 exact ⟨rfl, hq⟩
def AllRel (l : List Int) (w : World) (i : Value) (wr : World) : Prop := ∃ k : Nat, k ≤ l.length ∧ i = .int .i64 k ∧ (∀ x ∈ l.take k, inB x VAL = true) ∧ Qu w wr
theorem all_take_succ {l : List Int} {k : Nat} (h : ∀ x ∈ l.take k, inB x VAL = true) (hk : k < l.length) (hx : inB (l.getD k 0) VAL = true) : ∀ x ∈ l.take (k + 1), inB x VAL = true := by
 intro x hm
 rw [take_succ_getD l k hk] at hm
 rcases List.mem_append.1 hm with h' | h'
 ·exact h x h'
 ·simp at h'; rw [h']; exact hx
theorem getD_mem {l : List Int} {k : Nat} (hk : k < l.length) : l.getD k 0 ∈ l := by
 rw [List.getD_eq_getElem?_getD, List.getElem?_eq_getElem hk]; exact List.getElem_mem hk
def IdxP (l : List Int) (w : World) (e : Ending) (w' : World) : Prop := (∃ i : Int, e = .returned (.int .i64 i) ∧ (decide (0 ≤ i)) = !(l.all fun x => inB x VAL)) ∧ Qu w w'
set_option maxRecDepth 100000 in
set_option maxHeartbeats 800000 in
theorem indexI_any (v : Value) (l : List Int) (w : World) (B : Nat) (hv : Sl w B v (ivals l)) :
  Calls Tryz.prog 119 #[v, .func (Fn.func 98) #[] #[]] w (IdxP l w) := by
 obtain ⟨A1, c1, rfl, hc1, hm1⟩ := hv.formI
 unfold maxLen at hm1
 have S1 := hid hv; clear hv
 go_enter Tryz.func119, Tryz.ntmps119
 go_wp2
 go_loopw [8] (fun i wr => AllRel l w i wr) (fun i _ => l.length - (intOf i).toNat)
 case atStart => exact ⟨0, by omega, rfl, by simp, Qu.refl _⟩
 case round =>
  obtain ⟨k, hk, rfl, hall, hq⟩ := hrel
  have HA := hid hall; clear hall
  by_cases hlt : k < l.length
  ·obtain ⟨b1, o1, rfl, hb1, hx1⟩ := S1.out.int hlt
   have g1 : wr.cell? ⟨b1, o1 + k, none⟩ = _ := (hq.cell _).trans hx1
   clear hx1
   have hm := getD_mem hlt
   have hn := all_take_succ HA.out hlt
   generalize l.getD k 0 = x at *
   have HM := hid hm; have HN := hid hn; clear hm hn
   have hf := foldAt_any x
   cases hb : inB x VAL
   ·rw [hb] at hf
    have HF := hid hf; have HB := hid hb; clear hf hb
    go_wp2_with fail
    refine (HF.out _).mono ?_
    rintro e w1 ⟨rfl, hq1⟩
    go_wp2
    go_ret
    refine ⟨⟨_, rfl, ?_⟩, hq.trans hq1⟩
    rw [decide_eq_true (by omega)]
    symm
    rw [Bool.not_eq_true', ← Bool.not_eq_true, List.all_eq_true]
    intro h
    have := h x HM.out
    rw [HB.out] at this
    cases this
   ·rw [hb] at hf
    have HF := hid hf; have HB := hid hb; clear hf hb
    go_wp2_with fail
    refine (HF.out _).mono ?_
    rintro e w1 ⟨rfl, hq1⟩
    go_wp2
    go_roundw
    case rel => exact ⟨k + 1, by omega, by go_num, HN.out HB.out, hq.trans hq1⟩
    case measure => simp [intOf]; omega
  ·have := HA.out
   rw [List.take_of_length_le (by omega)] at this
   have HT := hid this; clear this
   go_wp2
   go_ret
   refine ⟨⟨_, rfl, ?_⟩, hq⟩
   rw [List.all_eq_true.2 (by simpa using HT.out)]
   rfl
set_option maxRecDepth 100000 in
theorem containsI_any (v : Value) (l : List Int) (w : World) (B : Nat) (hv : Sl w B v (ivals l)) :
  Calls Tryz.prog 80 #[v, .func (Fn.func 98) #[] #[]] w (Stays (.bool (!(l.all fun x => inB x VAL))) w) := by
 have HI := hid (fun W (hq : Qu w W) => indexI_any v l W B (hv.qu' hq))
 clear hv
 go_enter Tryz.func80, Tryz.ntmps80
 go_wp2_with fail
 refine (HI.out _ (Qu.refl _)).mono ?_
 rintro e w1 ⟨⟨i, rfl, hi⟩, hq⟩
 go_wp2
 go_ret
 exact ⟨ret_bool (by rw [← hi]), hq⟩
theorem fold_step {f : Int → Int → Int} {l : List Int} {k : Nat} (h1 : 1 ≤ k) (hk : k < l.length) : (l.take (k + 1)).tail.foldl f (l.getD 0 0) = f ((l.take k).tail.foldl f (l.getD 0 0)) (l.getD k 0) := by
 rw [take_succ_getD l k hk]
 have hne : l.take k ≠ [] := by intro e; have := congrArg List.length e; rw [List.length_take, List.length_nil] at this; omega
 rw [List.tail_append_of_ne_nil hne, List.foldl_append]
 rfl
theorem minL_fold {l : List Int} (h : l ≠ []) : minL l = l.tail.foldl min (l.getD 0 0) := by cases l with
 | nil => exact absurd rfl h
 | cons x l => rfl
theorem maxL_fold {l : List Int} (h : l ≠ []) : maxL l = l.tail.foldl max (l.getD 0 0) := by cases l with
 | nil => exact absurd rfl h
 | cons x l => rfl
theorem within_val {x m : Int} {r : Bool} (h : inB x m = r) (h0 : 0 ≤ m) (h1 : m ≤ 4611686018427387904) : ∀ w : World, Calls Tryz.prog 99 #[.int .i64 x, .int .i64 m] w (Stays (.bool r) w) := fun w => h ▸ within_any x m w h0 h1
theorem equal_val {w : World} {B : Nat} {v x : Value} {l r : List Int} {q : Bool} (hv : Sl w B v (ivals l)) (hx : Sl w B x (ivals r)) (h : decide (l = r) = q) : ∀ W : World, Below B w W → Calls Tryz.prog 60 #[v, x] W (Stays (.bool q) W) :=
 fun W hb => h ▸ equalI_any v x l r W B (hv.below hb) (hx.below hb)
theorem cell_eq_ways (a b : CellM) : (decide (a = b) = false ∧ ((a.n == b.n) = false ∨ ((a.n == b.n) = true ∧ decide (a.s = b.s) = false) ∨ ((a.n == b.n) = true ∧ decide (a.s = b.s) = true ∧ decide (a.lo = b.lo) = false) ∨
  ((a.n == b.n) = true ∧ decide (a.s = b.s) = true ∧ decide (a.lo = b.lo) = true ∧ decide (a.hi = b.hi) = false))) ∨ (decide (a = b) = true ∧ (a.n == b.n) = true ∧ decide (a.s = b.s) = true ∧ decide (a.lo = b.lo) = true ∧ decide (a.hi = b.hi) = true) := by
 obtain ⟨n, s, lo, hi⟩ := a
 obtain ⟨m, r, l, h⟩ := b
 simp only [CellM.mk.injEq]
 by_cases h1 : n = m <;> by_cases h2 : s = r <;> by_cases h3 : lo = l <;> by_cases h4 : hi = h <;> simp [h1, h2, h3, h4]
set_option maxRecDepth 100000 in
set_option maxHeartbeats 1600000 in
theorem same_any (v x : Value) (a b : CellM) (w : World) (hv : CellR w w.heap.size v a) (hx : CellR w w.heap.size x b) :
  Calls Tryz.prog 131 #[v, x] w (Gives (.bool (decide (a = b))) w) := by
 obtain ⟨v1, v2, v3, rfl, s1, s2, s3⟩ := hv
 obtain ⟨x1, x2, x3, rfl, t1, t2, t3⟩ := hx
 have E1 := fun q h => equal_val (q := q) s1 t1 h
 have E2 := fun q h => equal_val (q := q) s2 t2 h
 have E3 := fun q h => equal_val (q := q) s3 t3 h
 obtain ⟨A1, c1, rfl, -, -⟩ := s1.formI
 obtain ⟨A2, c2, rfl, -, -⟩ := s2.formI
 obtain ⟨A3, c3, rfl, -, -⟩ := s3.formI
 obtain ⟨X1, d1, rfl, -, -⟩ := t1.formI
 obtain ⟨X2, d2, rfl, -, -⟩ := t2.formI
 obtain ⟨X3, d3, rfl, -, -⟩ := t3.formI
 clear s1 s2 s3 t1 t2 t3
 go_enter Tryz.func131, Tryz.ntmps131
 have hb0 : Below w.heap.size w ((w.alloc (.cells #[.int .i64 a.n, .slice A1 a.s.length c1, .slice A2 a.lo.length c2, .slice A3 a.hi.length c3] 125)).alloc (.cells #[.int .i64 b.n, .slice X1 b.s.length d1, .slice X2 b.lo.length d2, .slice X3 b.hi.length d3] 125)) := (by repeat' first | with_reducible exact Below.refl _ _ | assumption | (with_reducible refine Below.alloc ?_ ?_ _) | (with_reducible refine Below.setCell ?_ ?_ _) | (with_reducible refine Below.drew ?_) | (with_reducible refine below_drewN ?_ _) | (with_reducible refine Below.trans ?_ (Below.mono ‹_› ?_)) | omega | (with_reducible refine le_alloc ?_) | (with_reducible refine le_setCell ?_) | (with_reducible refine le_drew ?_) | (with_reducible refine le_drewN ?_) | (with_reducible refine Nat.le_trans ?_ (Below.size ‹_›)) | (simp <;> omega))
 have HB := hid hb0; clear hb0
 rcases cell_eq_ways a b with ⟨hr, hw⟩ | ⟨hr, z1, z2, z3, z4⟩
 ·have HR := hid hr; clear hr
  rcases hw with z1 | ⟨z1, z2⟩ | ⟨z1, z2, z3⟩ | ⟨z1, z2, z3, z4⟩
  ·go_wp2
   go_ret
   exact ⟨ret_bool HR.out.symm, HB.out⟩
  ·have E1' := hid (E1 _ z2); clear E1 E2 E3 z2
   go_wp2_with fail
   refine (E1'.out _ HB.out).mono ?_
   rintro e w1 ⟨rfl, n1, rfl⟩
   go_wp2
   go_ret
   exact ⟨ret_bool HR.out.symm, below_drewN HB.out _⟩
  ·have E1' := hid (E1 _ z2); have E2' := hid (E2 _ z3); clear E1 E2 E3 z2 z3
   go_wp2_with fail
   refine (E1'.out _ HB.out).mono ?_
   rintro e w1 ⟨rfl, n1, rfl⟩
   go_wp2_with fail
   refine (E2'.out _ (below_drewN HB.out _)).mono ?_
   rintro e w1 ⟨rfl, n2, rfl⟩
   go_wp2
   go_ret
   exact ⟨ret_bool HR.out.symm, below_drewN HB.out _⟩
  ·have E1' := hid (E1 _ z2); have E2' := hid (E2 _ z3); have E3' := hid (E3 _ z4); clear E1 E2 E3 z2 z3 z4
   go_wp2_with fail
   refine (E1'.out _ HB.out).mono ?_
   rintro e w1 ⟨rfl, n1, rfl⟩
   go_wp2_with fail
   refine (E2'.out _ (below_drewN HB.out _)).mono ?_
   rintro e w1 ⟨rfl, n2, rfl⟩
   go_wp2_with fail
   refine (E3'.out _ (below_drewN HB.out _)).mono ?_
   rintro e w1 ⟨rfl, n3, rfl⟩
   go_wp2
   go_ret
   exact ⟨ret_bool HR.out.symm, below_drewN HB.out _⟩
 ·have HR := hid hr; clear hr
  have E1' := hid (E1 _ z2); have E2' := hid (E2 _ z3); have E3' := hid (E3 _ z4); clear E1 E2 E3 z2 z3 z4
  go_wp2_with fail
  refine (E1'.out _ HB.out).mono ?_
  rintro e w1 ⟨rfl, n1, rfl⟩
  go_wp2_with fail
  refine (E2'.out _ (below_drewN HB.out _)).mono ?_
  rintro e w1 ⟨rfl, n2, rfl⟩
  go_wp2_with fail
  refine (E3'.out _ (below_drewN HB.out _)).mono ?_
  rintro e w1 ⟨rfl, n3, rfl⟩
  go_wp2
  go_ret
  exact ⟨ret_bool HR.out.symm, below_drewN HB.out _⟩
set_option maxRecDepth 100000 in
set_option maxHeartbeats 800000 in
theorem may_any (v : Value) (c : CellM) (w : World) (hv : CellR w w.heap.size v c) :
  Calls Tryz.prog 105 #[v] w (Gives (.bool (mayC c)) w) := by
 have hv0 := hv
 obtain ⟨v1, v2, v3, rfl, s1, s2, s3⟩ := hv
 obtain ⟨A1, c1, rfl, hc1, hm1⟩ := s1.formI
 obtain ⟨A2, c2, rfl, hc2, hm2⟩ := s2.formI
 obtain ⟨A3, c3, rfl, hc3, hm3⟩ := s3.formI
 have S0 := hid hv0
 unfold maxLen at hm1 hm2 hm3
 have S1 := hid s1; have S2 := hid s2; have S3 := hid s3
 clear s1 s2 s3 hv0
 have M1 := hid (@may_shape c); have M2 := hid (@may_is_empty c); have M3 := hid (@may_count c); have M4 := hid (@may_col c); have M5 := hid (@may_all c)
 obtain ⟨n, s, lo, hi⟩ := c
 simp only [CellM.shape] at *
 go_enter Tryz.func105, Tryz.ntmps105
 have hb0 : Below w.heap.size w (w.alloc (.cells #[.int .i64 n, .slice A1 s.length c1, .slice A2 lo.length c2, .slice A3 hi.length c3] 125)) := bl1 _ _
 have HB := hid hb0; clear hb0
 have BK := hid (Blk.new w (.int .i64 n) (.slice A1 s.length c1) (.slice A2 lo.length c2) (.slice A3 hi.length c3) 125)
 by_cases hs : s.length ≤ 2 ∧ lo.length = s.length ∧ hi.length = s.length
 ·have HS := hid hs
  obtain ⟨hs1, hs2, hs3⟩ := hs
  have u1 : ¬ 2 < (s.length : Int) := by omega
  have u2 : ((lo.length : Int) != (s.length : Int)) = false := by simp [hs2]
  have u3 : ((hi.length : Int) != (s.length : Int)) = false := by simp [hs3]
  clear hs1 hs2 hs3
  have HE := hid (cellEmpty_any (s.length : Int))
  have hem : emN (s.length : Int) = s.length := emN_nat HS.out.1
  rw [hem] at HE
  clear hem
  have hsa := fun (v x : Value) (w : World) => same_any v x ⟨n, s, lo, hi⟩ (emptyC s.length) w
  obtain ⟨de, hde⟩ : ∃ de, de = decide ((⟨n, s, lo, hi⟩ : CellM) = emptyC s.length) := ⟨_, rfl⟩
  rw [← hde] at hsa
  have HSA := hid hsa; have HDE := hid hde; clear hsa hde
  have M2' := M2; have M3' := M3
  by_cases hc : 1 ≤ n ∧ n ≤ CNT
  ·have HC := hid hc
   unfold CNT at hc
   obtain ⟨x1, x2⟩ := hc
   have x1' : ¬ n < 1 := by omega
   have x2' : ¬ 1099511627776 < n := by omega
   have cx1 := no_lt x1'
   have cx2 := no_lt x2'
   clear x1 x2
   go_wp2
   go_loopw [40] (fun i wr => MayRel ⟨n, s, lo, hi⟩ (w.alloc (.cells #[.int .i64 n, .slice A1 s.length c1, .slice A2 lo.length c2, .slice A3 hi.length c3] 125)) i wr) (fun i _ => s.length - (intOf i).toNat)
   case atStart => exact ⟨0, by omega, rfl, fun j hj => by omega, Qu.refl _⟩
   case round =>
    obtain ⟨k, hk, rfl, hall, hq⟩ := hrel
    have HA := hid hall; clear hall
    simp only at hk
    have y0 := (hq.cell _).trans BK.out.c0
    have y1 := (hq.cell _).trans BK.out.c1
    have y2 := (hq.cell _).trans BK.out.c2
    have y3 := (hq.cell _).trans BK.out.c3
    by_cases hlt : k < s.length
    ·obtain ⟨b1, o1, rfl, hb1, hx1⟩ := (S1.out.below HB.out).int hlt
     obtain ⟨b2, o2, rfl, hb2, hx2⟩ := (S2.out.below HB.out).int (show k < lo.length by have := HS.out; omega)
     obtain ⟨b3, o3, rfl, hb3, hx3⟩ := (S3.out.below HB.out).int (show k < hi.length by have := HS.out; omega)
     have g1 : wr.cell? ⟨b1, o1 + k, none⟩ = _ := (hq.cell _).trans hx1
     have g2 : wr.cell? ⟨b2, o2 + k, none⟩ = _ := (hq.cell _).trans hx2
     have g3 : wr.cell? ⟨b3, o3 + k, none⟩ = _ := (hq.cell _).trans hx3
     have hlo : k < lo.length := by have := HS.out; omega
     have hhi : k < hi.length := by have := HS.out; omega
     clear hx1 hx2 hx3
     have hbad : ¬ colP n (s.getD k 0) (lo.getD k 0) (hi.getD k 0) → mayC _ = false := fun h => M4.out HC.out hlt h
     have hgood : colP n (s.getD k 0) (lo.getD k 0) (hi.getD k 0) → _ := fun h => all_succ (p := (⟨n, s, lo, hi⟩ : CellM).col) HA.out h
     generalize s.getD k 0 = x at *
     generalize lo.getD k 0 = l at *
     generalize hi.getD k 0 = h at *
     have HBAD := hid hbad; have HGOOD := hid hgood; clear hbad hgood
     rcases col_ways n x l h with ⟨hb, hw⟩ | ⟨⟨z1, z2, z3, z4⟩, hw⟩
     ·have hn := HBAD.out hb
      have HN := hid hn; clear hn hb
      rcases hw with z1 | ⟨z1, z2⟩ | ⟨z1, z2, z3⟩ | ⟨z1, z2, z3, z4⟩
      ·go_wp2
       go_quiet (fail)
       go_wp2
       go_ret
       exact ⟨ret_bool HN.out.symm, HB.out.trans ((hq.drewN _).below _)⟩
      ·have HI1 := hid (within_val z2 (by omega) (by omega))
       have cb := no_lt z1
       clear z2
       go_wp2
       go_quiet (fail)
       go_wp2_with fail
       refine (HI1.out _).mono ?_
       rintro e w1 ⟨rfl, n1, rfl⟩
       go_wp2
       go_ret
       exact ⟨ret_bool HN.out.symm, HB.out.trans ((hq.drewN _).below _)⟩
      ·have HI1 := hid (within_val z2 (by omega) (by omega))
       have HI2 := hid (within_val z3 (by omega) (by omega))
       have cb := no_lt z1
       clear z2 z3
       go_wp2
       go_quiet (fail)
       go_wp2_with fail
       refine (HI1.out _).mono ?_
       rintro e w1 ⟨rfl, n1, rfl⟩
       go_wp2_with fail
       refine (HI2.out _).mono ?_
       rintro e w1 ⟨rfl, n2, rfl⟩
       go_wp2
       go_ret
       exact ⟨ret_bool HN.out.symm, HB.out.trans ((hq.drewN _).below _)⟩
      ·have HI1 := hid (within_val z2 (by omega) (by omega))
       have HI2 := hid (within_val z3 (by omega) (by omega))
       have HI3 := hid (within_val z4 (by omega) (by omega))
       have cb := no_lt z1
       clear z2 z3 z4
       go_wp2
       go_quiet (fail)
       go_wp2_with fail
       refine (HI1.out _).mono ?_
       rintro e w1 ⟨rfl, n1, rfl⟩
       go_wp2_with fail
       refine (HI2.out _).mono ?_
       rintro e w1 ⟨rfl, n2, rfl⟩
       go_wp2_with fail
       refine (HI3.out _).mono ?_
       rintro e w1 ⟨rfl, n3, rfl⟩
       go_wp2
       go_ret
       exact ⟨ret_bool HN.out.symm, HB.out.trans ((hq.drewN _).below _)⟩
     ·have HI1 := hid (within_val z2 (by omega) (by omega))
      have HI2 := hid (within_val z3 (by omega) (by omega))
      have HI3 := hid (within_val z4 (by omega) (by omega))
      have cb := no_lt z1
      clear z2 z3 z4
      rcases hw with ⟨hb, hw⟩ | ⟨hg, hw⟩
      ·have hn := HBAD.out hb
       have HN := hid hn; clear hn hb
       rcases hw with ⟨z1, z2⟩ | ⟨z1, z2, z3⟩
       all_goals
        go_wp2
        go_quiet (fail)
        go_wp2_with fail
        refine (HI1.out _).mono ?_
        rintro e w1 ⟨rfl, n1, rfl⟩
        go_wp2_with fail
        refine (HI2.out _).mono ?_
        rintro e w1 ⟨rfl, n2, rfl⟩
        go_wp2_with fail
        refine (HI3.out _).mono ?_
        rintro e w1 ⟨rfl, n3, rfl⟩
        go_wp2
        go_ret
        exact ⟨ret_bool HN.out.symm, HB.out.trans ((hq.drewN _).below _)⟩
      ·have hn := HGOOD.out hg
       have HN := hid hn; clear hn hg
       rcases hw with z1 | ⟨z1, z2, z3⟩
       all_goals
        go_wp2
        go_quiet (fail)
        go_wp2_with fail
        refine (HI1.out _).mono ?_
        rintro e w1 ⟨rfl, n1, rfl⟩
        go_wp2_with fail
        refine (HI2.out _).mono ?_
        rintro e w1 ⟨rfl, n2, rfl⟩
        go_wp2_with fail
        refine (HI3.out _).mono ?_
        rintro e w1 ⟨rfl, n3, rfl⟩
        go_wp2
        go_roundw
        case rel => exact ⟨k + 1, by simp only; omega, by go_num, HN.out, hq.drewN _⟩
        case measure => simp [intOf]; omega
    ·have hn := M5.out HS.out HC.out (fun j hj => HA.out j (by omega))
     have HN := hid hn; clear hn
     go_wp2
     go_ret
     exact ⟨ret_bool HN.out.symm, HB.out.trans (hq.below _)⟩
  ·have hc' : n < 1 ∨ (¬ n < 1 ∧ 1099511627776 < n) := by unfold CNT at hc; omega
   have hn : mayC ⟨n, s, lo, hi⟩ = de := by
    rw [HDE.out]
    by_cases he : (⟨n, s, lo, hi⟩ : CellM) = emptyC s.length
    ·rw [decide_eq_true he]; exact M2.out HS.out he
    ·rw [decide_eq_false he]; exact M3.out hc he
   have HN := hid hn
   clear hc hn
   rcases hc' with x1 | ⟨x1, x2⟩
   all_goals
    go_wp2
    go_region_held3 (fun w' => w'.cell? ⟨w.heap.size, 0, none⟩ = some (.int .i64 n) ∧ w'.cell? ⟨w.heap.size, 1, none⟩ = some (.slice A1 s.length c1) ∧ w'.cell? ⟨w.heap.size, 2, none⟩ = some (.slice A2 lo.length c2) ∧ w'.cell? ⟨w.heap.size, 3, none⟩ = some (.slice A3 hi.length c3)) (go_keep)
     (first
      | (go_at_call 100; refine (HE.out _).mono ?_; rintro e w2 ⟨v2, rfl, hr2, hb2⟩; have B2 := hid hb2; have R2 := hid hr2.read; have k2 := (Blk.qu BK.out ⟨1, rfl⟩).below hb2 (by simp); have BK2 := hid k2; obtain ⟨q0, q1, q2, q3, -, -, -, -⟩ := k2; clear hb2 hr2)
      | (go_at_call 131; refine (HSA.out _ _ _ ((S0.out.below ((below_drewN HB.out 1).trans (B2.out.mono (by simp)))).more (by have := B2.out.size; simp at this; omega)) R2.out).mono ?_; rintro e w3 ⟨rfl, hb3⟩; have B3 := hid hb3; have k3 := BK2.out.below hb3 (by have := B2.out.size; simp at this; omega); have BK3 := hid k3; obtain ⟨q0, q1, q2, q3, -, -, -, -⟩ := k3; clear hb3))
    have hW : Below w.heap.size w w3 := ((below_drewN HB.out 1).trans (B2.out.mono (by simp))).trans (B3.out.mono (by have := B2.out.size; simp at this; omega))
    have HW := hid hW
    clear hW
    go_wp2
    go_ret
    exact ⟨ret_bool HN.out.symm, HW.out⟩
 ·have hn := M1.out hs
  have HN := hid hn
  have hs' : 2 < (s.length : Int) ∨ (¬ 2 < (s.length : Int) ∧ ((lo.length : Int) != (s.length : Int)) = true) ∨ (¬ 2 < (s.length : Int) ∧ ((lo.length : Int) != (s.length : Int)) = false ∧ ((hi.length : Int) != (s.length : Int)) = true) := by
   simp; omega
  clear hs hn
  rcases hs' with x1 | ⟨x1, x2⟩ | ⟨x1, x2, x3⟩
  all_goals go_wp2
  all_goals go_ret
  all_goals exact ⟨ret_bool HN.out.symm, HB.out⟩
set_option linter.unusedSimpArgs false
theorem ivals_one (l : List Int) : ∀ u ∈ ivals l, u.oneCell' = true := by
 intro u hu
 obtain ⟨x, _, rfl⟩ := List.mem_map.1 hu
 rfl
def CloneIP (l : List Int) (w : World) (e : Ending) (w' : World) : Prop := ∃ v, e = .returned v ∧ w'.ownsRow w.heap.size 3 1 v l.length (ivals l) ∧ Below w.heap.size w w'
set_option maxRecDepth 100000 in
set_option maxHeartbeats 400000 in
theorem cloneIC_any (v : Value) (l : List Int) (w : World) (hv : Sl w w.heap.size v (ivals l)) (hl : l.length ≤ 1073741824) :
  Calls Tryz.prog 34 #[v] w (CloneIP l w) := by
 obtain ⟨i0, hi, hz0, hz1, hz2⟩ := info_parts info_int
 have hv' := hv
 obtain ⟨A, c, rfl, hc1, hc2, hA⟩ := hv
 simp only [ivals_len] at hc1 hv' ⊢
 have HV := hid hv'; have HA := hid hA
 clear hv' hA
 go_enter Tryz.func34, Tryz.ntmps34
 cases A with
 | none =>
   have h0 : l = [] := by
    cases l with
    | nil => rfl
    | cons x l => obtain ⟨b, off, h, _⟩ := HA.out (by simp [ivals]); cases h
   have H0 := hid h0; clear h0
   have hq : ∀ W : World, (binOp .eql 27 (.slice none l.length c) (.slice none 0 0)).run Tryz.prog W = .ok (.bool true) W := fun _ => rfl
   go_wp2
   go_ret
   exact ⟨_, rfl, by rw [H0.out]; exact World.ownsRow_nil _ _ _ _, Below.refl _ _⟩
 | some x =>
   have hq : ∀ W : World, (binOp .eql 27 (.slice (some x) l.length c) (.slice none 0 0)).run Tryz.prog W = .ok (.bool false) W := fun _ => rfl
   go_wp2_with (at_builtin; refine stop_here ?_)
   refine go_on ?_
   have hown : (w.alloc (.cells #[] 3)).ownsRow w.heap.size 3 1 (.slice (some ⟨w.heap.size, 0, none⟩) 0 0) 0 [] := by
    refine ⟨rfl, .inr ⟨w.heap.size, 0, #[], rfl, Nat.le_refl _, ?_, Nat.le_refl _, by simp [maxLen], rfl, rfl⟩⟩
    exact heap_alloc_new w _
   refine app_own (.tmp 5) (.tmp 6) 27 27 rfl rfl w.heap.size 3 i0 (.int .i64 0) 1 8 Tryz.underlying27 hi hz0 hz1 hz2 rfl (by omega) _ _ _ rfl hown (.slice (some x) l.length c) l.length (ivals l) rfl ?_ (by unfold maxLen; omega) (by omega) (by simp) ?_
   ·have hs : Sl (w.alloc (.cells #[] 3)) w.heap.size (.slice (some x) l.length c) (ivals l) := by
     obtain ⟨A, c', g1, g2, g3, g4⟩ := HV.out
     refine ⟨A, c', g1, g2, g3, fun h0 => ?_⟩
     obtain ⟨b, off, g5, g6, g7⟩ := g4 h0
     exact ⟨b, off, g5, g6, fun j u hj => cell_alloc g6 (g7 j u hj)⟩
    have := src_sl _ Tryz.underlying27 hs (ivals_one l)
    rwa [ivals_len] at this
   ·intro v2 w2 hown2 hg2 hb2
    go_wp2
    go_ret
    refine ⟨v2, rfl, by simpa using hown2, ?_⟩
    exact (bl1 w _).trans hb2
theorem own_more {w w' : World} {H H' : Nat} {v : Value} {n : Nat} {xs : List Value} (h : w.ownsRow H 3 1 v n xs) (hb : Below w.heap.size w w') (hH : H' ≤ H) : w'.ownsRow H' 3 1 v n xs :=
 have k := own_kept h (fun g hg => hb.block g (h.lt g hg).2)
 ⟨k.1, k.2.imp id (fun ⟨g, cap, cur, e, hg, r⟩ => ⟨g, cap, cur, e, Nat.le_trans hH hg, r⟩)⟩
theorem own_upd {w w' : World} {H H' b : Nat} {v : Value} {n : Nat} {xs : List Value} (h : w.ownsRow H 3 1 v n xs) (hu : Upd b w w') (hb : b < H) (hH : H' ≤ H) : w'.ownsRow H' 3 1 v n xs := by
 have k := own_kept h (fun g hg => hu.block g (h.lt g hg).2 (fun e => by injection e with e; have := (h.lt g hg).1; omega))
 exact ⟨k.1, k.2.imp id (fun ⟨g, cap, cur, e, hg, r⟩ => ⟨g, cap, cur, e, Nat.le_trans hH hg, r⟩)⟩
set_option maxRecDepth 100000 in
set_option maxHeartbeats 1600000 in
theorem copied_any (v : Value) (c : CellM) (w : World) (hv : CellR w w.heap.size v c) (hl : c.s.length ≤ 1073741824 ∧ c.lo.length ≤ 1073741824 ∧ c.hi.length ≤ 1073741824) :
  Calls Tryz.prog 109 #[v] w (OwnPost c w) := by
 obtain ⟨v1, v2, v3, rfl, s1, s2, s3⟩ := hv
 have HC1 := hid (fun W (h : Below w.heap.size w W) => cloneIC_any v1 c.s W ((s1.below h).more h.size) hl.1)
 have HC2 := hid (fun W (h : Below w.heap.size w W) => cloneIC_any v2 c.lo W ((s2.below h).more h.size) hl.2.1)
 have HC3 := hid (fun W (h : Below w.heap.size w W) => cloneIC_any v3 c.hi W ((s3.below h).more h.size) hl.2.2)
 obtain ⟨A1, c1, rfl, -, -⟩ := s1.formI
 obtain ⟨A2, c2, rfl, -, -⟩ := s2.formI
 obtain ⟨A3, c3, rfl, -, -⟩ := s3.formI
 clear s1 s2 s3 hl
 go_enter Tryz.func109, Tryz.ntmps109
 obtain ⟨W0, hW0⟩ : ∃ W, W = (w.alloc (.cells #[.int .i64 c.n, .slice A1 c.s.length c1, .slice A2 c.lo.length c2, .slice A3 c.hi.length c3] 125)).alloc (.cells #[.int .i64 0, .slice none 0 0, .slice none 0 0, .slice none 0 0] 125) := ⟨_, rfl⟩
 have hb0 : Below w.heap.size w W0 := by rw [hW0]; exact (by repeat' first | with_reducible exact Below.refl _ _ | assumption | (with_reducible refine Below.alloc ?_ ?_ _) | (with_reducible refine Below.setCell ?_ ?_ _) | (with_reducible refine Below.drew ?_) | (with_reducible refine below_drewN ?_ _) | (with_reducible refine Below.trans ?_ (Below.mono ‹_› ?_)) | omega | (with_reducible refine le_alloc ?_) | (with_reducible refine le_setCell ?_) | (with_reducible refine le_drew ?_) | (with_reducible refine le_drewN ?_) | (with_reducible refine Nat.le_trans ?_ (Below.size ‹_›)) | (simp <;> omega))
 have hs0 : W0.heap.size = w.heap.size + 1 + 1 := by rw [hW0]; simp
 have ba : Blk W0 w.heap.size (.int .i64 c.n) (.slice A1 c.s.length c1) (.slice A2 c.lo.length c2) (.slice A3 c.hi.length c3) := by rw [hW0]; exact (Blk.new _ _ _ _ _ _).alloc (by simp only [World.size_alloc]; omega) _
 have br : Blk W0 (w.heap.size + 1) (.int .i64 0) (.slice none 0 0) (.slice none 0 0) (.slice none 0 0) := by rw [hW0]; exact Blk.new' _ _ _ _ _ (by simp)
 go_wp2
 rw [← hW0]
 have HB0 := hid hb0; have BA := hid ba; have BR := hid br; have HS0 := hid hs0
 obtain ⟨p0, p1, p2, p3, -, -, -, -⟩ := ba
 clear hW0 hb0 br hs0
 go_region_held3 (fun w' => w'.cell? ⟨w.heap.size, 0, none⟩ = some (.int .i64 c.n) ∧ w'.cell? ⟨w.heap.size, 1, none⟩ = some (.slice A1 c.s.length c1) ∧ w'.cell? ⟨w.heap.size, 2, none⟩ = some (.slice A2 c.lo.length c2) ∧ w'.cell? ⟨w.heap.size, 3, none⟩ = some (.slice A3 c.hi.length c3)) (go_keep)
  (first
   | (go_at_call_of 34 (Value.slice A1 c.s.length c1); refine (HC1.out _ HB0.out.drew).mono ?_; rintro e w1 ⟨y1, rfl, ho1, hb1⟩; obtain ⟨a1, d1, rfl, -, -, -⟩ := own_cells ho1; have B1 := hid ((Below.refl W0.heap.size W0).drew.trans hb1); have O1 := hid ho1; have A1' := hid (BA.out.below B1.out (by have := HS0.out; omega)); obtain ⟨p4, p5, p6, p7, -, -, -, -⟩ := A1'.out; clear ho1 hb1)
   | (go_at_call_of 34 (Value.slice A2 c.lo.length c2); refine (HC2.out _ (HB0.out.trans (B1.out.mono (by have := HS0.out; omega)))).mono ?_; rintro e w2 ⟨y2, rfl, ho2, hb2⟩; obtain ⟨a2, d2, rfl, -, -, -⟩ := own_cells ho2; have B2 := hid hb2; have O2 := hid ho2; have A2' := hid (A1'.out.below hb2 (by have := HS0.out; have := B1.out.size; omega)); obtain ⟨p8, p9, p10, p11, -, -, -, -⟩ := A2'.out; clear ho2 hb2)
   | (go_at_call_of 34 (Value.slice A3 c.hi.length c3); refine (HC3.out _ ((HB0.out.trans (B1.out.mono (by have := HS0.out; omega))).trans (B2.out.mono (by have := HS0.out; have := B1.out.size; omega)))).mono ?_; rintro e w3 ⟨y3, rfl, ho3, hb3⟩; obtain ⟨a3, d3, rfl, -, -, -⟩ := own_cells ho3; have B3 := hid hb3; have O3 := hid ho3; have A3' := hid (A2'.out.below hb3 (by have := HS0.out; have := B1.out.size; have := B2.out.size; omega)); obtain ⟨p12, p13, p14, p15, -, -, -, -⟩ := A3'.out; have BR3 := hid (((BR.out.below B1.out (by have := HS0.out; omega)).below B2.out (by have := HS0.out; have := B1.out.size; omega)).below hb3 (by have := HS0.out; have := B1.out.size; have := B2.out.size; omega)); obtain ⟨r0, r1, r2, r3, f0, f1, f2, f3⟩ := BR3.out; clear ho3 hb3))
 go_wp2
 have hz1 := B1.out.size
 have hz2 := B2.out.size
 have hz3 := B3.out.size
 have hz0 := HS0.out
 have hu := upd4 (w.heap.size + 1) w3 (.int .i64 c.n) (.slice a1 c.s.length d1) (.slice a2 c.lo.length d2) (.slice a3 c.hi.length d3)
 have k1 := own_upd (own_more O1.out (B2.out.trans (B3.out.mono hz2)) (H' := w.heap.size + 1 + 1) (by simp only [World.size_drew]; omega)) hu (by omega) (H' := w.heap.size) (by omega)
 have k2 := own_upd (own_more O2.out B3.out (H' := w.heap.size + 1 + 1) (by omega)) hu (by omega) (H' := w.heap.size) (by omega)
 have k3 := own_upd (own_more O3.out (Below.refl _ _) (H' := w.heap.size + 1 + 1) (by omega)) hu (by omega) (H' := w.heap.size) (by omega)
 have hbel : Below w.heap.size w _ := (HB0.out.trans ((B1.out.mono (by omega)).trans ((B2.out.mono (by omega)).trans (B3.out.mono (by omega))))).trans (hu.below (by omega) (by omega))
 have K1 := hid k1; have K2 := hid k2; have K3 := hid k3; have HBE := hid hbel
 have N1 : Hid (∀ g, (Value.slice a1 c.s.length d1).ownBlock = some g → (Value.slice a2 c.lo.length d2).ownBlock ≠ some g ∧ (Value.slice a3 c.hi.length d3).ownBlock ≠ some g) := hid (fun g hg => ⟨fun h => by have := O1.out.lt g hg; have := O2.out.lt g h; omega, fun h => by have := O1.out.lt g hg; have := O3.out.lt g h; omega⟩)
 have N2 : Hid (∀ g, (Value.slice a2 c.lo.length d2).ownBlock = some g → (Value.slice a3 c.hi.length d3).ownBlock ≠ some g) := hid (fun g hg h => by have := O2.out.lt g hg; have := O3.out.lt g h; omega)
 exact bodyPost_ret (v := .agg #[.int .i64 c.n, .slice a1 c.s.length d1, .slice a2 c.lo.length d2, .slice a3 c.hi.length d3]) (by simp [results, Tryz.results109, go_sem, r0, r1, r2, r3]; done) rfl ⟨_, rfl, ⟨_, _, _, rfl, K1.out, K2.out, K3.out, N1.out, N2.out⟩, HBE.out⟩
end Go.Proofs.YtgoapnkdcfcjgaaGreat
