/- cmp.Compare at floats, cmp.Or, the order of links. -/
import Derived.Test.YtkgifbnkkmeoiaaLnkMap
import Derived.Test.YtkgifbnkkmeoiaaInts
import Derived.BigQuiet
import Derived.Shelf.SlSortCmp.NoneTotal
namespace Go.Proofs.Ytkgifbnkkmeoiaa
open Go.ChangeShapes Go.WideShapes Go.ChangeAt Go.RowKit Go.Sort
set_option linter.unusedVariables false
set_option linter.unusedSimpArgs false

def cm1 (a b : Nat) : Int := if a < b then -1 else if b < a then 1 else 0
def cm2 (x y : G2) : Int := if cm1 x.1 y.1 ≠ 0 then cm1 x.1 y.1 else cm1 x.2 y.2
theorem ord_lt {n m : Nat} (h : 1 ≤ n) (h7 : n ≤ 7) (k : 1 ≤ m) (k7 : m ≤ 7) : (FloatKind.f64.format.order (FB n) (FB m) == some Ordering.lt) = decide (n < m) := by
  rcases le7 h h7 with rfl | rfl | rfl | rfl | rfl | rfl | rfl <;> rcases le7 k k7 with rfl | rfl | rfl | rfl | rfl | rfl | rfl <;> kernel_rfl
theorem ord_gt {n m : Nat} (h : 1 ≤ n) (h7 : n ≤ 7) (k : 1 ≤ m) (k7 : m ≤ 7) : (FloatKind.f64.format.order (FB n) (FB m) == some Ordering.gt) = decide (m < n) := by
  rcases le7 h h7 with rfl | rfl | rfl | rfl | rfl | rfl | rfl <;> rcases le7 k k7 with rfl | rfl | rfl | rfl | rfl | rfl | rfl <;> kernel_rfl
theorem ord_ne {n : Nat} (h : 1 ≤ n) (h7 : n ≤ 7) : (FloatKind.f64.format.order (FB n) (FB n) != some Ordering.eq) = false := by
  rcases le7 h h7 with rfl | rfl | rfl | rfl | rfl | rfl | rfl <;> kernel_rfl
set_option maxRecDepth 100000 in
theorem isNaN_any {n : Nat} (h : 1 ≤ n) (h7 : n ≤ 7) (w : World) : Calls Try.prog 40 #[.float .f64 (FB n)] w (Stays (.bool false) w) := by
  have t1 := ord_ne h h7
  generalize FB n = a at *
  go_enter Try.func40, Try.ntmps40
  go_wp2
  go_ret
  exact ⟨rfl, Qu.refl _⟩
set_option maxRecDepth 100000 in
theorem cmpF_any {n m : Nat} (h : 1 ≤ n) (h7 : n ≤ 7) (k : 1 ≤ m) (k7 : m ≤ 7) (w : World) : Calls Try.prog 30 #[.float .f64 (FB n), .float .f64 (FB m)] w (Stays (.int .i64 (cm1 n m)) w) := by
  have hl := ord_lt h h7 k k7
  have hg := ord_gt h h7 k k7
  have HN := hid (fun w => isNaN_any h h7 w)
  have HM := hid (fun w => isNaN_any k k7 w)
  have hcm : cm1 n m = if n < m then -1 else if m < n then 1 else 0 := rfl
  generalize cm1 n m = c at *
  generalize FB n = a at *
  generalize FB m = b at *
  have HCM := hid hcm
  have HL := hid hl; have HG := hid hg
  clear hcm hl hg
  go_enter Try.func30, Try.ntmps30
  go_wp2_with fail
  refine (HN.out w).mono ?_
  rintro e w1 ⟨rfl, hq1⟩
  go_wp2_with fail
  refine (HM.out w1).mono ?_
  rintro e w2 ⟨rfl, hq2⟩
  have HQ := hid (hq1.trans hq2)
  clear hq1 hq2
  have hc := HCM.out
  by_cases h1 : n < m
  · have t1 := HL.out
    rw [decide_eq_true h1] at t1
    rw [if_pos h1] at hc
    subst hc
    go_wp2
    go_ret
    exact ⟨rfl, HQ.out⟩
  · have t1 := HL.out
    rw [decide_eq_false h1] at t1
    rw [if_neg h1] at hc
    by_cases h2 : m < n
    · have t2 := HG.out
      rw [decide_eq_true h2] at t2
      rw [if_pos h2] at hc
      subst hc
      go_wp2
      go_ret
      exact ⟨rfl, HQ.out⟩
    · have t2 := HG.out
      rw [decide_eq_false h2] at t2
      rw [if_neg h2] at hc
      subst hc
      go_wp2
      go_ret
      exact ⟨rfl, HQ.out⟩
def OrRel (a b : Int) (w : World) (i : Value) (wr : World) : Prop := ∃ k : Nat, k ≤ 2 ∧ i = .int .i64 k ∧ (1 ≤ k → a = 0) ∧ (2 ≤ k → b = 0) ∧ Qu w wr
set_option maxRecDepth 100000 in
theorem or_any (N : Nat) (a b : Int) (w : World) (h0 : w.cell? ⟨N, 0, none⟩ = some (.int .i64 a)) (h1 : w.cell? ⟨N, 1, none⟩ = some (.int .i64 b)) :
    Calls Try.prog 29 #[.slice (some ⟨N, 0, none⟩) 2 2] w (Stays (.int .i64 (if a ≠ 0 then a else b)) w) := by
  obtain ⟨r, hr⟩ : ∃ r, r = if a ≠ 0 then a else b := ⟨_, rfl⟩
  rw [← hr]
  have HR := hid hr
  clear hr
  go_enter Try.func29, Try.ntmps29
  go_wp2
  go_loopw [8] (fun i wr => OrRel a b w i wr) (fun i _ => 2 - (intOf i).toNat)
  case atStart => exact ⟨0, by omega, rfl, fun h => by omega, fun h => by omega, Qu.refl _⟩
  case round =>
    obtain ⟨k, hk, rfl, ha, hb, hq⟩ := hrel
    have y0 : wr.cell? ⟨N, 0, none⟩ = _ := (hq.cell _).trans h0
    have y1 : wr.cell? ⟨N, 1, none⟩ = _ := (hq.cell _).trans h1
    have HQ := hid hq
    clear hq
    have hk3 : k = 0 ∨ k = 1 ∨ k = 2 := by omega
    rcases hk3 with rfl | rfl | rfl
    · by_cases hz : a = 0
      · have t1 : (a != 0) = false := by simp [hz]
        go_wp2
        go_roundw
        case rel => exact ⟨1, by omega, by go_num, fun _ => hz, fun h => by omega, HQ.out⟩
        case measure => simp [intOf]
      · have t1 : (a != 0) = true := by simpa using hz
        have hra : r = a := by rw [HR.out, if_pos hz]
        subst hra
        go_wp2
        go_ret
        exact ⟨rfl, HQ.out⟩
    · have ha0 := ha (by omega)
      have hra : r = b := by rw [HR.out, if_neg (by simp [ha0])]
      by_cases hz : b = 0
      · have t1 : (b != 0) = false := by simp [hz]
        go_wp2
        go_roundw
        case rel => exact ⟨2, by omega, by go_num, fun _ => ha0, fun _ => hz, HQ.out⟩
        case measure => simp [intOf]
      · have t1 : (b != 0) = true := by simpa using hz
        subst hra
        go_wp2
        go_ret
        exact ⟨rfl, HQ.out⟩
    · have ha0 := ha (by omega)
      have hb0 := hb (by omega)
      have hra : r = 0 := by rw [HR.out, if_neg (by simp [ha0]), hb0]
      subst hra
      go_wp2
      go_ret
      exact ⟨rfl, HQ.out⟩
theorem alloc_grow1 (W : World) (a : Obj) (q : Nat) : (W.alloc a).drewN q = grow (W.drewN q) #[a] := by
  rw [alloc_eq_grow]; rfl
set_option maxRecDepth 100000 in
theorem cmpL_any {x y : G2} (hx : inG x) (hy : inG y) (W : World) : Calls Try.prog 28 #[CV x, CV y] W fun e w' => e = .returned (.int .i64 (cm2 x y)) ∧ ∃ q os', w' = grow (W.drewN q) os' := by
  obtain ⟨x1, x2⟩ := x
  obtain ⟨y1, y2⟩ := y
  have HC1 := hid (fun w => cmpF_any hx.1.1 hx.1.2 hy.1.1 hy.1.2 w)
  have HC2 := hid (fun w => cmpF_any hx.2.1 hx.2.2 hy.2.1 hy.2.2 w)
  unfold CV
  have hc : cm2 (x1, x2) (y1, y2) = if cm1 x1 y1 ≠ 0 then cm1 x1 y1 else cm1 x2 y2 := rfl
  simp only at HC1 HC2 ⊢
  generalize cm2 (x1, x2) (y1, y2) = r at *
  generalize cm1 x1 y1 = c1 at *
  generalize cm1 x2 y2 = c2 at *
  generalize FB x1 = a1 at *
  generalize FB x2 = a2 at *
  generalize FB y1 = b1 at *
  generalize FB y2 = b2 at *
  have HR := hid hc
  clear hc
  go_enter Try.func28, Try.ntmps28
  go_wp2_with fail
  refine (HC1.out W).mono ?_
  rintro e w1 ⟨rfl, hq1⟩
  go_wp2_with fail
  refine (HC2.out w1).mono ?_
  rintro e w2 ⟨rfl, hq2⟩
  obtain ⟨q, hq⟩ := hq1.trans hq2
  obtain ⟨W3, hW3⟩ : ∃ W', W' = w2.alloc (.cells #[.int .i64 c1, .int .i64 c2] 3) := ⟨_, rfl⟩
  have HO := hid (or_any w2.heap.size c1 c2 W3 (by rw [hW3]; simp [go_sem]) (by rw [hW3]; simp [go_sem]))
  rw [← HR.out] at HO
  have HW3 := hid hW3; have HQ := hid hq
  clear hq1 hq2 hq hW3
  go_wp2_with fail
  rw [← HW3.out]
  refine HO.out.mono ?_
  rintro e w4 ⟨rfl, nq, rfl⟩
  go_wp2
  go_ret
  refine ⟨rfl, q + nq, #[.cells #[.int .i64 c1, .int .i64 c2] 3], ?_⟩
  rw [HW3.out, HQ.out, alloc_grow1, drewN_add]
end Go.Proofs.Ytkgifbnkkmeoiaa
