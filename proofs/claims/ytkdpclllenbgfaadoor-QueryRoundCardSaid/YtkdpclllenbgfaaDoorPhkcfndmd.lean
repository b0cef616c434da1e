/- 2 texts of this claim, in build order. -/
import Derived.Test.YtkdpclllenbgfaaDoorPkgejacko
import Derived.Test.YtkdpclllenbgfaaDoorPjdhcoian
/- slices.Equal at []string, names.Under. -/
namespace Go.Proofs.YtkdpclllenbgfaaDoor
open Go.ChangeShapes Go.WideShapes Go.ChangeAt Go.RowKit
set_option linter.unusedVariables false
set_option linter.unusedSimpArgs false

set_option maxRecDepth 100000 in
set_option maxHeartbeats 800000 in
theorem eqStrs_any (v x : Value) (l r : List ByteArray) (w : World) (hv : rdStrs w w.heap.size [v] l) (hx : rdStrs w w.heap.size [x] r) :
    Calls Tryd.prog 70 #[v, x] w (Stays (.bool (decide (l = r))) w) := by
  obtain ⟨A1, c1, e, hc1, hm1⟩ := hv.open_
  simp only [List.cons.injEq, and_true] at e
  subst e
  obtain ⟨A2, c2, e, hc2, hm2⟩ := hx.open_
  simp only [List.cons.injEq, and_true] at e
  subst e
  have S1 := hid hv; have S2 := hid hx; clear hv hx
  have hdec : l ≠ r → decide (l = r) = false := fun h => decide_eq_false h
  have hyes : l = r → decide (l = r) = true := fun h => decide_eq_true h
  generalize decide (l = r) = res at *
  have HD := hid hdec; have HY := hid hyes; clear hdec hyes
  go_enter Tryd.func70, Tryd.ntmps70
  by_cases hl : l.length = r.length
  · have HL := hid hl
    have u0 : ((l.length : Int) != (r.length : Int)) = false := by simp [hl]
    clear hl
    go_wp2
    go_loopw [13] (fun i wr => SameRelG l r w i wr) (fun i _ => l.length - (intOf i).toNat)
    case atStart => exact ⟨0, by omega, rfl, rfl, Qu.refl _⟩
    case round =>
      obtain ⟨k, hk, rfl, hsame, hq⟩ := hrel
      have HS := hid hsame; clear hsame
      by_cases hlt : k < l.length
      · have hlt' : k < r.length := by have := HL.out; omega
        obtain ⟨b1, o1, rfl, hb1, hx1, -⟩ := strs_at S1.out hlt
        obtain ⟨b2, o2, rfl, hb2, hx2, -⟩ := strs_at S2.out hlt'
        have g1 : wr.cell? ⟨b1, o1 + k, none⟩ = _ := (hq.cell _).trans hx1
        have g2 : wr.cell? ⟨b2, o2 + k, none⟩ = _ := (hq.cell _).trans hx2
        clear hx1 hx2
        have e1 : l.take (k + 1) = l.take k ++ [l[k]] := List.take_succ_eq_append_getElem hlt
        have e2 : r.take (k + 1) = r.take k ++ [r[k]] := List.take_succ_eq_append_getElem hlt'
        have hgn : l[k] ≠ r[k] → l ≠ r := fun h h' => h (by subst h'; rfl)
        generalize l[k] = p1 at *
        generalize r[k] = p2 at *
        by_cases he : p1 = p2
        · subst he
          have hs' : l.take (k + 1) = r.take (k + 1) := by rw [e1, e2, HS.out]
          have t2 : (p1.toList != p1.toList) = false := by simp
          have t3 : (p1.toList == p1.toList) = true := by simp
          have HS' := hid hs'; clear e1 e2 hs' hgn
          go_wp2
          go_quiet (fail)
          go_wp2
          go_roundw
          case rel => exact ⟨k + 1, by omega, by go_num, HS'.out, hq.drewN _⟩
          case measure => simp [intOf]; omega
        · have hn := HD.out (hgn he)
          have t3 : (p1.toList == p2.toList) = false := by rw [str_beq, decide_eq_false_iff_not]; exact he
          have t2 : (p1.toList != p2.toList) = true := by simp [bne, t3]
          have HN := hid hn; clear e1 e2 hgn hn he
          go_wp2
          go_quiet (fail)
          go_wp2
          go_ret
          exact ⟨by rw [HN.out]; rfl, hq.drewN _⟩
      · have he1 : l = r := by
          have := HS.out
          rwa [List.take_of_length_le (by omega), List.take_of_length_le (by have := HL.out; omega)] at this
        have hn := HY.out he1
        have HN := hid hn; clear he1 HS hn
        go_wp2
        go_ret
        exact ⟨by rw [HN.out]; rfl, hq⟩
  · have u0 : ((l.length : Int) != (r.length : Int)) = true := by simp; omega
    have hn := HD.out (fun e => hl (by rw [e]))
    have HN := hid hn
    clear hl hn
    go_wp2
    go_ret
    exact ⟨by rw [HN.out]; rfl, Qu.refl _⟩
theorem under_any (v x : Value) (p q : List ByteArray) (w : World) (hv : rdStrs w w.heap.size [v] p) (hx : rdStrs w w.heap.size [x] q) :
    Calls Tryd.prog 50 #[v, x] w (Stays (.bool (underB p q)) w) := by
  obtain ⟨A1, c1, e, hc1, hm1⟩ := hv.open_
  simp only [List.cons.injEq, and_true] at e
  subst e
  have hx0 := hx
  obtain ⟨A2, c2, e, hc2, hm2⟩ := hx.open_
  simp only [List.cons.injEq, and_true] at e
  subst e
  unfold underB
  by_cases h : q.length ≤ p.length
  · have d1 : decide ((q.length : Int) ≤ (p.length : Int)) = true := by rw [decide_eq_true_eq]; omega
    have hres : (decide (q.length ≤ p.length) && decide (p.take q.length = q)) = decide (p.take q.length = q) := by rw [decide_eq_true h, Bool.true_and]
    rw [hres]
    have HE := hid (eqStrs_any _ _ _ _ w (hv.head_ h) hx0)
    generalize decide (p.take q.length = q) = res at *
    clear hv hx hx0 hres
    go_enter Tryd.func50, Tryd.ntmps50
    go_wp2_with fail
    refine HE.out.mono ?_
    rintro e w1 ⟨rfl, hq⟩
    go_wp2
    go_ret
    exact ⟨rfl, hq⟩
  · have d1 : decide ((q.length : Int) ≤ (p.length : Int)) = false := by rw [decide_eq_false_iff_not]; omega
    have hres : (decide (q.length ≤ p.length) && decide (p.take q.length = q)) = false := by rw [decide_eq_false h, Bool.false_and]
    rw [hres]
    clear hv hx hx0 hres
    go_enter Tryd.func50, Tryd.ntmps50
    go_wp2
    go_ret
    exact ⟨rfl, Qu.refl _⟩
end Go.Proofs.YtkdpclllenbgfaaDoor
/- slices.Equal at []string, names.Under, names.Up. Printed by wip/gen_clone.py (second part). -/
namespace Go.Proofs.YtkdpclllenbgfaaDoor
open Go.ChangeShapes Go.WideShapes Go.ChangeAt Go.RowKit
set_option linter.unusedVariables false
set_option linter.unusedSimpArgs false

theorem rdSlice.full_ {α : Type} {k : Nat} {R : Rd α} {w : World} {B : Nat} {A : Option Addr} {n c : Nat} {l : List α} (h : rdSlice k R w B [.slice A n c] l) : rdSlice k R w B [.slice A n n] l := by
  obtain ⟨A', c', e, h1, h2, h3⟩ := h
  simp only [List.cons.injEq, and_true] at e
  injection e with e1 e2 e3
  subst e1; subst e2; subst e3
  exact ⟨A, l.length, rfl, by omega, by omega, h3⟩
set_option maxRecDepth 100000 in
set_option maxHeartbeats 1600000 in
theorem up_any (v : Value) (n : Int) (p : List ByteArray) (w : World) (hv : rdStrs w w.heap.size [v] p) (hp : p.length ≤ 1073741824) :
    Calls Tryd.prog 48 #[v, .int .i64 n] w (StrsPost (upS p n) w) := by
  obtain ⟨A1, c1, e, hc1, hm1⟩ := hv.open_
  simp only [List.cons.injEq, and_true] at e
  subst e
  obtain ⟨m, hm, hmn⟩ : ∃ m : Nat, m ≤ p.length ∧ max 0 (min n (p.length : Int)) = (m : Int) := ⟨(max 0 (min n (p.length : Int))).toNat, by omega, by omega⟩
  have hres : upS p n = p.take m := by
    unfold upS
    rcases Int.lt_or_le n (p.length : Int) with h | h
    · congr 1; omega
    · rw [List.take_of_length_le (by omega), List.take_of_length_le (by omega)]
  have hlm : (p.take m).length = m := by rw [List.length_take]; omega
  rw [hres]
  have HC := hid (cloneS_any _ _ w (hv.head_ hm).full_ (by omega))
  generalize p.take m = q at *
  generalize hpl : p.length = pl at *
  clear hv hres
  rcases (show (n ≤ 0 ∧ m = 0) ∨ (0 < m ∧ n = (m : Int)) ∨ ((pl : Int) < n ∧ m = pl) by omega) with ⟨h1, rfl⟩ | ⟨h1, rfl⟩ | ⟨h1, rfl⟩
  all_goals
    clear hmn
    go_enter Tryd.func48, Tryd.ntmps48
    go_wp2_with fail
    all_goals first
      | (exfalso; omega)
      | (refine HC.out.mono ?_
         rintro e w1 ⟨r, rfl, ho, hb⟩
         go_wp2
         go_ret
         exact ⟨r, rfl, ho, hb⟩)
      | (rw [show (max 0 (min n (pl : Int))).toNat = 0 by omega]
         refine HC.out.mono ?_
         rintro e w1 ⟨r, rfl, ho, hb⟩
         go_wp2
         go_ret
         exact ⟨r, rfl, ho, hb⟩)
      | (rw [show (max 0 (min (m : Int) (pl : Int))).toNat = m by omega]
         refine HC.out.mono ?_
         rintro e w1 ⟨r, rfl, ho, hb⟩
         go_wp2
         go_ret
         exact ⟨r, rfl, ho, hb⟩)
      | (rw [show (max 0 (min n (m : Int))).toNat = m by omega]
         refine HC.out.mono ?_
         rintro e w1 ⟨r, rfl, ho, hb⟩
         go_wp2
         go_ret
         exact ⟨r, rfl, ho, hb⟩)
      | (obtain rfl : m = 0 := by omega
         refine HC.out.mono ?_
         rintro e w1 ⟨r, rfl, ho, hb⟩
         go_wp2
         go_ret
         exact ⟨r, rfl, ho, hb⟩)
end Go.Proofs.YtkdpclllenbgfaaDoor
