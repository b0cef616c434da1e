/- The reference's Same of numbers (layer 8), for slices that read as lists. -/
import Derived.Test.YtkgifbnkkmeoiaaInts
namespace Go.Proofs.Ytkgifbnkkmeoiaa
open Go.ChangeShapes Go.WideShapes Go.ChangeAt Go.RowKit
set_option linter.unusedVariables false
set_option linter.unusedSimpArgs false

set_option maxRecDepth 100000 in
set_option maxHeartbeats 800000 in
theorem same8_any (v x : Value) (l r : List Int) (w : World) (B B' : Nat) (hv : Sl w B v (ivals l)) (hx : Sl w B' x (ivals r)) :
    Calls Try.prog 24 #[v, x] w (Stays (.bool (decide (l = r))) w) := by
  obtain ⟨A1, c1, rfl, hc1, hm1⟩ := hv.formI
  obtain ⟨A2, c2, rfl, hc2, hm2⟩ := hx.formI
  unfold maxLen at hm1 hm2
  have S1 := hid hv; have S2 := hid hx; clear hv hx
  have hdec : l ≠ r → decide (l = r) = false := fun h => decide_eq_false h
  have hyes : l = r → decide (l = r) = true := fun h => decide_eq_true h
  generalize decide (l = r) = res at *
  have HD := hid hdec; have HY := hid hyes; clear hdec hyes
  go_enter Try.func24, Try.ntmps24
  by_cases hl : l.length = r.length
  · have HL := hid hl
    have u0 : ((l.length : Int) != (r.length : Int)) = false := by simp [hl]
    clear hl
    go_wp2
    go_loopw [5] (fun i wr => EqRel l r w i wr) (fun i _ => l.length - (intOf i).toNat)
    case atStart => exact ⟨0, by omega, rfl, rfl, Qu.refl _⟩
    case round =>
      obtain ⟨k, hk, rfl, hsame, hq⟩ := hrel
      have HS := hid hsame; clear hsame
      by_cases hlt : k < l.length
      · have hlt' : k < r.length := by have := HL.out; omega
        obtain ⟨b1, o1, rfl, hb1, hx1⟩ := S1.out.int hlt
        obtain ⟨b2, o2, rfl, hb2, hx2⟩ := S2.out.int hlt'
        have g1 : wr.cell? ⟨b1, o1 + k, none⟩ = _ := (hq.cell _).trans hx1
        have g2 : wr.cell? ⟨b2, o2 + k, none⟩ = _ := (hq.cell _).trans hx2
        clear hx1 hx2
        have e1 := take_succ_getD l k hlt
        have e2 := take_succ_getD r k hlt'
        have hgn := fun h => @getD_ne l r k h
        generalize l.getD k 0 = p1 at *
        generalize r.getD k 0 = p2 at *
        by_cases he : p1 = p2
        · subst he
          have hs' : l.take (k + 1) = r.take (k + 1) := by rw [e1, e2, HS.out]
          have t2 : (p1 != p1) = false := by simp
          have HS' := hid hs'; clear e1 e2 hs' hgn
          go_wp2
          go_quiet (fail)
          go_wp2
          go_roundw
          case rel => exact ⟨k + 1, by omega, by go_num, HS'.out, hq.drewN _⟩
          case measure => simp [intOf]; omega
        · have hn := HD.out (hgn he)
          have t2 : (p1 != p2) = true := by simpa using he
          have HN := hid hn; clear e1 e2 hgn hn he
          go_wp2
          go_quiet (fail)
          go_wp2
          go_ret
          exact ⟨by rw [HN.out]; rfl, hq.drewN _⟩
      · have he1 : l = r := by
          have := HS.out
          rwa [List.take_of_length_le (by omega), List.take_of_length_le (by have := HL.out; omega)] at this
        have hn := HY.out he1
        have HN := hid hn; clear he1 HS hn
        go_wp2
        go_ret
        exact ⟨by rw [HN.out]; rfl, hq⟩
  · have u0 : ((l.length : Int) != (r.length : Int)) = true := by simp; omega
    have hn := HD.out (fun e => hl (by rw [e]))
    have HN := hid hn
    clear hl hn
    go_wp2
    go_ret
    exact ⟨by rw [HN.out]; rfl, Qu.refl _⟩
end Go.Proofs.Ytkgifbnkkmeoiaa
