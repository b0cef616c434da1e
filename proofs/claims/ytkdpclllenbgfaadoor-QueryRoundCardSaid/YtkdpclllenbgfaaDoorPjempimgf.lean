/- 1 text of this claim, in build order. -/
import Derived.Test.YtkdpclllenbgfaaDoorPlkbkpgjd
import Derived.Test.YtkdpclllenbgfaaDoorPckcmpmog
/- The reference's SamePaths. -/
namespace Go.Proofs.YtkdpclllenbgfaaDoor
open Go.ChangeShapes Go.WideShapes Go.ChangeAt Go.RowKit
set_option linter.unusedVariables false
set_option linter.unusedSimpArgs false

set_option maxRecDepth 100000 in
set_option maxHeartbeats 800000 in
theorem samePaths_any (v x : Value) (l r : List (List ByteArray)) (w : World) (hv : rdSlice 1 rdStrs w w.heap.size [v] l) (hx : rdSlice 1 rdStrs w w.heap.size [x] r) :
    Calls Tryd.prog 28 #[v, x] w (Stays (.bool (decide (l = r))) w) := by
  obtain ⟨A1, c1, e, hc1, hm1⟩ := hv.open_
  simp only [List.cons.injEq, and_true] at e
  subst e
  obtain ⟨A2, c2, e, hc2, hm2⟩ := hx.open_
  simp only [List.cons.injEq, and_true] at e
  subst e
  have S1 := hid hv; have S2 := hid hx; clear hv hx
  have hdec : l ≠ r → decide (l = r) = false := fun h => decide_eq_false h
  have hyes : l = r → decide (l = r) = true := fun h => decide_eq_true h
  generalize decide (l = r) = res at *
  have HD := hid hdec; have HY := hid hyes; clear hdec hyes
  go_enter Tryd.func28, Tryd.ntmps28
  by_cases hl : l.length = r.length
  · have HL := hid hl
    have u0 : ((l.length : Int) != (r.length : Int)) = false := by simp [hl]
    clear hl
    go_wp2
    go_loopw [5] (fun i wr => SameRelG l r w i wr) (fun i _ => l.length - (intOf i).toNat)
    case atStart => exact ⟨0, by omega, rfl, rfl, Qu.refl _⟩
    case round =>
      obtain ⟨k, hk, rfl, hsame, hq⟩ := hrel
      have HS := hid hsame; clear hsame
      by_cases hlt : k < l.length
      · have hlt' : k < r.length := by have := HL.out; omega
        obtain ⟨b1, o1, AL, cL, rfl, hb1, hx1, hp1⟩ := paths_at S1.out hlt
        obtain ⟨b2, o2, AR, cR, rfl, hb2, hx2, hp2⟩ := paths_at S2.out hlt'
        have g1 : wr.cell? ⟨b1, o1 + k, none⟩ = _ := (hq.cell _).trans hx1
        have g2 : wr.cell? ⟨b2, o2 + k, none⟩ = _ := (hq.cell _).trans hx2
        clear hx1 hx2
        have e1 : l.take (k + 1) = l.take k ++ [l[k]] := List.take_succ_eq_append_getElem hlt
        have e2 : r.take (k + 1) = r.take k ++ [r[k]] := List.take_succ_eq_append_getElem hlt'
        have hgn : l[k] ≠ r[k] → l ≠ r := fun h h' => h (by subst h'; rfl)
        generalize l[k] = p1 at *
        generalize r[k] = p2 at *
        have HSM := hid (fun W (hqq : Qu wr W) => sameS_any (.slice AL p1.length cL) (.slice AR p2.length cR) p1 p2 W (strs_sl (good_strs.on hp1 ((hq.trans hqq).below _))).1 (strs_sl (good_strs.on hp2 ((hq.trans hqq).below _))).1)
        have hpe : p1 = p2 → l.take (k + 1) = r.take (k + 1) := fun h => by rw [e1, e2, HS.out, h]
        obtain ⟨bq, hbq⟩ : ∃ bq, decide (p1 = p2) = bq := ⟨_, rfl⟩
        rw [hbq] at HSM
        have HBQ := hid hbq; have HPE := hid hpe; have HGN := hid hgn
        generalize p1.length = n1 at *
        generalize p2.length = n2 at *
        clear hp1 hp2 e1 e2 hbq hpe hgn
        go_wp2
        go_quiet (first | (go_at_call 46; exact Calls.quiet_of (HSM.out _ ⟨_, rfl⟩)))
        cases bq
        · have HN := hid (HD.out (HGN.out (of_decide_eq_false HBQ.out)))
          go_wp2
          go_ret
          exact ⟨by rw [HN.out]; rfl, hq.drewN _⟩
        · have HS' := hid (HPE.out (of_decide_eq_true HBQ.out))
          go_wp2
          go_roundw
          case rel => exact ⟨k + 1, by omega, by go_num, HS'.out, hq.drewN _⟩
          case measure => simp [intOf]; omega
      · have he1 : l = r := by
          have := HS.out
          rwa [List.take_of_length_le (by omega), List.take_of_length_le (by have := HL.out; omega)] at this
        have hn := HY.out he1
        have HN := hid hn; clear he1 HS hn
        go_wp2
        go_ret
        exact ⟨by rw [HN.out]; rfl, hq⟩
  · have u0 : ((l.length : Int) != (r.length : Int)) = true := by simp; omega
    have hn := HD.out (fun e => hl (by rw [e]))
    have HN := hid hn
    clear hl hn
    go_wp2
    go_ret
    exact ⟨by rw [HN.out]; rfl, Qu.refl _⟩
end Go.Proofs.YtkdpclllenbgfaaDoor
