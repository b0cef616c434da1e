/- Contract of the reference's Same (bytes). -/
import Derived.Test.YtkgifbnkkmeoiaaWirePartI
import Derived.Test.YtkgifbnkkmeoiaaMore
namespace Go.Proofs.Ytkgifbnkkmeoiaa
open Go.ChangeShapes Go.WideShapes Go.ChangeAt Go.RowKit
set_option linter.unusedVariables false

def SameRelB (l r : List UInt8) (w : World) (i : Value) (wr : World) : Prop := ∃ k : Nat, k ≤ l.length ∧ i = .int .i64 k ∧ l.take k = r.take k ∧ Qu w wr
def SamePostB (l r : List UInt8) (w : World) (e : Ending) (w' : World) : Prop := e = .returned (.bool (decide (l = r))) ∧ Qu w w'
set_option maxRecDepth 100000 in
set_option maxHeartbeats 400000 in
theorem sameB_any (v x : Value) (l r : List UInt8) (w : World) (hl : l.length ≤ 140737488355328) (hr : r.length ≤ 140737488355328) (hv : Sl w w.heap.size v (bvals l)) (hx : Sl w w.heap.size x (bvals r)) :
    Calls Try.prog 21 #[v, x] w (SamePostB l r w) := by
  obtain ⟨A, c, rfl, hc1, hc2, hA⟩ := hv
  obtain ⟨A', c', rfl, hc1', hc2', hA'⟩ := hx
  simp only [bvals_len] at hc1 hc1' ⊢
  have HA := hid hA; have HA' := hid hA'
  clear hA hA'
  go_enter Try.func21, Try.ntmps21
  by_cases hlen : l.length = r.length
  · have t1 : ((l.length : Int) != (r.length : Int)) = false := by simp [hlen]
    have HL := hid hlen; clear hlen
    go_wp2
    go_loopw [5] (fun i wr => SameRelB l r w i wr) (fun i _ => l.length - (intOf i).toNat)
    case atStart => exact ⟨0, by omega, rfl, rfl, Qu.refl _⟩
    case round =>
      obtain ⟨k, hk, rfl, hsame, hq⟩ := hrel
      have HS := hid hsame; clear hsame
      by_cases hlt : k < l.length
      · have hlt' : k < r.length := by have := HL.out; omega
        obtain ⟨b, off, rfl, hbl, hcell⟩ := Sl.byte HA.out hlt
        obtain ⟨b', off', rfl, hbl', hcell'⟩ := Sl.byte HA'.out hlt'
        have g1 : wr.cell? ⟨b, off + k, none⟩ = _ := (hq.cell _).trans hcell
        have g2 : wr.cell? ⟨b', off' + k, none⟩ = _ := (hq.cell _).trans hcell'
        clear hcell hcell'
        have e1 : l.take (k + 1) = l.take k ++ [l[k]] := List.take_succ_eq_append_getElem hlt
        have e2 : r.take (k + 1) = r.take k ++ [r[k]] := List.take_succ_eq_append_getElem hlt'
        by_cases he : l[k] = r[k]
        · have hs' : l.take (k + 1) = r.take (k + 1) := by rw [e1, e2, HS.out, he]
          have t2 : ((l[k].toNat : Int) != (r[k].toNat : Int)) = false := by simp [he]
          have HS' := hid hs'
          clear e1 e2 he hs'
          generalize l[k].toNat = p at *
          generalize r[k].toNat = q at *
          go_wp2
          go_quiet (fail)
          go_wp2
          go_roundw
          case rel => exact ⟨k + 1, by omega, by go_num, HS'.out, hq.drewN _⟩
          case measure => simp [intOf]; omega
        · have hne : decide (l = r) = false := by
            rw [decide_eq_false_iff_not]; intro h; subst h; exact he rfl
          have t2 : ((l[k].toNat : Int) != (r[k].toNat : Int)) = true := by
            simp only [bne_iff_ne, ne_eq]; intro h; exact he (UInt8.toNat_inj.1 (by omega))
          have HN := hid hne
          clear e1 e2 he hne
          generalize l[k].toNat = p at *
          generalize r[k].toNat = q at *
          go_wp2
          go_quiet (fail)
          go_wp2
          go_ret
          exact ⟨by rw [HN.out]; rfl, hq.drewN _⟩
      · have heq : decide (l = r) = true := by
          have hl := HL.out
          have := HS.out
          rw [List.take_of_length_le (by omega), List.take_of_length_le (by omega)] at this
          rw [this]; simp
        have HE := hid heq; clear heq
        go_wp2
        go_ret
        exact ⟨by rw [HE.out]; rfl, hq⟩
  · have t1 : ((l.length : Int) != (r.length : Int)) = true := by simp; omega
    have hne : decide (l = r) = false := by
      rw [decide_eq_false_iff_not]; intro h; exact hlen (by rw [h])
    have HN := hid hne; clear hne
    have HL := hid hlen; clear hlen
    go_wp2
    go_ret
    exact ⟨by rw [HN.out]; rfl, Qu.refl _⟩
end Go.Proofs.Ytkgifbnkkmeoiaa
