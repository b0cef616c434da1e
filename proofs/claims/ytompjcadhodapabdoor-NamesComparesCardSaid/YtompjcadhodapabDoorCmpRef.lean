/- The reference's Cmp (layer 6). -/
import Derived.Test.YtompjcadhodapabDoorCmp
import Derived.BigQuiet
namespace Go.Proofs.YtompjcadhodapabDoor
open Go.ChangeShapes Go.WideShapes Go.ChangeAt Go.RowKit
set_option linter.unusedVariables false
set_option linter.unusedSimpArgs false

theorem cmpT_parts (x y : ByteArray) : (cmpT x y = -1 ∧ lessB x y = true) ∨ (cmpT x y = 1 ∧ lessB x y = false ∧ (x.toList == y.toList) = false) ∨ (cmpT x y = 0 ∧ lessB x y = false ∧ (x.toList == y.toList) = true) := by
  rw [str_eq_less]
  unfold cmpT
  cases h1 : lessB x y
  · cases h2 : lessB y x <;> simp
  · simp
set_option maxRecDepth 100000 in
set_option maxHeartbeats 1600000 in
theorem refCmp_any (v x : Value) (p q : List ByteArray) (w : World) (hv : rdStrs w w.heap.size [v] p) (hx : rdStrs w w.heap.size [x] q) :
    Calls Tryd.prog 16 #[v, x] w (Stays (.int .i64 (cmpS p q)) w) := by
  obtain ⟨A1, c1, e, hc1, hm1⟩ := hv.open_
  simp only [List.cons.injEq, and_true] at e
  subst e
  obtain ⟨A2, c2, e, hc2, hm2⟩ := hx.open_
  simp only [List.cons.injEq, and_true] at e
  subst e
  have S1 := hid hv; have S2 := hid hx; clear hv hx
  have hnow : ∀ (k : Nat) (h1 : k < p.length) (h2 : k < q.length), p.take k = q.take k → cmpT p[k] q[k] ≠ 0 → cmpS p q = cmpT p[k] q[k] := fun k h1 h2 h hne => cm_now h1 h2 h hne
  have hend : ∀ (k : Nat), k ≤ p.length → k ≤ q.length → p.take k = q.take k → (p.length = k ∨ q.length = k) → cmpS p q = if p.length < q.length then -1 else if q.length < p.length then 1 else 0 := fun k h1 h2 h hx => cm_end h1 h2 h hx
  have HNOW := hid hnow; have HEND := hid hend
  clear hnow hend
  generalize cmpS p q = res at *
  go_enter Tryd.func16, Tryd.ntmps16
  go_wp2
  go_loopw [5] (fun i wr => CmRel p q w i wr) (fun i _ => p.length - (intOf i).toNat)
  case atStart => exact ⟨0, by omega, by omega, rfl, rfl, Qu.refl _⟩
  case round =>
    obtain ⟨k, hk, hk2, rfl, hsame, hq⟩ := hrel
    have HS := hid hsame; clear hsame
    by_cases hlt : k < p.length
    · have d1 : decide ((k : Int) < (p.length : Int)) = true := by rw [decide_eq_true_eq]; omega
      obtain ⟨b1, o1, rfl, hb1, hx1, -⟩ := strs_at S1.out hlt
      have g1 : wr.cell? ⟨b1, o1 + k, none⟩ = _ := (hq.cell _).trans hx1
      by_cases hlt2 : k < q.length
      · have d2 : decide ((k : Int) < (q.length : Int)) = true := by rw [decide_eq_true_eq]; omega
        obtain ⟨b2, o2, rfl, hb2, hx2, -⟩ := strs_at S2.out hlt2
        have g2 : wr.cell? ⟨b2, o2 + k, none⟩ = _ := (hq.cell _).trans hx2
        have hn := HNOW.out k hlt hlt2 HS.out
        have hst := cm_step hlt hlt2 HS.out
        have hz := @cmpT_zero p[k] q[k]
        have hpt := cmpT_parts p[k] q[k]
        generalize p[k] = s1 at *
        generalize q[k] = s2 at *
        have hbl : Op.bytesLess s1.toList s2.toList = lessB s1 s2 := rfl
        generalize lessB s1 s2 = bl at *
        have HN := hid hn; have HST := hid (fun h => hst (hz h))
        generalize cmpT s1 s2 = ct at *
        clear hn hst hz hx1 hx2
        rcases hpt with ⟨hc, rfl⟩ | ⟨hc, rfl, heq⟩ | ⟨hc, rfl, heq⟩
        · have HR := hid (show res = -1 by rw [HN.out (by omega), hc])
          clear hc
          go_wp2
          go_quiet (fail)
          go_wp2
          go_ret
          exact ⟨by rw [HR.out]; rfl, hq.drewN _⟩
        · have HR := hid (show res = 1 by rw [HN.out (by omega), hc])
          clear hc
          go_wp2
          go_quiet (fail)
          go_wp2
          go_quiet (fail)
          go_wp2
          go_ret
          exact ⟨by rw [HR.out]; rfl, by first | exact hq.drewN _ | exact (hq.drewN _).drewN _⟩
        · have HS' := hid (HST.out hc)
          clear hc
          go_wp2
          go_quiet (fail)
          go_wp2
          go_quiet (fail)
          go_wp2
          go_roundw
          case rel => exact ⟨k + 1, by omega, by omega, by go_num, HS'.out, hq.drewN _⟩
          case measure => simp [intOf]; omega
      · have d2 : decide ((k : Int) < (q.length : Int)) = false := by rw [decide_eq_false_iff_not]; omega
        have HR := hid (HEND.out k hk hk2 HS.out (.inr (by omega)))
        have HR2 := hid (show res = 1 by rw [HR.out, if_neg (by omega), if_pos (by omega)])
        clear hx1
        go_wp2
        go_ret
        exact ⟨by rw [HR2.out]; rfl, hq⟩
    · have d1 : decide ((k : Int) < (p.length : Int)) = false := by rw [decide_eq_false_iff_not]; omega
      have HR := hid (HEND.out k hk hk2 HS.out (.inl (by omega)))
      by_cases hpq : p.length < q.length
      · have HR2 := hid (show res = -1 by rw [HR.out, if_pos hpq])
        go_wp2
        go_ret
        exact ⟨by rw [HR2.out]; rfl, hq⟩
      · have HR2 := hid (show res = 0 by rw [HR.out, if_neg hpq, if_neg (by omega)])
        go_wp2
        go_ret
        exact ⟨by rw [HR2.out]; rfl, hq⟩
end Go.Proofs.YtompjcadhodapabDoor
