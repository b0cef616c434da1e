/- slices.Compare at []string, names.Cmp. -/
import Derived.Test.YtompjcadhodapabDoorOrdMath
import Derived.Test.YtompjcadhodapabDoorGen
namespace Go.Proofs.YtompjcadhodapabDoor
open Go.ChangeShapes Go.WideShapes Go.ChangeAt Go.RowKit
set_option linter.unusedVariables false
set_option linter.unusedSimpArgs false

theorem isNaN_any (s : ByteArray) (w : World) : Calls Tryd.prog 38 #[.string s] w (Stays (.bool false) w) := by
  have t : (s.toList == s.toList) = true := by simp
  go_enter Tryd.func38, Tryd.ntmps38
  go_wp2
  go_ret
  exact ⟨rfl, Qu.refl _⟩
def cmpT (x y : ByteArray) : Int := if lessB x y then -1 else if lessB y x then 1 else 0
theorem str_eq_less (x y : ByteArray) : (x.toList == y.toList) = (!lessB x y && !lessB y x) := by
  rw [str_beq]
  by_cases h : x = y
  · subst h; rw [lessB_irr]; simp
  · rw [decide_eq_false h]
    cases h1 : lessB x y
    · cases h2 : lessB y x
      · exact absurd (lessB_total h1 h2) h
      · rfl
    · rfl
set_option maxRecDepth 100000 in
theorem cmpT_any (x y : ByteArray) (w : World) : Calls Tryd.prog 31 #[.string x, .string y] w (Stays (.int .i64 (cmpT x y)) w) := by
  have HN := hid (fun s W => isNaN_any s W)
  have he := str_eq_less x y
  have hl : Op.bytesLess x.toList y.toList = lessB x y := rfl
  have hr : cmpT x y = if lessB x y then -1 else if lessB y x then 1 else 0 := rfl
  generalize cmpT x y = r at *
  cases h1 : lessB x y
  · cases h2 : lessB y x
    · rw [h1, h2] at he; rw [h1] at hl
      simp only [Bool.not_false, Bool.and_self] at he
      have HR := hid (show r = 0 by rw [hr, h1, h2]; rfl)
      clear hr h1 h2
      go_enter Tryd.func31, Tryd.ntmps31
      go_wp2_with fail
      refine (HN.out _ _).mono ?_
      rintro e w1 ⟨rfl, hq1⟩
      go_wp2_with fail
      refine (HN.out _ _).mono ?_
      rintro e w2 ⟨rfl, hq2⟩
      go_wp2
      go_ret
      exact ⟨by rw [HR.out]; rfl, hq1.trans hq2⟩
    · rw [h1, h2] at he; rw [h1] at hl
      simp only [Bool.not_false, Bool.not_true, Bool.and_false] at he
      have HR := hid (show r = 1 by rw [hr, h1, h2]; rfl)
      clear hr h1 h2
      go_enter Tryd.func31, Tryd.ntmps31
      go_wp2_with fail
      refine (HN.out _ _).mono ?_
      rintro e w1 ⟨rfl, hq1⟩
      go_wp2_with fail
      refine (HN.out _ _).mono ?_
      rintro e w2 ⟨rfl, hq2⟩
      go_wp2
      go_ret
      exact ⟨by rw [HR.out]; rfl, hq1.trans hq2⟩
  · rw [h1] at hl
    have HR := hid (show r = -1 by rw [hr, h1]; rfl)
    clear he hr h1
    go_enter Tryd.func31, Tryd.ntmps31
    go_wp2_with fail
    refine (HN.out _ _).mono ?_
    rintro e w1 ⟨rfl, hq1⟩
    go_wp2_with fail
    refine (HN.out _ _).mono ?_
    rintro e w2 ⟨rfl, hq2⟩
    go_wp2
    go_ret
    exact ⟨by rw [HR.out]; rfl, hq1.trans hq2⟩
theorem cmpS_cons' (x y : ByteArray) (p q : List ByteArray) : cmpS (x :: p) (y :: q) = if cmpT x y = 0 then cmpS p q else cmpT x y := by
  rw [cmpS_cons]
  unfold cmpT
  cases lessB x y
  · cases lessB y x <;> simp
  · simp
theorem cmpT_zero {x y : ByteArray} (h : cmpT x y = 0) : x = y := by
  unfold cmpT at h
  split at h
  · cases h
  · split at h
    · cases h
    · rename_i h1 h2
      exact lessB_total (by simpa using h1) (by simpa using h2)
/-- Behind a common beginning. -/
theorem cmpS_drop : ∀ (k : Nat) (p q : List ByteArray), k ≤ p.length → k ≤ q.length → p.take k = q.take k → cmpS p q = cmpS (p.drop k) (q.drop k) := by
  intro k
  induction k with
  | zero => intro p q _ _ _; rfl
  | succ k ih =>
    intro p q h1 h2 h3
    cases p with
    | nil => simp at h1
    | cons x p =>
      cases q with
      | nil => simp at h2
      | cons y q =>
        simp only [List.take_succ_cons, List.cons.injEq] at h3
        obtain ⟨rfl, h3⟩ := h3
        rw [cmpS_cons, lessB_irr]
        simp only [Bool.false_eq_true, if_false, List.drop_succ_cons]
        exact ih p q (by simpa using h1) (by simpa using h2) h3
def CmRel (p q : List ByteArray) (w : World) (i : Value) (wr : World) : Prop := ∃ k : Nat, k ≤ p.length ∧ k ≤ q.length ∧ i = .int .i64 k ∧ p.take k = q.take k ∧ Qu w wr
theorem cm_step {p q : List ByteArray} {k : Nat} (h1 : k < p.length) (h2 : k < q.length) (h : p.take k = q.take k) (he : p[k] = q[k]) : p.take (k + 1) = q.take (k + 1) := by
  rw [List.take_succ_eq_append_getElem h1, List.take_succ_eq_append_getElem h2, h, he]
theorem cm_now {p q : List ByteArray} {k : Nat} (h1 : k < p.length) (h2 : k < q.length) (h : p.take k = q.take k) (hne : cmpT p[k] q[k] ≠ 0) : cmpS p q = cmpT p[k] q[k] := by
  rw [cmpS_drop k p q (by omega) (by omega) h, List.drop_eq_getElem_cons h1, List.drop_eq_getElem_cons h2, cmpS_cons', if_neg hne]
theorem cm_end {p q : List ByteArray} {k : Nat} (h1 : k ≤ p.length) (h2 : k ≤ q.length) (h : p.take k = q.take k) (hx : p.length = k ∨ q.length = k) : cmpS p q = if p.length < q.length then -1 else if q.length < p.length then 1 else 0 := by
  rw [cmpS_drop k p q h1 h2 h]
  rcases hx with hx | hx
  · rw [List.drop_eq_nil_of_le (by omega : p.length ≤ k)]
    by_cases hlt : k < q.length
    · rw [List.drop_eq_getElem_cons hlt, if_pos (by omega)]; rfl
    · rw [List.drop_eq_nil_of_le (by omega), if_neg (by omega), if_neg (by omega)]; rfl
  · rw [List.drop_eq_nil_of_le (by omega : q.length ≤ k)]
    by_cases hlt : k < p.length
    · rw [List.drop_eq_getElem_cons hlt, if_neg (by omega), if_pos (by omega)]; rfl
    · rw [List.drop_eq_nil_of_le (by omega), if_neg (by omega), if_neg (by omega)]; rfl
set_option maxRecDepth 100000 in
set_option maxHeartbeats 800000 in
theorem compare_any (v x : Value) (p q : List ByteArray) (w : World) (hv : rdStrs w w.heap.size [v] p) (hx : rdStrs w w.heap.size [x] q) :
    Calls Tryd.prog 22 #[v, x] w (Stays (.int .i64 (cmpS p q)) w) := by
  obtain ⟨A1, c1, e, hc1, hm1⟩ := hv.open_
  simp only [List.cons.injEq, and_true] at e
  subst e
  obtain ⟨A2, c2, e, hc2, hm2⟩ := hx.open_
  simp only [List.cons.injEq, and_true] at e
  subst e
  have S1 := hid hv; have S2 := hid hx; clear hv hx
  have hnow : ∀ (k : Nat) (h1 : k < p.length) (h2 : k < q.length), p.take k = q.take k → cmpT p[k] q[k] ≠ 0 → cmpS p q = cmpT p[k] q[k] := fun k h1 h2 h hne => cm_now h1 h2 h hne
  have hend : ∀ (k : Nat), k ≤ p.length → k ≤ q.length → p.take k = q.take k → (p.length = k ∨ q.length = k) → cmpS p q = if p.length < q.length then -1 else if q.length < p.length then 1 else 0 := fun k h1 h2 h hx => cm_end h1 h2 h hx
  have HNOW := hid hnow; have HEND := hid hend
  clear hnow hend
  generalize cmpS p q = res at *
  go_enter Tryd.func22, Tryd.ntmps22
  go_wp2
  go_loopw [11] (fun i wr => CmRel p q w i wr) (fun i _ => p.length - (intOf i).toNat)
  case atStart => exact ⟨0, by omega, by omega, rfl, rfl, Qu.refl _⟩
  case round =>
    obtain ⟨k, hk, hk2, rfl, hsame, hq⟩ := hrel
    have HS := hid hsame; clear hsame
    by_cases hlt : k < p.length
    · obtain ⟨b1, o1, rfl, hb1, hx1, -⟩ := strs_at S1.out hlt
      have g1 : wr.cell? ⟨b1, o1 + k, none⟩ = _ := (hq.cell _).trans hx1
      by_cases hlt2 : k < q.length
      · obtain ⟨b2, o2, rfl, hb2, hx2, -⟩ := strs_at S2.out hlt2
        have g2 : wr.cell? ⟨b2, o2 + k, none⟩ = _ := (hq.cell _).trans hx2
        have t0 : decide ((q.length : Int) ≤ (k : Int)) = false := by rw [decide_eq_false_iff_not]; omega
        have hn := HNOW.out k hlt hlt2 HS.out
        have hst := cm_step hlt hlt2 HS.out
        have HCM := hid (fun W => cmpT_any p[k] q[k] W)
        have hz := @cmpT_zero p[k] q[k]
        generalize p[k] = s1 at *
        generalize q[k] = s2 at *
        have HN := hid hn; have HST := hid (fun h => hst (hz h))
        generalize cmpT s1 s2 = ct at *
        clear hn hst hz hx1 hx2
        go_wp2_with fail
        refine (HCM.out _).mono ?_
        rintro e w1 ⟨rfl, hq1⟩
        have HQ := hid (hq.trans hq1)
        clear hq1
        by_cases hc : ct = 0
        · have HS' := hid (HST.out hc)
          subst hc
          go_wp2
          go_roundw
          case rel => exact ⟨k + 1, by omega, by omega, by go_num, HS'.out, HQ.out⟩
          case measure => simp [intOf]; omega
        · have t1 : (ct != 0) = true := by simpa using hc
          have HR := hid (HN.out hc)
          clear hc
          go_wp2
          go_ret
          exact ⟨by rw [HR.out]; rfl, HQ.out⟩
      · have t0 : decide ((q.length : Int) ≤ (k : Int)) = true := by rw [decide_eq_true_eq]; omega
        have HR := hid (HEND.out k hk hk2 HS.out (.inr (by omega)))
        have HR2 := hid (show res = 1 by rw [HR.out, if_neg (by omega), if_pos (by omega)])
        clear hx1
        go_wp2
        go_ret
        exact ⟨by rw [HR2.out]; rfl, hq⟩
    · have HR := hid (HEND.out k hk hk2 HS.out (.inl (by omega)))
      by_cases hpq : p.length < q.length
      · have HR2 := hid (show res = -1 by rw [HR.out, if_pos hpq])
        go_wp2
        go_ret
        exact ⟨by rw [HR2.out]; rfl, hq⟩
      · have HR2 := hid (show res = 0 by rw [HR.out, if_neg hpq, if_neg (by omega)])
        go_wp2
        go_ret
        exact ⟨by rw [HR2.out]; rfl, hq⟩
theorem cmp_any (v x : Value) (p q : List ByteArray) (w : World) (hv : rdStrs w w.heap.size [v] p) (hx : rdStrs w w.heap.size [x] q) :
    Calls Tryd.prog 12 #[v, x] w (Stays (.int .i64 (cmpS p q)) w) := by
  have HC := hid (compare_any v x p q w hv hx)
  obtain ⟨A1, c1, e, hc1, hm1⟩ := hv.open_
  simp only [List.cons.injEq, and_true] at e
  subst e
  obtain ⟨A2, c2, e, hc2, hm2⟩ := hx.open_
  simp only [List.cons.injEq, and_true] at e
  subst e
  clear hv hx
  generalize cmpS p q = res at *
  go_enter Tryd.func12, Tryd.ntmps12
  go_wp2_with fail
  refine HC.out.mono ?_
  rintro e w1 ⟨rfl, hq1⟩
  go_wp2
  go_ret
  exact ⟨rfl, hq1⟩
end Go.Proofs.YtompjcadhodapabDoor
