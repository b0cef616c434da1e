/- 1 text of this claim, in build order. -/
import Derived.Test.YtgoapnkdcfcjgaaGreatPolglljep
/- Words for the sums of many cells. -/
namespace Go.Proofs.YtgoapnkdcfcjgaaGreat
open Go.ChangeShapes Go.WideShapes Go.ChangeAt Go.RowKit
set_option linter.unusedVariables false
set_option linter.unusedSimpArgs false

/-- An element's parts. -/
theorem RowC.part {w : World} {B n c : Nat} {A : Option Addr} {L : List CellM} (h : RowC w B (.slice A n c) L) {k : Nat} (hk : k < L.length) :
    ∃ b off A1 c1 A2 c2 A3 c3, A = some ⟨b, off, none⟩ ∧ b < B ∧ At4 w b off k ((L.getD k nilC).n, .slice A1 (L.getD k nilC).s.length c1, .slice A2 (L.getD k nilC).lo.length c2, .slice A3 (L.getD k nilC).hi.length c3) ∧
      Sl w B (.slice A1 (L.getD k nilC).s.length c1) (ivals (L.getD k nilC).s) ∧ Sl w B (.slice A2 (L.getD k nilC).lo.length c2) (ivals (L.getD k nilC).lo) ∧ Sl w B (.slice A3 (L.getD k nilC).hi.length c3) (ivals (L.getD k nilC).hi) := by
  obtain ⟨A', c', es, e, h2, h3, h4, h5, h6⟩ := h
  injection e with e1 e2 e3
  subst e1
  obtain ⟨b, off, e4, hb, hat⟩ := h5 (by omega)
  have hr := h6 k hk
  have hr' := hr
  obtain ⟨v1, v2, v3, e, s1, s2, s3⟩ := hr
  obtain ⟨A1, c1, f1, -, -⟩ := s1.formI
  obtain ⟨A2, c2, f2, -, -⟩ := s2.formI
  obtain ⟨A3, c3, f3, -, -⟩ := s3.formI
  injection e with e
  have g0 := congrArg (fun a : Array Value => a[0]?) e
  have g1 := congrArg (fun a : Array Value => a[1]?) e
  have g2 := congrArg (fun a : Array Value => a[2]?) e
  have g3 := congrArg (fun a : Array Value => a[3]?) e
  simp at g0 g1 g2 g3
  have ea : es.getD k z4 = ((L.getD k nilC).n, .slice A1 (L.getD k nilC).s.length c1, .slice A2 (L.getD k nilC).lo.length c2, .slice A3 (L.getD k nilC).hi.length c3) := by
    have q : es.getD k z4 = ((es.getD k z4).1, (es.getD k z4).2.1, (es.getD k z4).2.2.1, (es.getD k z4).2.2.2) := rfl
    rw [q]
    simp only [List.getD_eq_getElem?_getD] at f1 f2 f3 ⊢
    rw [g0, g1, g2, g3, f1, f2, f3]
  refine ⟨b, off, A1, c1, A2, c2, A3, c3, e4, hb, ?_, by rw [← f1]; exact s1, by rw [← f2]; exact s2, by rw [← f3]; exact s3⟩
  rw [← ea]; exact hat k hk
def SumRel1 (m : Nat) (l : List CellM) (w : World) (i : Value) (wr : World) : Prop := ∃ k : Nat, k ≤ l.length ∧ i = .int .i64 k ∧ (∀ j, j < k → argB m (l.getD j nilC) = true) ∧ Below w.heap.size w wr
theorem argB_may {m : Nat} {c : CellM} (h : mayC c = false) : argB m c = false := by unfold argB; rw [h, Bool.false_and]
theorem argB_len {m : Nat} {c : CellM} (h : mayC c = true) : argB m c = decide (c.s.length = m) := by unfold argB; rw [h, Bool.true_and]
theorem Bld.drewN {w : World} {H C : Nat} {n : Int} {V : Nat → Value} {X : Nat → List Int} (h : Bld w H C n V X) (k : Nat) : Bld (w.drewN k) H C n V X := h.kept (below_drewN (Below.refl _ _) k)
theorem bld_st2 {w : World} {H C m c k g : Nat} {n : Int} {V : Nat → Value} {Y Y' : Nat → List Int} (h : Bld w H C n V Y) (hV : V 2 = .slice (some ⟨g, 0, none⟩) m c) (hk : k < (Y 2).length) (x : Int)
    (e1 : Y 1 = Y' 1) (e2 : (Y 2).set k x = Y' 2) (e3 : Y 3 = Y' 3) : Bld (w.setCell ⟨g, k, none⟩ (.int .i64 x)) H C n V Y' ∧ ∀ B w0, B ≤ H → Below B w0 w → Below B w0 (w.setCell ⟨g, k, none⟩ (.int .i64 x)) := by
  obtain ⟨-, -, st, far⟩ := h.setAt 2 (by omega) (by omega) hV hk x
  exact ⟨bld_same st (fun _ _ _ => rfl) (three_of e1 e2 e3), far⟩
theorem bld_st3 {w : World} {H C m c k g : Nat} {n : Int} {V : Nat → Value} {Y Y' : Nat → List Int} (h : Bld w H C n V Y) (hV : V 3 = .slice (some ⟨g, 0, none⟩) m c) (hk : k < (Y 3).length) (x : Int)
    (e1 : Y 1 = Y' 1) (e2 : Y 2 = Y' 2) (e3 : (Y 3).set k x = Y' 3) : Bld (w.setCell ⟨g, k, none⟩ (.int .i64 x)) H C n V Y' ∧ ∀ B w0, B ≤ H → Below B w0 w → Below B w0 (w.setCell ⟨g, k, none⟩ (.int .i64 x)) := by
  obtain ⟨-, -, st, far⟩ := h.setAt 3 (by omega) (by omega) hV hk x
  exact ⟨bld_same st (fun _ _ _ => rfl) (three_of e1 e2 e3), far⟩
theorem bld_st1 {w : World} {H C m c k g : Nat} {n : Int} {V : Nat → Value} {Y Y' : Nat → List Int} (h : Bld w H C n V Y) (hV : V 1 = .slice (some ⟨g, 0, none⟩) m c) (hk : k < (Y 1).length) (x : Int)
    (e1 : (Y 1).set k x = Y' 1) (e2 : Y 2 = Y' 2) (e3 : Y 3 = Y' 3) : Bld (w.setCell ⟨g, k, none⟩ (.int .i64 x)) H C n V Y' ∧ ∀ B w0, B ≤ H → Below B w0 w → Below B w0 (w.setCell ⟨g, k, none⟩ (.int .i64 x)) := by
  obtain ⟨-, -, st, far⟩ := h.setAt 1 (by omega) (by omega) hV hk x
  exact ⟨bld_same st (fun _ _ _ => rfl) (three_of e1 e2 e3), far⟩
theorem sum_bnds (l : List Int) (hr : ∀ x ∈ l, -SUM ≤ x ∧ x ≤ SUM) : -SUM * (l.length : Int) ≤ l.sum ∧ l.sum ≤ SUM * (l.length : Int) := by
  unfold SUM at *
  induction l with
  | nil => simp
  | cons x l ih =>
    have h1 := hr x List.mem_cons_self
    have h2 := ih (fun y hy => hr y (List.mem_cons_of_mem _ hy))
    rw [List.sum_cons, List.length_cons]
    omega
/-- One of the four ways of a round. -/
def Y2 (Y Y' : Nat → List Int) : Nat → List Int := fun j => if j = 3 then Y 3 else Y' j
theorem mix_getD {z o : List Int} {k : Nat} (hz : k ≤ z.length) (ho : k < o.length) : (z.take k ++ o.drop k).getD k 0 = o.getD k 0 := by
  simp only [List.getD_eq_getElem?_getD]
  rw [List.getElem?_append_right (by rw [List.length_take]; omega), List.length_take, List.getElem?_drop, show k + (k - min k z.length) = k by omega]
theorem all_argB {m : Nat} {l : List CellM} (h : ∀ j, j < l.length → argB m (l.getD j nilC) = true) : l.all (argB m) = true := by
  rw [List.all_eq_true]
  intro x hx
  obtain ⟨j, hj, rfl⟩ := List.getElem_of_mem hx
  have := h j hj
  rwa [List.getD_eq_getElem?_getD, List.getElem?_eq_getElem hj] at this
/-- What is known of cells that are put together. -/
structure SumF (m : Nat) (l : List CellM) : Prop where
  m2 : m ≤ 2
  ne : l ≠ []
  pos : 0 < l.length
  n64 : l.length ≤ 65536
  hd : (l.headD nilC).s.length = m
  all : l.all (argB m) = true
  args : ArgsP m l
  s : ∀ j, j < l.length → (l.getD j nilC).s.length = m
  lo : ∀ j, j < l.length → (l.getD j nilC).lo.length = m
  hi : ∀ j, j < l.length → (l.getD j nilC).hi.length = m
  cnt : ∀ j, j < l.length → 0 ≤ (l.getD j nilC).n ∧ (l.getD j nilC).n ≤ CNT
theorem getD_memC {l : List CellM} {k : Nat} (hk : k < l.length) : l.getD k nilC ∈ l := by
  rw [List.getD_eq_getElem?_getD, List.getElem?_eq_getElem hk]; exact List.getElem_mem hk
theorem sumF_of {l : List CellM} (hne : l ≠ []) (hn : l.length ≤ 65536) (h : l.all (argB (l.headD nilC).s.length) = true) : SumF (l.headD nilC).s.length l := by
  have ha := argsP_of h
  have hp := List.length_pos_iff.2 hne
  have h0 : l.headD nilC ∈ l := by
    cases l with
    | nil => exact absurd rfl hne
    | cons x l => exact List.mem_cons_self
  refine ⟨(ha.may _ h0).1.1, hne, hp, hn, rfl, h, ha, fun j hj => ha.len _ (getD_memC hj), fun j hj => ?_, fun j hj => ?_, fun j hj => ?_⟩
  · have h1 := ha.may _ (getD_memC hj)
    exact h1.1.2.1.trans (ha.len _ (getD_memC hj))
  · have h1 := ha.may _ (getD_memC hj)
    exact h1.1.2.2.trans (ha.len _ (getD_memC hj))
  · have h1 := ha.may _ (getD_memC hj)
    by_cases h0 : (l.getD j nilC).n = 0
    · rw [h0]; unfold CNT; omega
    · have := (may_full h1 h0).1; omega
end Go.Proofs.YtgoapnkdcfcjgaaGreat
