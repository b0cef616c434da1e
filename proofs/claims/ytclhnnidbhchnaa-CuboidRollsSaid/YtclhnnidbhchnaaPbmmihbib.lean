/- 1 text of this claim, in build order. -/
import Derived.Test.YtclhnnidbhchnaaPcjplabni
/- Many cells together, plainly. -/
namespace Go.Proofs.Ytclhnnidbhchnaa
set_option linter.unusedVariables false
set_option linter.unusedSimpArgs false

def fullL (l : List CellM) : List CellM := l.filter fun c => c.n != 0
def cntL (l : List CellM) : Int := (l.map CellM.n).sum
def sCol (l : List CellM) (i : Nat) : List Int := l.map fun c => c.s.getD i 0
def loCol (l : List CellM) (i : Nat) : List Int := l.map fun c => c.lo.getD i 0
def hiCol (l : List CellM) (i : Nat) : List Int := l.map fun c => c.hi.getD i 0
def sumsOf (m : Nat) (l : List CellM) : CellM := ⟨cntL l, (List.range m).map fun i => (sCol l i).sum, (List.range m).map fun i => minL (loCol l i), (List.range m).map fun i => maxL (hiCol l i)⟩
def argB (m : Nat) (c : CellM) : Bool := mayC c && decide (c.s.length = m)
def sumC (l : List CellM) : CellM × Int :=
  if l = [] then (nilC, 1) else if l.all (argB (l.headD nilC).s.length) = false then (nilC, 1) else
  if fullL l = [] then (emptyC (l.headD nilC).s.length, 0) else
  if CNT < cntL (fullL l) then (nilC, 14) else
  if (List.range (l.headD nilC).s.length).all (fun i => inB (sCol (fullL l) i).sum SUM) = false then (nilC, 14) else (sumsOf (l.headD nilC).s.length (fullL l), 0)
/-- What is known of cells that may be put together. -/
structure ArgsP (m : Nat) (l : List CellM) : Prop where
  may : ∀ c ∈ l, MayP c
  len : ∀ c ∈ l, c.s.length = m
theorem argsP_of {m : Nat} {l : List CellM} (h : l.all (argB m) = true) : ArgsP m l := by
  rw [List.all_eq_true] at h
  refine ⟨fun c hc => ?_, fun c hc => ?_⟩
  · have := h c hc
    unfold argB at this
    rw [Bool.and_eq_true] at this
    exact mayC_iff.1 this.1
  · have := h c hc
    unfold argB at this
    rw [Bool.and_eq_true] at this
    exact of_decide_eq_true this.2
theorem fullL_mem {l : List CellM} {c : CellM} : c ∈ fullL l ↔ c ∈ l ∧ c.n ≠ 0 := by unfold fullL; simp
theorem fullL_snoc (l : List CellM) (c : CellM) : fullL (l ++ [c]) = if c.n = 0 then fullL l else fullL l ++ [c] := by
  unfold fullL
  rw [List.filter_append]
  by_cases h : c.n = 0
  · simp [h]
  · simp [h]
theorem cntL_snoc (l : List CellM) (c : CellM) : cntL (l ++ [c]) = cntL l + c.n := by unfold cntL; simp
theorem sCol_snoc (l : List CellM) (c : CellM) (i : Nat) : sCol (l ++ [c]) i = sCol l i ++ [c.s.getD i 0] := by unfold sCol; simp
theorem loCol_snoc (l : List CellM) (c : CellM) (i : Nat) : loCol (l ++ [c]) i = loCol l i ++ [c.lo.getD i 0] := by unfold loCol; simp
theorem hiCol_snoc (l : List CellM) (c : CellM) (i : Nat) : hiCol (l ++ [c]) i = hiCol l i ++ [c.hi.getD i 0] := by unfold hiCol; simp
/-- Sums of full cells' counts only grow. -/
theorem cntL_pos {l : List CellM} (h : ∀ c ∈ l, 1 ≤ c.n) : (l.length : Int) ≤ cntL l := by
  induction l with
  | nil => simp [cntL]
  | cons c l ih =>
    have h1 := h c List.mem_cons_self
    have h2 := ih (fun d hd => h d (List.mem_cons_of_mem _ hd))
    unfold cntL at *
    simp only [List.map_cons, List.sum_cons, List.length_cons]
    omega
theorem cntL_append (l k : List CellM) : cntL (l ++ k) = cntL l + cntL k := by unfold cntL; simp
theorem cntL_take_le {l : List CellM} (h : ∀ c ∈ l, 1 ≤ c.n) (k : Nat) : cntL (l.take k) ≤ cntL l := by
  have e : l = l.take k ++ l.drop k := (List.take_append_drop k l).symm
  have h2 := cntL_pos (l := l.drop k) (fun c hc => h c (List.mem_of_mem_drop hc))
  have h3 := cntL_append (l.take k) (l.drop k)
  rw [← e] at h3
  omega
theorem cntL_le {l : List CellM} (h : ∀ c ∈ l, c.n ≤ CNT) : cntL l ≤ CNT * l.length := by
  induction l with
  | nil => simp [cntL]
  | cons c l ih =>
    have h1 := h c List.mem_cons_self
    have h2 := ih (fun d hd => h d (List.mem_cons_of_mem _ hd))
    unfold cntL CNT at *
    simp only [List.map_cons, List.sum_cons, List.length_cons]
    omega
/-- Empty cells add nothing to a sum. -/
theorem sCol_full {m : Nat} {l : List CellM} (h : ArgsP m l) (i : Nat) : (sCol l i).sum = (sCol (fullL l) i).sum := by
  induction l with
  | nil => rfl
  | cons c l ih =>
    have h2 := ih ⟨fun d hd => h.may d (List.mem_cons_of_mem _ hd), fun d hd => h.len d (List.mem_cons_of_mem _ hd)⟩
    by_cases h0 : c.n = 0
    · have e := may_zero (h.may c List.mem_cons_self) h0
      have hz : c.s.getD i 0 = 0 := by
        rw [e]
        unfold emptyC
        simp only [List.getD_eq_getElem?_getD, List.getElem?_replicate]
        split <;> rfl
      have e2 : fullL (c :: l) = fullL l := by unfold fullL; simp [h0]
      rw [e2, ← h2]
      unfold sCol
      simp only [List.map_cons, List.sum_cons, hz]
      omega
    · have e2 : fullL (c :: l) = c :: fullL l := by unfold fullL; simp [h0]
      rw [e2]
      unfold sCol at *
      simp only [List.map_cons, List.sum_cons]
      rw [h2]
theorem full_p {m : Nat} {l : List CellM} (h : ArgsP m l) : ∀ c ∈ fullL l, (1 ≤ c.n ∧ c.n ≤ CNT) ∧ c.s.length = m ∧ c.lo.length = m ∧ c.hi.length = m ∧ ∀ i, i < m → c.col i := by
  intro c hc
  obtain ⟨h1, h2⟩ := fullL_mem.1 hc
  have hm := h.may c h1
  have hl := h.len c h1
  obtain ⟨a, b⟩ := may_full hm h2
  exact ⟨a, hl, hm.1.2.1.trans hl, hm.1.2.2.trans hl, fun i hi => b i (by omega)⟩
theorem full_none {m : Nat} {l : List CellM} (h : ArgsP m l) (hf : fullL l = []) : ∀ c ∈ l, c = emptyC m := by
  intro c hc
  have h0 : c.n = 0 := by
    rcases Int.decEq c.n 0 with h1 | h1
    · have := fullL_mem.2 ⟨hc, h1⟩
      rw [hf] at this
      cases this
    · exact h1
  rw [may_zero (h.may c hc) h0, h.len c hc]
/-! ### The ways -/
theorem sumC_nil : sumC [] = (nilC, 1) := by unfold sumC; simp
theorem sumC_bad {l : List CellM} {k : Nat} (hk : k < l.length) (h : argB (l.headD nilC).s.length (l.getD k nilC) = false) : sumC l = (nilC, 1) := by
  have h0 : l ≠ [] := by intro e; subst e; simp at hk
  have h1 : l.all (argB (l.headD nilC).s.length) = false := by
    rw [List.all_eq_false]
    refine ⟨l[k], List.getElem_mem hk, ?_⟩
    rw [List.getD_eq_getElem?_getD, List.getElem?_eq_getElem hk] at h
    simpa using h
  unfold sumC
  rw [if_neg h0, if_pos h1]
theorem sumC_empty {l : List CellM} (h0 : l ≠ []) (h1 : l.all (argB (l.headD nilC).s.length) = true) (h2 : fullL l = []) : sumC l = (emptyC (l.headD nilC).s.length, 0) := by
  unfold sumC
  rw [if_neg h0, if_neg (by rw [h1]; decide), if_pos h2]
theorem sumC_many {l : List CellM} (h0 : l ≠ []) (h1 : l.all (argB (l.headD nilC).s.length) = true) (h2 : fullL l ≠ []) (h3 : CNT < cntL (fullL l)) : sumC l = (nilC, 14) := by
  unfold sumC
  rw [if_neg h0, if_neg (by rw [h1]; decide), if_neg h2, if_pos h3]
theorem sumC_far {l : List CellM} (h0 : l ≠ []) (h1 : l.all (argB (l.headD nilC).s.length) = true) (h2 : fullL l ≠ []) {i : Nat} (hi : i < (l.headD nilC).s.length) (h3 : inB (sCol (fullL l) i).sum SUM = false) : sumC l = (nilC, 14) := by
  unfold sumC
  rw [if_neg h0, if_neg (by rw [h1]; decide), if_neg h2]
  split
  · rfl
  · rw [if_pos]
    rw [List.all_eq_false]
    exact ⟨i, List.mem_range.2 hi, by simp [h3]⟩
theorem sumC_yes {l : List CellM} (h0 : l ≠ []) (h1 : l.all (argB (l.headD nilC).s.length) = true) (h2 : fullL l ≠ []) (h3 : cntL (fullL l) ≤ CNT) (h4 : ∀ i, i < (l.headD nilC).s.length → inB (sCol (fullL l) i).sum SUM = true) : sumC l = (sumsOf (l.headD nilC).s.length (fullL l), 0) := by
  unfold sumC
  rw [if_neg h0, if_neg (by rw [h1]; decide), if_neg h2, if_neg (by omega), if_neg]
  rw [Bool.not_eq_false, List.all_eq_true]
  exact fun i hi => h4 i (List.mem_range.1 hi)
end Go.Proofs.Ytclhnnidbhchnaa
