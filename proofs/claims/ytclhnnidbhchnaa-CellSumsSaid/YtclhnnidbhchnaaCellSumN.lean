/- Many cells together, as the two loops make it: plainly. -/
import Derived.Test.YtclhnnidbhchnaaCellSumM
namespace Go.Proofs.Ytclhnnidbhchnaa
set_option linter.unusedVariables false
set_option linter.unusedSimpArgs false

/-- What the reference has of some full cells: no sums yet. -/
def accC (m : Nat) (F : List CellM) : CellM :=
  if F = [] then emptyC m else ⟨cntL F, List.replicate m 0, (List.range m).map fun i => minL (loCol F i), (List.range m).map fun i => maxL (hiCol F i)⟩
theorem accC_nil (m : Nat) : accC m [] = emptyC m := if_pos rfl
theorem accC_cons {m : Nat} {F : List CellM} (h : F ≠ []) : accC m F = ⟨cntL F, List.replicate m 0, (List.range m).map fun i => minL (loCol F i), (List.range m).map fun i => maxL (hiCol F i)⟩ := if_neg h
theorem accC_n (m : Nat) (F : List CellM) : (accC m F).n = cntL F := by
  by_cases h : F = []
  · rw [h, accC_nil]; rfl
  · rw [accC_cons h]
theorem accC_s (m : Nat) (F : List CellM) : (accC m F).s = List.replicate m 0 := by
  by_cases h : F = []
  · rw [h, accC_nil]; rfl
  · rw [accC_cons h]
theorem accC_lo_len (m : Nat) (F : List CellM) : (accC m F).lo.length = m := by
  by_cases h : F = []
  · rw [h, accC_nil]; simp [emptyC]
  · rw [accC_cons h]; simp
theorem accC_hi_len (m : Nat) (F : List CellM) : (accC m F).hi.length = m := by
  by_cases h : F = []
  · rw [h, accC_nil]; simp [emptyC]
  · rw [accC_cons h]; simp
def FullL (F : List CellM) : Prop := ∀ c ∈ F, 1 ≤ c.n
theorem cnt_zero {F : List CellM} (h : FullL F) : cntL F = 0 ↔ F = [] := by
  constructor
  · intro h0
    have := cntL_pos h
    cases F with
    | nil => rfl
    | cons x F => simp at this; omega
  · rintro rfl; rfl
theorem acc_lo_step {m k : Nat} {F : List CellM} (hF : FullL F) (hk : k < m) (x : CellM) :
    (accC m (F ++ [x])).lo.getD k 0 = if cntL F = 0 ∨ x.lo.getD k 0 < (accC m F).lo.getD k 0 then x.lo.getD k 0 else (accC m F).lo.getD k 0 := by
  rw [accC_cons (by simp)]
  simp only
  rw [getD_map_range hk, loCol_snoc]
  by_cases h : F = []
  · rw [if_pos (.inl ((cnt_zero hF).2 h)), h]
    exact minL_eq (by simp [loCol]) (fun y hy => by simp [loCol] at hy; rw [hy, List.getD_eq_getElem?_getD]; exact Int.le_refl _)
  · have h0 : cntL F ≠ 0 := fun e => h ((cnt_zero hF).1 e)
    rw [accC_cons h]
    simp only
    rw [getD_map_range hk, minL_snoc (by simp [loCol, h])]
    simp only [h0, false_or]
theorem acc_hi_step {m k : Nat} {F : List CellM} (hF : FullL F) (hk : k < m) (x : CellM) :
    (accC m (F ++ [x])).hi.getD k 0 = if cntL F = 0 ∨ (accC m F).hi.getD k 0 < x.hi.getD k 0 then x.hi.getD k 0 else (accC m F).hi.getD k 0 := by
  rw [accC_cons (by simp)]
  simp only
  rw [getD_map_range hk, hiCol_snoc]
  by_cases h : F = []
  · rw [if_pos (.inl ((cnt_zero hF).2 h)), h]
    exact maxL_eq (by simp [hiCol]) (fun y hy => by simp [hiCol] at hy; rw [hy, List.getD_eq_getElem?_getD]; exact Int.le_refl _)
  · have h0 : cntL F ≠ 0 := fun e => h ((cnt_zero hF).1 e)
    rw [accC_cons h]
    simp only
    rw [getD_map_range hk, maxL_snoc (by simp [hiCol, h])]
    simp only [h0, false_or]
/-- What comes of it. -/
def topC (m : Nat) (l : List CellM) : CellM := ⟨cntL (fullL l), (List.range m).map fun i => (sCol (fullL l) i).sum, (accC m (fullL l)).lo, (accC m (fullL l)).hi⟩
theorem topC_full {m : Nat} {l : List CellM} (h : fullL l ≠ []) : topC m l = sumsOf m (fullL l) := by
  unfold topC sumsOf
  rw [accC_cons h]
theorem topC_none {m : Nat} {l : List CellM} (h : fullL l = []) : topC m l = emptyC m := by
  unfold topC
  rw [h, accC_nil]
  unfold emptyC cntL sCol
  simp only [List.map_nil, List.sum_nil]
  congr 1
  apply List.ext_getElem
  · simp
  · intro i h1 h2; simp
theorem fullL_take (l : List CellM) (k : Nat) : ∃ r, fullL l = fullL (l.take k) ++ r := ⟨fullL (l.drop k), by unfold fullL; rw [← List.filter_append, List.take_append_drop]⟩
theorem fullL_pos {m : Nat} {l : List CellM} (h : ArgsP m l) : FullL (fullL l) := fun c hc => (full_p h c hc).1.1
theorem argsP_take {m : Nat} {l : List CellM} (h : ArgsP m l) (k : Nat) : ArgsP m (l.take k) := ⟨fun c hc => h.may c (List.mem_of_mem_take hc), fun c hc => h.len c (List.mem_of_mem_take hc)⟩
theorem cnt_take_le {m : Nat} {l : List CellM} (h : ArgsP m l) (k : Nat) : cntL (fullL (l.take k)) ≤ cntL (fullL l) := by
  obtain ⟨r, e⟩ := fullL_take l k
  have h2 := fullL_pos h
  rw [e] at h2 ⊢
  rw [cntL_append]
  have := cntL_pos (l := r) (fun c hc => h2 c (List.mem_append_right _ hc))
  omega
theorem cnt_nonneg {m : Nat} {l : List CellM} (h : ArgsP m l) : 0 ≤ cntL (fullL l) := by
  have := cntL_pos (fullL_pos h)
  omega
theorem full_take_succ {l : List CellM} {k : Nat} (hk : k < l.length) : fullL (l.take (k + 1)) = if (l.getD k nilC).n = 0 then fullL (l.take k) else fullL (l.take k) ++ [l.getD k nilC] := by
  rw [List.take_succ_eq_append_getElem hk, fullL_snoc, List.getD_eq_getElem?_getD, List.getElem?_eq_getElem hk]
  rfl
theorem sumC_far' {l : List CellM} (h0 : l ≠ []) (h1 : l.all (argB (l.headD nilC).s.length) = true) {k : Nat} (h3 : CNT < cntL (fullL (l.take k))) : sumC l = (nilC, 14) := by
  have ha := argsP_of h1
  have hle := cnt_take_le ha k
  refine sumC_many h0 h1 (fun e => ?_) (by omega)
  rw [e] at hle
  simp only [cntL, List.map_nil, List.sum_nil] at hle
  unfold cntL CNT at h3
  omega
theorem sumC_top {l : List CellM} (h0 : l ≠ []) (h1 : l.all (argB (l.headD nilC).s.length) = true) (h3 : cntL (fullL l) ≤ CNT) (h4 : ∀ i, i < (l.headD nilC).s.length → inB (sCol l i).sum SUM = true) : sumC l = (topC (l.headD nilC).s.length l, 0) := by
  by_cases h2 : fullL l = []
  · rw [sumC_empty h0 h1 h2, topC_none h2]
  · rw [sumC_yes h0 h1 h2 h3 (fun i hi => by rw [← sCol_full (argsP_of h1)]; exact h4 i hi), topC_full h2]
theorem sumC_off {l : List CellM} (h0 : l ≠ []) (h1 : l.all (argB (l.headD nilC).s.length) = true) {i : Nat} (hi : i < (l.headD nilC).s.length) (h3 : inB (sCol l i).sum SUM = false) : sumC l = (nilC, 14) := by
  rw [sCol_full (argsP_of h1)] at h3
  refine sumC_far h0 h1 (fun e => ?_) hi h3
  rw [e] at h3
  simp [sCol, inB, SUM] at h3
theorem sCol_len (l : List CellM) (i : Nat) : (sCol l i).length = l.length := by simp [sCol]
theorem sCol_take_succ {l : List CellM} {i j : Nat} (hj : j < l.length) : (sCol l i).take (j + 1) = (sCol l i).take j ++ [(l.getD j nilC).s.getD i 0] := by
  rw [List.take_succ_eq_append_getElem (by rw [sCol_len]; exact hj)]
  congr 2
  simp [sCol, List.getD_eq_getElem?_getD, List.getElem?_eq_getElem hj]
/-- Values of a column are in bounds. -/
theorem sCol_bnd {m : Nat} {l : List CellM} (h : ArgsP m l) {i : Nat} (hi : i < m) : ∀ x ∈ sCol l i, -SUM ≤ x ∧ x ≤ SUM := by
  intro x hx
  unfold sCol at hx
  obtain ⟨c, hc, rfl⟩ := List.mem_map.1 hx
  have hm := h.may c hc
  by_cases h0 : c.n = 0
  · have e := may_zero hm h0
    have : c.s.getD i 0 = 0 := by
      rw [e]; unfold emptyC
      simp only [List.getD_eq_getElem?_getD, List.getElem?_replicate]
      split <;> rfl
    rw [this]; unfold SUM; omega
  · exact ((may_full hm h0).2 i (by rw [h.len c hc]; exact hi)).2.2.2.1
end Go.Proofs.Ytclhnnidbhchnaa
