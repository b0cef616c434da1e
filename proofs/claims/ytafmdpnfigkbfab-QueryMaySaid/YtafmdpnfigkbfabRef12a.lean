/- The reference's May of queries: plain words. -/
import Derived.Test.YtafmdpnfigkbfabRef8d
import Derived.Test.YtafmdpnfigkbfabQry4
namespace Go.Proofs.Ytafmdpnfigkbfab
set_option linter.unusedVariables false

def refF (s : SchemaX) (f : FilterX) : Bool :=
  (decide (0 ≤ f.1) && decide (f.1 < (s.1.length : Int)) && decide (1 ≤ f.2.1) && decide (f.2.1 ≤ levelsAt s f.1) && decide (1 ≤ f.2.2.length) && decide (f.2.2.length ≤ 6)) && f.2.2.all (fun m => mayB m && decide ((m.length : Int) = f.2.1))
theorem mayS_dims3 {s : SchemaX} (h : mayS s = true) : s.1.length ≤ 3 ∧ ∀ d ∈ s.1, d.2.length ≤ 3 := by
  unfold mayS at h
  rw [Bool.and_eq_true, Bool.and_eq_true, Bool.and_eq_true, Bool.and_eq_true] at h
  obtain ⟨⟨h1, ⟨h2, -⟩, -⟩, -⟩ := h
  constructor
  · unfold namedB at h2
    rw [Bool.and_eq_true, Bool.and_eq_true, Bool.and_eq_true] at h2
    have := of_decide_eq_true h2.1.1.2
    simpa using this
  · intro d hd
    have := List.all_eq_true.1 h1 d hd
    unfold namedB at this
    rw [Bool.and_eq_true, Bool.and_eq_true, Bool.and_eq_true] at this
    exact of_decide_eq_true this.1.1.2
theorem levels3 {s : SchemaX} (h : mayS s = true) (d : Int) : levelsAt s d ≤ 3 := by
  unfold levelsAt
  by_cases hd : d.toNat < s.1.length
  · rw [List.getD_eq_getElem?_getD, List.getElem?_eq_getElem hd]
    have := (mayS_dims3 h).2 _ (List.getElem_mem hd)
    simp; omega
  · rw [List.getD_eq_getElem?_getD, List.getElem?_eq_none (by omega)]
    simp
theorem base3 {s : SchemaX} (h : mayS s = true) (j : Nat) : (baseX s).getD j 0 ≤ 3 := by
  by_cases hd : j < s.1.length
  · rw [base_at hd]
    have := (mayS_dims3 h).2 _ (List.getElem_mem hd)
    omega
  · rw [List.getD_eq_getElem?_getD, List.getElem?_eq_none (by simp [baseX]; omega)]
    simp
theorem group3 {s : SchemaX} {l : List Int} (h : mayS s = true) (hc : cornerB s l = true) : l.length ≤ 3 ∧ (l.any fun n => !inQ n 3) = false := by
  obtain ⟨h1, h2⟩ := corner_iff.1 hc
  refine ⟨by have := (mayS_dims3 h).1; omega, ?_⟩
  rw [List.any_eq_false]
  intro x hx
  obtain ⟨j, hj, rfl⟩ := List.mem_iff_getElem.1 hx
  have := h2 j hj
  have hb := base3 h j
  rw [List.getD_eq_getElem?_getD, List.getElem?_eq_getElem hj] at this
  simp only [Option.getD_some] at this
  unfold inQ
  simp
  omega
theorem filter_iff {s : SchemaX} (h : mayS s = true) (f : FilterX) : (plainF f && okF s f) = refF s f := by
  obtain ⟨d, lv, ms⟩ := f
  have h3 := (mayS_dims3 h).1
  have hl := levels3 h d
  unfold plainF okF refF inQ
  simp only
  generalize levelsAt s d = L at *
  have hall : (ms.all fun m => mayB m && decide ((m.length : Int) = lv)) = (!(ms.any fun p => !mayB p) && !(ms.any fun p => decide ((p.length : Int) ≠ lv))) := by
    induction ms with
    | nil => rfl
    | cons m ms ih =>
      simp only [List.all_cons, List.any_cons, ih]
      cases mayB m <;> by_cases e : (m.length : Int) = lv <;> simp [e]
  rw [hall]
  generalize (ms.any fun p => !mayB p) = b1
  generalize (ms.any fun p => decide ((p.length : Int) ≠ lv)) = b2
  have hne : decide (ms ≠ []) = decide (1 ≤ ms.length) := by
    rw [decide_eq_decide]
    cases ms <;> simp
  rw [hne]
  generalize ms.length = n
  rw [Bool.eq_iff_iff]
  simp only [Bool.and_eq_true, decide_eq_true_eq]
  constructor
  · rintro ⟨⟨⟨⟨⟨a1, a2⟩, a3, a4⟩, a5⟩, a6⟩, ⟨⟨⟨a7, a8⟩, a9⟩, a10⟩, a11⟩
    exact ⟨⟨⟨⟨⟨⟨a1, a7⟩, a8⟩, a9⟩, a10⟩, a5⟩, a6, a11⟩
  · rintro ⟨⟨⟨⟨⟨⟨a1, a7⟩, a8⟩, a9⟩, a10⟩, a5⟩, a6, a11⟩
    exact ⟨⟨⟨⟨⟨a1, by omega⟩, by omega, by omega⟩, a5⟩, a6⟩, ⟨⟨⟨a7, a8⟩, a9⟩, a10⟩, a11⟩
theorem mayQ_ref {s : SchemaX} (h : mayS s = true) (q : QueryX) : mayQ s q = if (cornerB s q.1 && decide (q.2.length ≤ 3)) && q.2.all (refF s) then 0 else 16 := by
  have hf : q.2.all (refF s) = (q.2.all plainF && q.2.all (okF s)) := by
    generalize q.2 = l
    induction l with
    | nil => rfl
    | cons f l ih =>
      simp only [List.all_cons, ih, ← filter_iff h f]
      cases plainF f <;> cases okF s f <;> simp
  rw [hf]
  unfold mayQ
  rw [h]
  cases hc : cornerB s q.1
  · simp
  · obtain ⟨g1, g2⟩ := group3 h hc
    have hp : plainQ q = (decide (q.2.length ≤ 3) && q.2.all plainF) := by
      unfold plainQ; rw [g2, decide_eq_true g1]; simp
    rw [hp]
    cases decide (q.2.length ≤ 3) <;> cases q.2.all plainF <;> cases q.2.all (okF s) <;> rfl
end Go.Proofs.Ytafmdpnfigkbfab
