/- 1 text of this claim, in build order. -/
import Derived.Test.YtgoapnkdcfcjgaaGreatPphmkfcmh
/- The reference's Merge. -/
namespace Go.Proofs.YtgoapnkdcfcjgaaGreat
open Go.ChangeShapes Go.WideShapes Go.ChangeAt Go.RowKit
set_option linter.unusedVariables false

theorem merge_ways (a b : CellM) : (mergeC a b = (nilC, 1) ∧ (mayC a = false ∨ (mayC a = true ∧ mayC b = false) ∨ (mayC a = true ∧ mayC b = true ∧ ((a.s.length : Int) != (b.s.length : Int)) = true))) ∨
    (mayC a = true ∧ mayC b = true ∧ ((a.s.length : Int) != (b.s.length : Int)) = false ∧ a.s.length = b.s.length ∧ ((mergeC a b = (b, 0) ∧ (a.n == 0) = true) ∨ (mergeC a b = (a, 0) ∧ (a.n == 0) = false ∧ (b.n == 0) = true) ∨
      ((a.n == 0) = false ∧ (b.n == 0) = false ∧ mergeC a b = (if mayC (sumOf a b) then (sumOf a b, 0) else (nilC, 14))))) := by
  unfold mergeC
  cases h1 : mayC a
  · exact .inl ⟨by simp, .inl rfl⟩
  cases h2 : mayC b
  · exact .inl ⟨by simp, .inr (.inl ⟨rfl, rfl⟩)⟩
  by_cases h3 : a.s.length = b.s.length
  · refine .inr ⟨rfl, rfl, by simp [h3], h3, ?_⟩
    rw [if_neg (by simp [h3])]
    by_cases h4 : a.n = 0
    · exact .inl ⟨by rw [if_pos h4], by simpa using h4⟩
    · rw [if_neg h4]
      by_cases h5 : b.n = 0
      · exact .inr (.inl ⟨by rw [if_pos h5], by simpa using h4, by simpa using h5⟩)
      · exact .inr (.inr ⟨by simpa using h4, by simpa using h5, by rw [if_neg h5]⟩)
  · exact .inl ⟨by simp [h3], .inr (.inr ⟨rfl, rfl, by simp; omega⟩)⟩
structure Fulls (a b : CellM) : Prop where
  l1 : a.s.length ≤ 2
  l2 : b.s.length = a.s.length
  a2 : a.lo.length = a.s.length
  a3 : a.hi.length = a.s.length
  b2 : b.lo.length = a.s.length
  b3 : b.hi.length = a.s.length
  an : 1 ≤ a.n ∧ a.n ≤ 1099511627776
  bn : 1 ≤ b.n ∧ b.n ≤ 1099511627776
  av : ∀ i, i < a.s.length → -SUM ≤ a.s.getD i 0 ∧ a.s.getD i 0 ≤ SUM
  bv : ∀ i, i < a.s.length → -SUM ≤ b.s.getD i 0 ∧ b.s.getD i 0 ≤ SUM
  no : (∃ i, i < a.s.length ∧ okSum (a.s.getD i 0 + b.s.getD i 0) = false) → mayC (sumOf a b) = false
  big : 1099511627776 < a.n + b.n → mayC (sumOf a b) = false
  yes : (∀ i, i < a.s.length → okSum (a.s.getD i 0 + b.s.getD i 0) = true) → a.n + b.n ≤ 1099511627776 → mayC (sumOf a b) = true
theorem fulls_of {a b : CellM} (ha : mayC a = true) (hb : mayC b = true) (hl : a.s.length = b.s.length) (ha0 : (a.n == 0) = false) (hb0 : (b.n == 0) = false) : Fulls a b := by
  have ha' := mayC_iff.1 ha
  have hb' := mayC_iff.1 hb
  have ha0' : a.n ≠ 0 := by simpa using ha0
  have hb0' : b.n ≠ 0 := by simpa using hb0
  have hs := may_sumOf ha' hb' hl ha0' hb0'
  obtain ⟨fa, ca⟩ := may_full ha' ha0'
  obtain ⟨fb, cb⟩ := may_full hb' hb0'
  obtain ⟨⟨sa1, sa2, sa3⟩, -⟩ := ha'
  obtain ⟨⟨sb1, sb2, sb3⟩, -⟩ := hb'
  refine ⟨sa1, hl.symm, sa2, sa3, by omega, by omega, fa, fb, fun i hi => (ca i hi).2.2.2.1, fun i hi => (cb i (by omega)).2.2.2.1, ?_, fun h => ?_, fun h1 h2 => ?_⟩
  · rintro ⟨i, hi, h⟩
    rw [mayC_not, hs]
    intro h'
    rw [okSum_iff.2 (h'.2 i hi)] at h; cases h
  · rw [mayC_not, hs]
    intro h'
    unfold CNT at h'; omega
  · rw [mayC_iff, hs]
    exact ⟨h2, fun i hi => okSum_iff.1 (h1 i hi)⟩
theorem fin4 {w w2 : World} {b B : Nat} (h : Below B w w2) (hb : B ≤ b) (hlt : b < w2.heap.size) (v0 v1 v2 v3 : Value) : Below B w ((((w2.setCell ⟨b, 0, none⟩ v0).setCell ⟨b, 1, none⟩ v1).setCell ⟨b, 2, none⟩ v2).setCell ⟨b, 3, none⟩ v3) :=
  h.trans ((upd4 b w2 v0 v1 v2 v3).below hb hlt)
end Go.Proofs.YtgoapnkdcfcjgaaGreat
