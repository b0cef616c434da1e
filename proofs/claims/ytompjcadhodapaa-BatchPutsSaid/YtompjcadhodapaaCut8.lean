/- The first bytes of a slice that was handed in. -/
import Derived.Test.YtompjcadhodapaaPut8
import Derived.Test.YtompjcadhodapaaWireSame
namespace Go.Proofs.Ytompjcadhodapaa
open Go.ChangeShapes Go.WideShapes Go.ChangeAt Go.RowKit
set_option linter.unusedVariables false
set_option linter.unusedSimpArgs false

theorem cut8 {w : World} {B : Nat} {A : Option Addr} {c m : Nat} {l : List UInt8} (h : Sl w B (.slice A l.length c) (bvals l)) :
    ∃ n : Nat, Sl w B (.slice A n c) (bvals (l.take m)) ∧ n = (l.take m).length ∧ n ≤ c ∧ (((m : Int) < (l.length : Int) ∧ m ≤ l.length ∧ n = m) ∨ (¬ (m : Int) < (l.length : Int) ∧ n = l.length)) := by
  have h' := h
  obtain ⟨A', c', e, h1, h2, h3⟩ := h'
  simp only [Value.slice.injEq] at e
  obtain ⟨rfl, e2, rfl⟩ := e
  rw [bvals_len] at h1
  by_cases hm : m < l.length
  · refine ⟨m, ?_, by rw [List.length_take]; omega, by omega, .inl ⟨by omega, by omega, rfl⟩⟩
    refine ⟨A, c, ?_, ?_, h2, fun h0 => ?_⟩
    · rw [bvals_len, List.length_take, Nat.min_eq_left (by omega)]
    · rw [bvals_len, List.length_take]; omega
    · rw [bvals_len, List.length_take] at h0
      obtain ⟨b, off, e, hb, hc⟩ := h3 (by rw [bvals_len]; omega)
      refine ⟨b, off, e, hb, fun j u hu => hc j u ?_⟩
      rw [bvals_take, List.getElem?_take] at hu
      split at hu
      · exact hu
      · exact absurd hu (by simp)
  · exact ⟨l.length, by rw [List.take_of_length_le (by omega)]; exact h, by rw [List.length_take]; omega, h1, .inr ⟨by omega, rfl⟩⟩
theorem sl_nil8 (w : World) : Sl w w.heap.size (.slice none 0 0) (bvals []) := Sl.nil_
end Go.Proofs.Ytompjcadhodapaa
