/- Slices of ints that read as lists (seats without cells). -/
import Derived.Test.YtkgifbnkkmeoiaaMore
namespace Go.Proofs.Ytkgifbnkkmeoiaa
open Go.ChangeShapes Go.WideShapes Go.ChangeAt Go.RowKit
set_option linter.unusedVariables false

theorem Sl.formI {w : World} {B : Nat} {v : Value} {l : List Int} (h : Sl w B v (ivals l)) : ∃ A c, v = .slice A l.length c ∧ l.length ≤ c ∧ c ≤ maxLen := by
  obtain ⟨A, c, rfl, h1, h2, -⟩ := h
  rw [ivals_len] at h1 ⊢
  exact ⟨A, c, rfl, h1, h2⟩
theorem Sl.of_int {w : World} {B : Nat} {A : Option Addr} {l : List Int} {k : Nat} (h : 0 < (ivals l).length → ∃ b off, A = some ⟨b, off, none⟩ ∧ b < B ∧ ∀ j u, (ivals l)[j]? = some u → w.cell? ⟨b, off + j, none⟩ = some u) (hk : k < l.length) :
    ∃ b off, A = some ⟨b, off, none⟩ ∧ b < B ∧ w.cell? ⟨b, off + k, none⟩ = some (.int .i64 (l.getD k 0)) := by
  obtain ⟨b, off, e, hb, hc⟩ := h (by rw [ivals_len]; omega)
  exact ⟨b, off, e, hb, hc k _ (by simp [ivals, List.getElem?_eq_getElem hk])⟩
theorem Sl.int {w : World} {B n c : Nat} {A : Option Addr} {l : List Int} {k : Nat} (h : Sl w B (.slice A n c) (ivals l)) (hk : k < l.length) :
    ∃ b off, A = some ⟨b, off, none⟩ ∧ b < B ∧ w.cell? ⟨b, off + k, none⟩ = some (.int .i64 (l.getD k 0)) := by
  obtain ⟨A', c', e, h1, h2, h3⟩ := h
  injection e with e1 _ _
  subst e1
  exact Sl.of_int h3 hk
theorem take_succ_getD (l : List Int) (k : Nat) (hk : k < l.length) : l.take (k + 1) = l.take k ++ [l.getD k 0] := by
  rw [List.take_succ_eq_append_getElem hk, List.getD_eq_getElem?_getD, List.getElem?_eq_getElem hk]; rfl
theorem getD_ne {l r : List Int} {k : Nat} (h : l.getD k 0 ≠ r.getD k 0) : l ≠ r := fun e => h (by rw [e])
def EqRel (l r : List Int) (w : World) (i : Value) (wr : World) : Prop := ∃ k : Nat, k ≤ l.length ∧ i = .int .i64 k ∧ l.take k = r.take k ∧ Qu w wr
end Go.Proofs.Ytkgifbnkkmeoiaa
