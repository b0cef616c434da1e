/- Arguments opened: lists of texts and of numbers, schemas. -/
import Derived.Test.YtompjcadhodapaaQMath
import Derived.Test.YtompjcadhodapaaQAt
namespace Go.Proofs.Ytompjcadhodapaa
open Go.ChangeShapes Go.WideShapes Go.ChangeAt Go.RowKit Go.Deep
set_option linter.unusedVariables false
set_option linter.unusedSimpArgs false

theorem opens_strsQ : Opens Try.prog 23 1 rdStrs := opens_slice (e := 9) good_str Try.underlying23 (opens_str Try.underlying9 (by kernel_rfl)) (by kernel_rfl) (by omega)
theorem opens_intsQ : Opens Try.prog 32 1 rdInts := opens_slice (e := 3) good_int Try.underlying32 (opens_int Try.underlying3 (by kernel_rfl)) (by kernel_rfl) (by omega)
theorem opens_pathsQ : Opens Try.prog 33 1 (rdSlice 1 rdStrs) := opens_slice (e := 23) good_strs Try.underlying33 opens_strsQ (by kernel_rfl) (by omega)
theorem opens_rowsQ : Opens Try.prog 24 1 (rdSlice 1 rdInts) := opens_slice (e := 32) good_ints Try.underlying24 opens_intsQ (by kernel_rfl) (by omega)
theorem opens_dim : Opens Try.prog 53 2 rdDim := by
  refine opens_struct (k := 2) Try.underlying53 (by kernel_rfl) ?_
  exact opensF_cons (k2 := 1) (by rfl) (opens_str Try.underlying9 (by kernel_rfl)) (opensF_one (by rfl) opens_strsQ)
theorem opens_dims : Opens Try.prog 22 1 (rdSlice 2 rdDim) := opens_slice (e := 53) good_dim Try.underlying22 opens_dim (by kernel_rfl) (by omega)
theorem opens_schema : Opens Try.prog 26 3 rdSchema := by
  refine opens_struct (k := 3) Try.underlying26 (by kernel_rfl) ?_
  exact opensF_cons (k2 := 2) (by rfl) opens_dims (opensF_cons (k2 := 1) (by rfl) opens_strsQ (opensF_one (by rfl) opens_rowsQ))
theorem strs_sz {w : World} {B : Nat} {cs : List Value} {p : List ByteArray} (h : rdStrs w B cs p) : ∀ s ∈ p, s.size ≤ maxLen := by
  intro s hs
  obtain ⟨i, hi, rfl⟩ := List.mem_iff_getElem.1 hs
  obtain ⟨A, c, e, -, -⟩ := h.open_
  rw [e] at h
  exact (strs_at h hi).elim fun b h => h.elim fun off h => h.2.2.2
theorem paths_sz {w : World} {B : Nat} {cs : List Value} {l : List (List ByteArray)} (h : rdSlice 1 rdStrs w B cs l) : ∀ p ∈ l, ∀ s ∈ p, s.size ≤ maxLen := by
  intro p hp
  obtain ⟨i, hi, rfl⟩ := List.mem_iff_getElem.1 hp
  obtain ⟨A, c, e, -, -⟩ := h.open_
  rw [e] at h
  obtain ⟨b, off, AM, cM, -, -, -, h3⟩ := paths_at h hi
  exact strs_sz h3
end Go.Proofs.Ytompjcadhodapaa
