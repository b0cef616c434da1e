/- Arguments opened: lists of texts and of numbers, schemas. -/
import Derived.Test.YtompjcadhodapaaDoorQMath
import Derived.Test.YtompjcadhodapaaDoorQAt
namespace Go.Proofs.YtompjcadhodapaaDoor
open Go.ChangeShapes Go.WideShapes Go.ChangeAt Go.RowKit Go.Deep
set_option linter.unusedVariables false
set_option linter.unusedSimpArgs false

theorem opens_strsQ : Opens Tryd.prog 41 1 rdStrs := opens_slice (e := 9) good_str Tryd.underlying41 (opens_str Tryd.underlying9 (by kernel_rfl)) (by kernel_rfl) (by omega)
theorem opens_intsQ : Opens Tryd.prog 52 1 rdInts := opens_slice (e := 3) good_int Tryd.underlying52 (opens_int Tryd.underlying3 (by kernel_rfl)) (by kernel_rfl) (by omega)
theorem opens_pathsQ : Opens Tryd.prog 51 1 (rdSlice 1 rdStrs) := opens_slice (e := 41) good_strs Tryd.underlying51 opens_strsQ (by kernel_rfl) (by omega)
theorem opens_rowsQ : Opens Tryd.prog 62 1 (rdSlice 1 rdInts) := opens_slice (e := 52) good_ints Tryd.underlying62 opens_intsQ (by kernel_rfl) (by omega)
theorem opens_dim : Opens Tryd.prog 60 2 rdDim := by
  refine opens_struct (k := 2) Tryd.underlying60 (by kernel_rfl) ?_
  exact opensF_cons (k2 := 1) (by rfl) (opens_str Tryd.underlying9 (by kernel_rfl)) (opensF_one (by rfl) opens_strsQ)
theorem opens_dims : Opens Tryd.prog 61 1 (rdSlice 2 rdDim) := opens_slice (e := 60) good_dim Tryd.underlying61 opens_dim (by kernel_rfl) (by omega)
theorem opens_schema : Opens Tryd.prog 64 3 rdSchema := by
  refine opens_struct (k := 3) Tryd.underlying64 (by kernel_rfl) ?_
  exact opensF_cons (k2 := 2) (by rfl) opens_dims (opensF_cons (k2 := 1) (by rfl) opens_strsQ (opensF_one (by rfl) opens_rowsQ))
theorem strs_sz {w : World} {B : Nat} {cs : List Value} {p : List ByteArray} (h : rdStrs w B cs p) : ∀ s ∈ p, s.size ≤ maxLen := by
  intro s hs
  obtain ⟨i, hi, rfl⟩ := List.mem_iff_getElem.1 hs
  obtain ⟨A, c, e, -, -⟩ := h.open_
  rw [e] at h
  exact (strs_at h hi).elim fun b h => h.elim fun off h => h.2.2.2
theorem paths_sz {w : World} {B : Nat} {cs : List Value} {l : List (List ByteArray)} (h : rdSlice 1 rdStrs w B cs l) : ∀ p ∈ l, ∀ s ∈ p, s.size ≤ maxLen := by
  intro p hp
  obtain ⟨i, hi, rfl⟩ := List.mem_iff_getElem.1 hp
  obtain ⟨A, c, e, -, -⟩ := h.open_
  rw [e] at h
  obtain ⟨b, off, AM, cM, -, -, -, h3⟩ := paths_at h hi
  exact strs_sz h3
end Go.Proofs.YtompjcadhodapaaDoor
