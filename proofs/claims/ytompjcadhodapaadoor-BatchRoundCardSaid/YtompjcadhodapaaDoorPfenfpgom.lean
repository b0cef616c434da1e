/- 1 text of this claim, in build order. -/
import Derived.Test.YtompjcadhodapaaDoorPloiplkkg
import Derived.Test.YtompjcadhodapaaDoorPabdadkad
import Derived.Test.YtompjcadhodapaaDoorPbbmkadpj
/- What the laws of facts use: arguments opened, few facts, what can be put. -/
namespace Go.Proofs.YtompjcadhodapaaDoor
open Go.ChangeShapes Go.WideShapes Go.ChangeAt Go.RowKit Go.Deep
set_option linter.unusedVariables false
set_option linter.unusedSimpArgs false

theorem opens_fact : Opens Tryd.prog 54 2 rdFact := by
  refine opens_struct (k := 2) Tryd.underlying54 (by kernel_rfl) ?_
  exact opensF_cons (k2 := 1) (by rfl) opens_pathsQ (opensF_one (by rfl) opens_intsQ)
theorem opens_facts : Opens Tryd.prog 22 1 (rdSlice 2 rdFact) := opens_slice (e := 54) good_fact Tryd.underlying22 opens_fact (by kernel_rfl) (by omega)
theorem putE_zero {l : List FactX} (h : putE l = 0) : l.length ≤ 8 ∧ ∀ f ∈ l, plainFt f = true := by
  unfold putE at h
  split at h
  · cases h
  · split at h
    · rename_i h1 h2
      exact ⟨by omega, fun f hf => List.all_eq_true.1 h2 f hf⟩
    · cases h
theorem fewFs_small (l : List FactX) : (fewFs l).length ≤ 10 ∧ ∀ f ∈ fewFs l, f.1.length ≤ 5 ∧ f.2.length ≤ 5 := by
  refine ⟨by simp [fewFs]; omega, fun f hf => ?_⟩
  unfold fewFs at hf
  obtain ⟨g, -, rfl⟩ := List.mem_map.1 hf
  unfold fewFt
  simp only [List.length_map, List.length_take]
  omega
end Go.Proofs.YtompjcadhodapaaDoor
