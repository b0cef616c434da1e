/- 1 text of this claim, in build order. -/
import Derived.Test.YtkdpclllenbgfaaDoorPjaeljiic
import Derived.Test.YtkdpclllenbgfaaDoorPgmmddofc
/- Literals read: lists of texts, of numbers, of lists. -/
namespace Go.Proofs.YtkdpclllenbgfaaDoor
open Go.ChangeShapes Go.WideShapes Go.ChangeAt Go.RowKit
set_option linter.unusedVariables false
set_option linter.unusedSimpArgs false

theorem bytes8_at (w : World) (N : Nat) (l : List UInt8) (n : Nat) (hn : l.length = n) (hn' : n ≤ 1000) (hN : w.heap.size = N) : Sl (w.alloc (.cells (bvals l).toArray 5)) (w.alloc (.cells (bvals l).toArray 5)).heap.size (.slice (some ⟨N, 0, none⟩) n n) (bvals l) := by
  subst hN
  refine ⟨_, n, by rw [bvals_len, hn], by rw [bvals_len, hn]; exact Nat.le_refl _, by unfold maxLen; omega, fun _ => ⟨w.heap.size, 0, rfl, by simp, fun j u hu => ?_⟩⟩
  rw [World.cell?_alloc_at _ _ _ _ rfl]
  simp only [Nat.zero_add, List.getElem?_toArray]
  exact hu
end Go.Proofs.YtkdpclllenbgfaaDoor
