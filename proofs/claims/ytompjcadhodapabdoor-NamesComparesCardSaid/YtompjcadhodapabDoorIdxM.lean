/- The words of a search with a function value. -/
import Derived.Test.YtompjcadhodapabDoorReads
import Derived.Test.YtompjcadhodapabDoorMore
namespace Go.Proofs.YtompjcadhodapabDoor
open Go.ChangeShapes Go.WideShapes Go.ChangeAt Go.RowKit
set_option linter.unusedVariables false
set_option linter.unusedSimpArgs false

def IdxRelG {α : Type} (p : α → Bool) (l : List α) (w : World) (i : Value) (wr : World) : Prop := ∃ k : Nat, k ≤ l.length ∧ i = .int .i64 k ∧ (l.take k).any p = false ∧ Below w.heap.size w wr
def IdxG {α : Type} (p : α → Bool) (l : List α) (w : World) (e : Ending) (w' : World) : Prop := ∃ i : Int, e = .returned (.int .i64 i) ∧ decide (0 ≤ i) = l.any p ∧ Below w.heap.size w w'
theorem any_take_succ {α : Type} {p : α → Bool} {l : List α} {k : Nat} (hk : k < l.length) : (l.take (k + 1)).any p = ((l.take k).any p || p l[k]) := by
  rw [List.take_succ_eq_append_getElem hk, List.any_append]; simp
theorem any_of_at {α : Type} {p : α → Bool} {l : List α} {k : Nat} (hk : k < l.length) (h : p l[k] = true) : l.any p = true := List.any_eq_true.2 ⟨_, List.getElem_mem hk, h⟩
/-- A function of the program is entered. -/
def Enters (F : FuncId) : Prop := ∀ args W, Sem.run Tryd.prog (callFunc F args) W = .ok (.enter F args) W
/-- What a function value tells of elements that read by R. -/
def Tells {α : Type} (R : Rd α) (F : FuncId) (caps : Array Value) (p : α → Bool) (l : List α) (w : World) : Prop :=
  ∀ x u W, x ∈ l → R W W.heap.size [u] x → Below w.heap.size w W → Calls Tryd.prog F (#[u] ++ caps) W (Gives (.bool (p x)) W)
end Go.Proofs.YtompjcadhodapabDoor
