/- Small facts on memory: what a call gives, new blocks, stores. -/
import Derived.Test.YtkgifbnkkmeoiaaBase
namespace Go.Proofs.Ytkgifbnkkmeoiaa
open Go.ChangeShapes Go.WideShapes Go.ChangeAt Go.RowKit
set_option linter.unusedVariables false

def Gives (v : Value) (w : World) (e : Ending) (w' : World) : Prop := e = .returned v ∧ Below w.heap.size w w'
theorem bl1 (w : World) (o : Obj) : Below w.heap.size w (w.alloc o) := (Below.refl _ _).alloc (Nat.le_refl _) o
theorem cell_alloc {w : World} {o : Obj} {b i : Nat} {v : Value} (hb : b < w.heap.size) (h : w.cell? ⟨b, i, none⟩ = some v) : (w.alloc o).cell? ⟨b, i, none⟩ = some v := by
  rw [World.cell?_alloc_past _ _ _ hb]; exact h
theorem frozen_alloc {w : World} {o : Obj} {b i : Nat} {v : Bool} (hb : b < w.heap.size) (h : w.frozen? ⟨b, i, none⟩ = v) : (w.alloc o).frozen? ⟨b, i, none⟩ = v := by
  rw [World.frozen?_alloc_past _ _ _ hb]; exact h
theorem cell_far {w : World} {B i b j : Nat} {u v : Value} (hne : B ≠ b) (h : w.cell? ⟨b, j, none⟩ = some v) : (w.setCell ⟨B, i, none⟩ u).cell? ⟨b, j, none⟩ = some v := by
  rw [World.cell?_setCell_other _ _ _ _ (fun e => hne (by injection e))]; exact h
theorem cell_here {w : World} {b j : Nat} {u v : Value} (h : w.cell? ⟨b, j, none⟩ = some v) : (w.setCell ⟨b, j, none⟩ u).cell? ⟨b, j, none⟩ = some u := World.cell?_setCell_same _ _ _ h
theorem cell_beside {w : World} {b i j : Nat} {u v : Value} (hne : i ≠ j) (h : w.cell? ⟨b, j, none⟩ = some v) : (w.setCell ⟨b, i, none⟩ u).cell? ⟨b, j, none⟩ = some v := by
  rw [World.cell?_setCell_other _ _ _ _ (fun e => hne (by injection e))]; exact h
theorem frozen_far {w : World} {B i b j : Nat} {u : Value} {v : Bool} (h : w.frozen? ⟨b, j, none⟩ = v) : (w.setCell ⟨B, i, none⟩ u).frozen? ⟨b, j, none⟩ = v := by
  rw [World.frozen?_setCell]; exact h
theorem lt_alloc {w : World} {o : Obj} {b : Nat} (hb : b < w.heap.size) : b < (w.alloc o).heap.size := by simp; omega
end Go.Proofs.Ytkgifbnkkmeoiaa
