/- The schema that a law keeps in a block of its own, cut small. -/
import Derived.Test.YtompjcadhodapaaBSmall
namespace Go.Proofs.Ytompjcadhodapaa
open Go.ChangeShapes Go.WideShapes Go.ChangeAt Go.RowKit
set_option linter.unusedVariables false
set_option linter.unusedSimpArgs false

/-- Block w.heap.size holds the schema. -/
def BoxS (w W : World) (s : SchemaX) (C1 C2 C3 : Value) : Prop :=
  w.heap.size < W.heap.size ∧ Below w.heap.size w W ∧ W.cell? ⟨w.heap.size, 0, none⟩ = some C1 ∧ W.cell? ⟨w.heap.size, 1, none⟩ = some C2 ∧ W.cell? ⟨w.heap.size, 2, none⟩ = some C3 ∧ SchemaV W W.heap.size (.agg #[C1, C2, C3]) s
theorem BoxS.on {w W W' : World} {s : SchemaX} {C1 C2 C3 : Value} (h : BoxS w W s C1 C2 C3) (hb : Below W.heap.size W W') : BoxS w W' s C1 C2 C3 := by
  obtain ⟨a, b, c, d, e, f⟩ := h
  exact ⟨Nat.lt_of_lt_of_le a hb.size, b.trans (hb.mono (by omega)), cellK hb a c, cellK hb a d, cellK hb a e, f.on hb⟩
/-- Behind the stores of what small gives. -/
theorem BoxS.start {w w1 : World} {s : SchemaX} {A1 A2 A3 B1 B2 B3 : Option Addr} {n1 n2 n3 c1 c2 c3 b1 b2 b3 : Nat}
    (hb1 : Below (w.heap.size + 1) (w.alloc (.cells #[.slice A1 n1 c1, .slice A2 n2 c2, .slice A3 n3 c3] 26)) w1)
    (hv : SchemaV w1 w.heap.size (.agg #[.slice B1 s.1.length b1, .slice B2 s.2.1.length b2, .slice B3 s.2.2.length b3]) s) :
    BoxS w (((w1.setCell ⟨w.heap.size, 0, none⟩ (.slice B1 s.1.length b1)).setCell ⟨w.heap.size, 1, none⟩ (.slice B2 s.2.1.length b2)).setCell ⟨w.heap.size, 2, none⟩ (.slice B3 s.2.2.length b3)) s (.slice B1 s.1.length b1) (.slice B2 s.2.1.length b2) (.slice B3 s.2.2.length b3) := by
  have z1 := hb1.size
  rw [World.size_alloc] at z1
  have k0 := cellK (o := 0) (b := w.heap.size) hb1 (by omega) (v := .slice A1 n1 c1) (by simp [go_sem])
  have k1 := cellK (o := 1) (b := w.heap.size) hb1 (by omega) (v := .slice A2 n2 c2) (by simp [go_sem])
  have k2 := cellK (o := 2) (b := w.heap.size) hb1 (by omega) (v := .slice A3 n3 c3) (by simp [go_sem])
  have bb : Below w.heap.size w1 (((w1.setCell ⟨w.heap.size, 0, none⟩ (.slice B1 s.1.length b1)).setCell ⟨w.heap.size, 1, none⟩ (.slice B2 s.2.1.length b2)).setCell ⟨w.heap.size, 2, none⟩ (.slice B3 s.2.2.length b3)) :=
    Below.setCell (Below.setCell (Below.setCell (Below.refl _ w1) (show w.heap.size ≤ w.heap.size from Nat.le_refl _) _) (show w.heap.size ≤ w.heap.size from Nat.le_refl _) _) (show w.heap.size ≤ w.heap.size from Nat.le_refl _) _
  have hs : w1.heap.size = (((w1.setCell ⟨w.heap.size, 0, none⟩ (.slice B1 s.1.length b1)).setCell ⟨w.heap.size, 1, none⟩ (.slice B2 s.2.1.length b2)).setCell ⟨w.heap.size, 2, none⟩ (.slice B3 s.2.2.length b3)).heap.size := by simp [World.setCell]
  have hw1 : Below w.heap.size w w1 := (bl1 w _).trans (hb1.mono (by omega))
  refine ⟨by omega, hw1.trans bb, ?_, ?_, ?_, (hv.below bb).more (by omega)⟩
  · exact cell_beside (by omega) (cell_beside (by omega) (cell_here k0))
  · exact cell_beside (by omega) (cell_here (cell_beside (by omega) k1))
  · exact cell_here (cell_beside (by omega) (cell_beside (by omega) k2))
end Go.Proofs.Ytompjcadhodapaa
