/- 1 text of this claim, in build order. -/
import Derived.Test.YtgoapnkdcfcjgaaGreatPoigjcanf
/- A cell of the call's own is stored in the cuboid's map. -/
namespace Go.Proofs.YtgoapnkdcfcjgaaGreat
open Go.ChangeShapes Go.WideShapes Go.ChangeAt Go.RowKit Go.Maps
set_option linter.unusedVariables false
set_option linter.unusedSimpArgs false

theorem CubW.store {w W' : World} {D : Nat → Prop} {p m W M H : Nat} {L : List KC} {k : List Int} {v : Value} {c : CellM} (h : CubW w D p m W M L) (hs : OkL W M L) (hW : W ≤ 3) (hL : L.length ≤ 70000) (hk : okK W k) (hb : Below w.heap.size w W') (ho : OwnC W' H v c) (hH : w.heap.size ≤ H) :
    ∃ w6, (Instr.mapUpdate 102 (.map (some m)) (keyT k) v).run Tryz.prog W' = .ok () w6 ∧ CubW w6 (fun i => D i ∨ (w.heap.size ≤ i ∧ i < W'.heap.size)) p m W M (setK k c L) ∧ Grow w D (fun i => D i ∨ (w.heap.size ≤ i ∧ i < W'.heap.size)) ∧ Upd m w w6 ∧ Upd m W' w6 := by
  obtain ⟨a1, a2, a3, a4, a5, a6, a7, a8⟩ := h.below hb
  have h4 := h.2.2.2.1
  have hsz := hb.size
  have hml := h4 m a2
  have hpl := h4 p a1
  have hmk := a8.mono (E' := fun i => (D i ∨ (w.heap.size ≤ i ∧ i < W'.heap.size)) ∧ i ≠ m) (fun i hi => ⟨.inl hi.1, hi.2⟩)
  have hce := (CellE.of_own ho).mono (E' := fun i => (D i ∨ (w.heap.size ≤ i ∧ i < W'.heap.size)) ∧ i ≠ m) (fun i hi => ⟨.inr ⟨by omega, hi.2⟩, by omega⟩)
  obtain ⟨w6, hrun, hm6, hu, hz, hf⟩ := hmk.store (fun x hx => hs.key x hx) hs.sort hW (by omega) (fun e => e.2 rfl) hk hce
  refine ⟨w6, hrun, ⟨.inl a1, .inl a2, a3, fun i hi => ?_, hu.cellAt (by omega) a3 a5, hu.cellAt (by omega) a3 a6, hu.cellAt (by omega) a3 a7, hm6⟩, ⟨fun i hi => .inl hi, fun i hi => hi.imp id (fun h => h.1)⟩, ((Upd.refl m w).new hb).trans hu, hu⟩
  rw [hz]
  rcases hi with hi | hi
  · have := h4 i hi; omega
  · exact hi.2
end Go.Proofs.YtgoapnkdcfcjgaaGreat
