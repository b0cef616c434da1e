/- 1 text of this claim, in build order. -/
import Derived.Test.YtkdpclllenbgfaaDoorPdbidkddc
import Derived.Test.YtkdpclllenbgfaaDoorPkgejacko
import Derived.Test.YtkdpclllenbgfaaDoorPmcmhifek
/- Boxes that are built while a reader moves. -/
namespace Go.Proofs.YtkdpclllenbgfaaDoor
open Go.ChangeShapes Go.WideShapes Go.ChangeAt Go.RowKit
set_option linter.unusedVariables false
set_option linter.unusedSimpArgs false

theorem MaxL.upd {w w' : World} {p : Nat} (h : MaxL w) (hu : Upd p w w') (hp : p ≠ 0) : MaxL w' := by
  obtain ⟨m, hm⟩ := h
  exact ⟨m, hu.cellAt (World.block_lt_of_cell? w _ hm) (fun e => hp e.symm) hm⟩
/-- A fact that is built in block N. -/
structure FBox (w wq : World) (p N : Nat) (pv vv : Value) : Prop where
  lt : N < wq.heap.size
  ge : w.heap.size ≤ N
  upd : Upd p w wq
  c0 : wq.cell? ⟨N, 0, none⟩ = some pv
  z0 : wq.frozen? ⟨N, 0, none⟩ = false
  c1 : wq.cell? ⟨N, 1, none⟩ = some vv
  z1 : wq.frozen? ⟨N, 1, none⟩ = false
theorem FBox.keep {w wq wr : World} {p N : Nat} {pv vv : Value} (h : FBox w wq p N pv vv) (hp : p < w.heap.size) (hs : wq.heap.size ≤ wr.heap.size) (k : ∀ g, g < N + 1 → g ≠ p → wr.heap[g]? = wq.heap[g]?) (ho : wr.os = wq.os ∧ wr.tape = wq.tape ∧ wr.output = wq.output) : FBox w wr p N pv vv := by
  have hb := k N (by omega) (by have := h.ge; omega)
  refine ⟨by have := h.lt; omega, h.ge, ⟨ho.1.trans h.upd.os, ho.2.1.trans h.upd.tape, ho.2.2.trans h.upd.output, Nat.le_trans h.upd.size hs, fun g hg hn => (k g (by have := h.ge; omega) (fun e => hn (by rw [e]))).trans (h.upd.block g hg hn)⟩, ?_, ?_, ?_, ?_⟩
  · exact (World.cell?_of_block (a := ⟨N, 0, none⟩) hb).trans h.c0
  · exact (World.frozen?_of_block (a := ⟨N, 0, none⟩) hb).trans h.z0
  · exact (World.cell?_of_block (a := ⟨N, 1, none⟩) hb).trans h.c1
  · exact (World.frozen?_of_block (a := ⟨N, 1, none⟩) hb).trans h.z1
theorem FBox.move {w wq wr : World} {p N : Nat} {pv vv : Value} (h : FBox w wq p N pv vv) (hp : p < w.heap.size) (hu : Upd p wq wr) : FBox w wr p N pv vv :=
  h.keep hp hu.size (fun g hg hn => hu.block g (by have := h.lt; omega) (fun e => hn (Option.some.inj e))) ⟨hu.os, hu.tape, hu.output⟩
theorem Upd.of_below {p : Nat} {w w' : World} (h : Below w.heap.size w w') : Upd p w w' := ⟨h.os, h.tape, h.output, h.size, fun k hk _ => h.block k hk⟩
theorem FBox.over {w wq wr : World} {p N : Nat} {pv vv : Value} (h : FBox w wq p N pv vv) (hp : p < w.heap.size) (hb : Below (N + 1) wq wr) : FBox w wr p N pv vv :=
  h.keep hp hb.size (fun g hg hn => hb.block g hg) ⟨hb.os, hb.tape, hb.output⟩
theorem FBox.set0 {w wq : World} {p N : Nat} {pv vv : Value} (h : FBox w wq p N pv vv) (u : Value) : FBox w (wq.setCell ⟨N, 0, none⟩ u) p N u vv :=
  ⟨by simpa [World.setCell] using h.lt, h.ge, ⟨h.upd.os, h.upd.tape, h.upd.output, by simpa [World.setCell] using h.upd.size, fun g hg hn => (Below.heap_setCell _ _ _ g (by have := h.ge; simp; omega)).trans (h.upd.block g hg hn)⟩, cell_here h.c0, frozen_far h.z0, cell_beside (by omega) h.c1, frozen_far h.z1⟩
theorem FBox.set1 {w wq : World} {p N : Nat} {pv vv : Value} (h : FBox w wq p N pv vv) (u : Value) : FBox w (wq.setCell ⟨N, 1, none⟩ u) p N pv u :=
  ⟨by simpa [World.setCell] using h.lt, h.ge, ⟨h.upd.os, h.upd.tape, h.upd.output, by simpa [World.setCell] using h.upd.size, fun g hg hn => (Below.heap_setCell _ _ _ g (by have := h.ge; simp; omega)).trans (h.upd.block g hg hn)⟩, cell_beside (by omega) h.c0, frozen_far h.z0, cell_here h.c1, frozen_far h.z1⟩
theorem FBox.far {w wq : World} {p N N' i : Nat} {pv vv : Value} (h : FBox w wq p N pv vv) (hp : p < w.heap.size) (hN : N < N') (u : Value) : FBox w (wq.setCell ⟨N', i, none⟩ u) p N pv vv :=
  h.keep hp (by simp [World.setCell]) (fun g hg _ => Below.heap_setCell _ _ _ g (by simp; omega)) ⟨rfl, rfl, rfl⟩
theorem RW.set {w : World} {B p a N i : Nat} {l : List UInt8} {e : Int} (h : RW w B p l a e) (hN : p < N) (u : Value) : RW (w.setCell ⟨N, i, none⟩ u) B p l a e :=
  h.keep (Below.setCell (Below.refl (p + 1) w) (show p + 1 ≤ N by omega) u)
theorem Upd.over {p B : Nat} {a b c : World} (h : Upd p a b) (k : Below B b c) (hB : a.heap.size ≤ B) : Upd p a c :=
  ⟨k.os.trans h.os, k.tape.trans h.tape, k.output.trans h.output, Nat.le_trans h.size k.size, fun g hg hn => (k.block g (by omega)).trans (h.block g hg hn)⟩
/-- A box of some cells that is built in block N. -/
structure BoxN (w wq : World) (p N : Nat) (cs : List Value) : Prop where
  lt : N < wq.heap.size
  ge : w.heap.size ≤ N
  upd : Upd p w wq
  c : ∀ i v, cs[i]? = some v → wq.cell? ⟨N, i, none⟩ = some v ∧ wq.frozen? ⟨N, i, none⟩ = false
theorem BoxN.keep {w wq wr : World} {p N : Nat} {cs : List Value} (h : BoxN w wq p N cs) (hp : p < w.heap.size) (hs : wq.heap.size ≤ wr.heap.size) (k : ∀ g, g < N + 1 → g ≠ p → wr.heap[g]? = wq.heap[g]?) (ho : wr.os = wq.os ∧ wr.tape = wq.tape ∧ wr.output = wq.output) : BoxN w wr p N cs := by
  have hb := k N (by omega) (by have := h.ge; omega)
  exact ⟨by have := h.lt; omega, h.ge, ⟨ho.1.trans h.upd.os, ho.2.1.trans h.upd.tape, ho.2.2.trans h.upd.output, Nat.le_trans h.upd.size hs, fun g hg hn => (k g (by have := h.ge; omega) (fun e => hn (by rw [e]))).trans (h.upd.block g hg hn)⟩,
    fun i v hv => ⟨(World.cell?_of_block (a := ⟨N, i, none⟩) hb).trans (h.c i v hv).1, (World.frozen?_of_block (a := ⟨N, i, none⟩) hb).trans (h.c i v hv).2⟩⟩
theorem BoxN.move {w wq wr : World} {p N : Nat} {cs : List Value} (h : BoxN w wq p N cs) (hp : p < w.heap.size) (hu : Upd p wq wr) : BoxN w wr p N cs :=
  h.keep hp hu.size (fun g hg hn => hu.block g (by have := h.lt; omega) (fun e => hn (Option.some.inj e))) ⟨hu.os, hu.tape, hu.output⟩
theorem BoxN.over {w wq wr : World} {p N : Nat} {cs : List Value} (h : BoxN w wq p N cs) (hp : p < w.heap.size) (hb : Below (N + 1) wq wr) : BoxN w wr p N cs :=
  h.keep hp hb.size (fun g hg hn => hb.block g hg) ⟨hb.os, hb.tape, hb.output⟩
theorem BoxN.far {w wq : World} {p N N' i : Nat} {cs : List Value} (h : BoxN w wq p N cs) (hp : p < w.heap.size) (hN : N < N') (u : Value) : BoxN w (wq.setCell ⟨N', i, none⟩ u) p N cs :=
  h.keep hp (by simp [World.setCell]) (fun g hg _ => Below.heap_setCell _ _ _ g (by simp; omega)) ⟨rfl, rfl, rfl⟩
theorem BoxN.set {w wq : World} {p N : Nat} {cs : List Value} (h : BoxN w wq p N cs) (i : Nat) (hi : i < cs.length) (u : Value) : BoxN w (wq.setCell ⟨N, i, none⟩ u) p N (cs.set i u) := by
  refine ⟨by simpa [World.setCell] using h.lt, h.ge, ⟨h.upd.os, h.upd.tape, h.upd.output, by simpa [World.setCell] using h.upd.size, fun g hg hn => (Below.heap_setCell _ _ _ g (by have := h.ge; simp; omega)).trans (h.upd.block g hg hn)⟩, fun j v hv => ?_⟩
  rcases Nat.decEq i j with hne | rfl
  · rw [List.getElem?_set_ne hne] at hv
    exact ⟨cell_beside hne (h.c j v hv).1, frozen_far (h.c j v hv).2⟩
  · rw [List.getElem?_set_self hi] at hv
    injection hv with hv
    subst hv
    exact ⟨cell_here (h.c i _ (List.getElem?_eq_getElem hi)).1, frozen_far (h.c i _ (List.getElem?_eq_getElem hi)).2⟩
end Go.Proofs.YtkdpclllenbgfaaDoor
