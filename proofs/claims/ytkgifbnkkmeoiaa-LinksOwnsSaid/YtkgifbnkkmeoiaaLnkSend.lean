/- The program's Send, Take, Drop. -/
import Derived.Test.YtkgifbnkkmeoiaaLnkLose
namespace Go.Proofs.Ytkgifbnkkmeoiaa
open Go.ChangeShapes Go.WideShapes Go.ChangeAt Go.RowKit
set_option linter.unusedVariables false
set_option linter.unusedSimpArgs false

def mayN (f t : Int) : Bool := decide (1 ≤ f ∧ f ≤ 7 ∧ 1 ≤ t ∧ t ≤ 7 ∧ f ≠ t)
def sendN (L : List PK) (f t : Int) (b : List UInt8) : List PK × Int := if mayN f t = true then (if 160 < L.length + 1 then (L ++ [(f, t, b)]).drop 1 else L ++ [(f, t, b)], 0) else (L, 1)
def dropN (L : List PK) (p : Int) : List PK := if inN L p = true then L.take p.toNat ++ L.drop (p.toNat + 1) else L
def NetQ (D : Nat → Prop) (n : Nat) (L : List PK) (w w' : World) : Prop := ∃ D', NetP w' D' n L ∧ Grow w D D' ∧ Chg D w w'
theorem netP_app {w w5 w6 : World} {D : Nat → Prop} {n g cap cc : Nat} {L : List PK} {v : Value} {es : List P3} {f t : Int} {b : List UInt8} {C : Option Addr} (h1 : D n) (h2 : ∀ k, D k → k < w.heap.size) (h3 : w.frozen? ⟨n, 0, none⟩ = false) (h4 : w.cell? ⟨n, 0, none⟩ = some v)
    (h6 : ∀ g, v.ownBlock = some g → D g ∧ g ≠ n) (h7 : RowPk w (fun k => D k ∧ k ≠ n ∧ v.ownBlock ≠ some k) es L) (hb5 : Below w.heap.size w w5) (hc5 : w5.ownsRow w.heap.size 5 1 (.slice C b.length cc) b.length (bvals b))
    (ho6 : w6.ownsRow 0 69 3 (.slice (some ⟨g, 0, none⟩) (L.length + 1) cap) (L.length + 1) (flatP es ++ [.int .i64 f, .int .i64 t, .slice C b.length cc])) (hg6 : (w5.alloc (.cells #[.int .i64 f, .int .i64 t, .slice C b.length cc] 69)).grownBy w6 v.ownBlock) (hat : v.ownBlock = some g ∨ g = w5.heap.size + 1) :
    w6.cell? ⟨n, 0, none⟩ = some v ∧ w6.frozen? ⟨n, 0, none⟩ = false ∧ NetQ D n (L ++ [(f, t, b)]) w (w6.setCell ⟨n, 0, none⟩ (.slice (some ⟨g, 0, none⟩) (L.length + 1) cap)) := by
  have hnl := h2 n h1
  have hz5 := hb5.size
  have hz6 := hg6.size
  rw [World.size_alloc] at hz6
  have hnv : v.ownBlock ≠ some n := fun e => (h6 n e).2 rfl
  have hold : ∀ k, k < w.heap.size → v.ownBlock ≠ some k → w6.heap[k]? = w.heap[k]? := fun k hk hv => (hg6.block k (by rw [World.size_alloc]; omega) (fun e => hv e.symm)).trans ((Below.heap_alloc w5 _ k (by omega)).trans (hb5.block k hk))
  have hmid : ∀ k, w.heap.size ≤ k → k < w5.heap.size → w6.heap[k]? = w5.heap[k]? := fun k hk hk5 => (hg6.block k (by rw [World.size_alloc]; omega) (fun e => by have := (h2 k (h6 k e.symm).1); omega)).trans (Below.heap_alloc w5 _ k hk5)
  have hn6 := hold n hnl hnv
  have hfar : ∀ k, k ≠ n → (w6.setCell ⟨n, 0, none⟩ (.slice (some ⟨g, 0, none⟩) (L.length + 1) cap)).heap[k]? = w6.heap[k]? := fun k hk => Below.heap_setCell _ _ _ k (by simpa using hk)
  have hzz : (w6.setCell ⟨n, 0, none⟩ (.slice (some ⟨g, 0, none⟩) (L.length + 1) cap)).heap.size = w6.heap.size := by simp [World.setCell]
  have hg6' : g < w6.heap.size := (ho6.lt g rfl).2
  have hgn : g ≠ n := by
    rcases hat with h | h
    · exact (h6 g h).2
    · omega
  have hgd : D g ∨ w.heap.size ≤ g := by
    rcases hat with h | h
    · exact .inl (h6 g h).1
    · exact .inr (by omega)
  have hc6 : w6.cell? ⟨n, 0, none⟩ = some v := (World.cell?_of_block (a := ⟨n, 0, none⟩) hn6).trans h4
  have hf6 : w6.frozen? ⟨n, 0, none⟩ = false := (World.frozen?_of_block (a := ⟨n, 0, none⟩) hn6).trans h3
  refine ⟨hc6, hf6, fun k => D k ∨ (w.heap.size ≤ k ∧ k < w6.heap.size), ⟨.inl h1, fun k hk => ?_, frozen_far hf6, _, es ++ [(f, t, .slice C b.length cc)], cell_here hc6, ?_, fun q hq => ?_, ?_⟩, ⟨fun k hk => .inl hk, fun k hk => hk.imp id (fun h => h.1)⟩, ⟨?_, ?_, ?_, by rw [hzz]; omega, fun k hk hne => ?_⟩⟩
  · rw [hzz]
    rcases hk with hk | hk
    · have := h2 k hk; omega
    · exact hk.2
  · rw [List.length_append, List.length_singleton, flatP_snoc]
    exact own_kept ho6 (fun q hq => hfar q (by injection hq with hq; have e1 : g = q := hq; omega))
  · have e1 : g = q := by injection hq
    subst e1
    exact ⟨hgd.imp id (fun h => ⟨h, hg6'⟩), hgn⟩
  · refine RowPk.app ((h7.kept (w' := w6.setCell ⟨n, 0, none⟩ (.slice (some ⟨g, 0, none⟩) (L.length + 1) cap)) (fun k hk => (hfar k hk.2.1).trans (hold k (h2 k hk.1) hk.2.2))).mono (fun k hk => ⟨.inl hk.1, hk.2.1, fun e => ?_⟩)) (RowPk.one ?_)
    · have e1 : g = k := by injection e
      subst e1
      rcases hat with h | h
      · exact hk.2.2 h
      · have := h2 g hk.1; omega
    · refine (SlE.of_own (E := fun k => w.heap.size ≤ k ∧ k < w5.heap.size) hc5 (fun q hq => hc5.lt q hq)).kept (w' := w6.setCell ⟨n, 0, none⟩ (.slice (some ⟨g, 0, none⟩) (L.length + 1) cap)) (fun k hk => ?_) |>.mono (fun k hk => ⟨.inr ⟨hk.1, by omega⟩, by omega, fun e => ?_⟩)
      · exact (hfar k (by omega)).trans (hmid k hk.1 hk.2)
      · have e1 : g = k := by injection e
        subst e1
        rcases hat with h | h
        · have := h2 g (h6 g h).1; omega
        · omega
  · exact hg6.os.trans hb5.os
  · exact hg6.tape.trans hb5.tape
  · exact hg6.output.trans hb5.output
  · rw [hfar k (fun e => hne (e ▸ h1))]
    exact hold k hk (fun e => hne (h6 k e).1)
end Go.Proofs.Ytkgifbnkkmeoiaa
