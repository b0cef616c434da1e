/- The walk of CellOrder (begun). -/
import Derived.Test.YtafmdpnfigkbfaaCellWalks3
import Derived.Test.YtafmdpnfigkbfaaCellOrdMath
namespace Go.Proofs.Ytafmdpnfigkbfaa
open Go.ChangeShapes Go.WideShapes Go.ChangeAt Go.RowKit
set_option linter.unusedVariables false
set_option linter.unusedSimpArgs false

/-- A row of lists that is built: its cells read as the lists of M. -/
def RowB (w : World) (base : Nat) (out : Value) (M : List (List Int)) : Prop := ∃ vs, vs.length = M.length ∧ w.ownsRow base 24 1 out M.length vs ∧ ∀ j, j < M.length → Sl w base (vs.getD j undef) (ivals (M.getD j []))
def OrdRelC (L : List (List Int)) (r : Nat) (w : World) (s7 s8 s9 : Value) (wr : World) : Prop :=
  ∃ k : Nat, k ≤ L.length ∧ s9 = .int .i64 k ∧ RowB wr w.heap.size s7 (backL L k) ∧ RowB wr w.heap.size s8 (roundL L r k) ∧ (∀ g, s7.ownBlock = some g → s8.ownBlock ≠ some g) ∧ Below w.heap.size w wr
theorem RowB.nil_ (w : World) (base : Nat) : RowB w base (.slice none 0 0) [] := ⟨[], rfl, World.ownsRow_nil _ _ _ _, fun j hj => by simp at hj⟩
theorem RowB.below {w w' : World} {base : Nat} {out : Value} {M : List (List Int)} (h : RowB w base out M) (hb : Below base w w') (k : ∀ g, out.ownBlock = some g → w'.heap[g]? = w.heap[g]?) : RowB w' base out M := by
  obtain ⟨vs, h1, h2, h3⟩ := h
  exact ⟨vs, h1, own_kept h2 k, fun j hj => (h3 j hj).below hb⟩
/-- One more row is appended. -/
theorem RowB.app {w w' : World} {base : Nat} {out v' : Value} {M : List (List Int)} {vs : List Value} {u : Value} {x : List Int} (h1 : vs.length = M.length) (h3 : ∀ j, j < M.length → Sl w base (vs.getD j undef) (ivals (M.getD j [])))
    (hu : Sl w base u (ivals x)) (hb : Below base w w') (ho : w'.ownsRow base 24 1 v' (M.length + 1) (vs ++ [u])) : RowB w' base v' (M ++ [x]) := by
  refine ⟨vs ++ [u], by simp [h1], by rw [List.length_append]; exact ho, fun j hj => ?_⟩
  rw [List.length_append] at hj
  rcases Nat.lt_or_ge j M.length with hlt | hge
  · rw [List.getD_eq_getElem?_getD, List.getElem?_append_left (by omega), ← List.getD_eq_getElem?_getD, List.getD_eq_getElem?_getD (l := M ++ [x]), List.getElem?_append_left hlt, ← List.getD_eq_getElem?_getD]
    exact (h3 j hlt).below hb
  · obtain rfl : j = M.length := by simp at hj; omega
    rw [List.getD_eq_getElem?_getD, List.getElem?_append_right (by omega), List.getD_eq_getElem?_getD (l := M ++ [x]), List.getElem?_append_right (by omega), h1, Nat.sub_self]
    exact hu.below hb
/-- A built row is read as lists. -/
theorem RowB.rows {w : World} {base : Nat} {out : Value} {M : List (List Int)} (h : RowB w base out M) (hb : base ≤ w.heap.size) : RowsI w w.heap.size out M := by
  obtain ⟨vs, h1, h2, h3⟩ := h
  obtain ⟨A2, c2, e, g1, g2, g3⟩ := own_cells h2
  rw [e] at h2 ⊢
  refine ⟨A2, c2, rfl, g1, g2, fun i hi => ?_⟩
  obtain ⟨g, rfl, -, hg, -⟩ := g3 (by omega)
  have hc2 := h2.cellAt (g := g) i (by omega)
  refine ⟨g, 0, vs.getD i undef, rfl, hg, ?_, (h3 i hi).more hb⟩
  rw [Nat.zero_add, hc2, List.getD_eq_getElem?_getD, List.getElem?_eq_getElem (show i < vs.length by omega)]; rfl
end Go.Proofs.Ytafmdpnfigkbfaa
