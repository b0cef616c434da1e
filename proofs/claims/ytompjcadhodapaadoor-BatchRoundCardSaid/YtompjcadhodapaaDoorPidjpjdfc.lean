/- 1 text of this claim, in build order. -/
import Derived.Test.YtompjcadhodapaaDoorPpnkebffl
/- Rows of one's own, of lists of texts of one's own (blocks told apart by their types): they stay while a reader moves. -/
namespace Go.Proofs.YtompjcadhodapaaDoor
open Go.ChangeShapes Go.WideShapes Go.ChangeAt Go.RowKit
set_option linter.unusedVariables false
set_option linter.unusedSimpArgs false

theorem KeepT.of_upd {e : TypeId} {base p : Nat} {w w' : World} (h : Upd p w w') (hp : p < base) : KeepT e base w w' := fun g cur hb hg => h.block g (Array.getElem?_eq_some_iff.1 hg).1 (fun e => by injection e with e; omega)
theorem KeepT.trans {e : TypeId} {base : Nat} {a b c : World} (h : KeepT e base a b) (k : KeepT e base b c) : KeepT e base a c := fun g cur hb hg => (k g cur hb ((h g cur hb hg).trans hg)).trans (h g cur hb hg)
theorem KeepT.less {e : TypeId} {base base' : Nat} {w w' : World} (h : KeepT e base w w') (hb : base ≤ base') : KeepT e base' w w' := fun g cur hg => h g cur (by omega)
def RowT (w : World) (base : Nat) (out : Value) (M : List (List ByteArray)) : Prop :=
  ∃ vs : List Value, ∃ hl : vs.length = M.length, w.ownsRow base 41 1 out M.length vs ∧
    ∀ j (h : j < M.length), w.ownsRow base 9 1 (vs[j]'(by omega)) M[j].length (svals M[j])
theorem RowT.nil_ (w : World) (base : Nat) : RowT w base (.slice none 0 0) [] := ⟨[], rfl, World.ownsRow_nil _ _ _ _, fun j hj => by simp at hj⟩
theorem RowT.less {w : World} {base base' : Nat} {out : Value} {M : List (List ByteArray)} (h : RowT w base out M) (hb : base' ≤ base) : RowT w base' out M := by
  obtain ⟨vs, h1, h2, h3⟩ := h
  exact ⟨vs, h1, own_lessQ h2 hb, fun j hj => own_lessQ (h3 j hj) hb⟩
theorem RowT.keepT {w w' : World} {base : Nat} {out : Value} {M : List (List ByteArray)} (h : RowT w base out M) (k : ∀ e, KeepT e base w w') : RowT w' base out M := by
  obtain ⟨vs, h1, h2, h3⟩ := h
  exact ⟨vs, h1, own_keepT h2 (k _), fun j hj => own_keepT (h3 j hj) (k _)⟩
theorem RowT.app_n {wa w4 : World} {base n : Nat} {out v' u : Value} {M : List (List ByteArray)} {x : List ByteArray} {vs : List Value} (hn : n = M.length) (h1 : vs.length = M.length) (h2 : wa.ownsRow base 41 1 out n vs)
    (h3 : ∀ j (h : j < M.length), wa.ownsRow base 9 1 (vs[j]'(by omega)) M[j].length (svals M[j]))
    (hi : wa.ownsRow base 9 1 u x.length (svals x))
    (ho : w4.ownsRow base 41 1 v' (n + 1) (vs ++ [u])) (hg : wa.grownBy w4 out.ownBlock) : RowT w4 base v' (M ++ [x]) := by
  subst hn
  have kk : KeepT 9 base wa w4 := KeepT.of_grown hg h2 (by decide)
  refine ⟨vs ++ [u], by simp [h1], by rw [List.length_append]; exact ho, fun j hj => ?_⟩
  rcases Nat.lt_or_ge j M.length with hlt | hge
  · have e1 : (vs ++ [u])[j]'(by simp; omega) = vs[j]'(by omega) := List.getElem_append_left (by omega)
    have e2 : (M ++ [x])[j] = M[j] := List.getElem_append_left hlt
    rw [e1, e2]
    exact own_keepT (h3 j hlt) kk
  · obtain rfl : j = M.length := by rw [List.length_append] at hj; simp at hj; omega
    have e1 : (vs ++ [u])[M.length]'(by simp; omega) = u := by rw [List.getElem_append_right (by omega)]; simp [h1]
    have e2 : (M ++ [x])[M.length] = x := by rw [List.getElem_append_right (by omega)]; simp
    rw [e1, e2]
    exact own_keepT hi kk
theorem RowT.toL {w : World} {base : Nat} {out : Value} {M : List (List ByteArray)} (h : RowT w base out M) : RowL w base out M := by
  obtain ⟨vs, h1, h2, h3⟩ := h
  refine ⟨vs, h1, h2, fun j hj => ?_⟩
  have e1 : vs.getD j undef = vs[j]'(by omega) := by rw [List.getD_eq_getElem?_getD, List.getElem?_eq_getElem (by omega)]; rfl
  have e2 : M.getD j [] = M[j] := by rw [List.getD_eq_getElem?_getD, List.getElem?_eq_getElem hj]; rfl
  rw [e1, e2]
  refine ⟨h3 j hj, fun g hg e => ?_⟩
  have a := (h3 j hj).2
  have b := h2.2
  rcases a with ⟨e1, _⟩ | ⟨g1, cap1, cur1, e1, _, hg1, _⟩
  · rw [e1] at hg; cases hg
  · rcases b with ⟨e2, _⟩ | ⟨g2, cap2, cur2, e2, _, hg2, _⟩
    · rw [e2] at e; cases e
    · rw [e1] at hg; rw [e2] at e
      simp only [Value.ownBlock, Option.some.injEq] at hg e
      subst hg; subst e
      rw [hg1] at hg2
      injection hg2 with hg2
      injection hg2 with _ h _
      exact absurd h (by decide)
end Go.Proofs.YtompjcadhodapaaDoor
