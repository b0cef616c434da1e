/- Rows of one's own, of lists of texts that were handed in. -/
import Derived.Test.YtompjcadhodapaaQMath
import Derived.Test.YtompjcadhodapaaMore
namespace Go.Proofs.Ytompjcadhodapaa
open Go.ChangeShapes Go.WideShapes Go.ChangeAt Go.RowKit
set_option linter.unusedVariables false
set_option linter.unusedSimpArgs false

/-- A row of one's own, from base on; its lists lie below B. -/
def RowP (w : World) (base B : Nat) (out : Value) (M : List (List ByteArray)) : Prop :=
  ∃ vs : List Value, vs.length = M.length ∧ w.ownsRow base 23 1 out M.length vs ∧ ∀ j, j < M.length → rdStrs w B [vs.getD j undef] (M.getD j [])
theorem RowP.nil_ (w : World) (base B : Nat) : RowP w base B (.slice none 0 0) [] := ⟨[], rfl, World.ownsRow_nil _ _ _ _, fun j hj => by simp at hj⟩
theorem RowP.kept {w w' : World} {base B : Nat} {out : Value} {M : List (List ByteArray)} (h : RowP w base B out M) (hb : Below B w w') (k : ∀ g, out.ownBlock = some g → w'.heap[g]? = w.heap[g]?) : RowP w' base B out M := by
  obtain ⟨vs, h1, h2, h3⟩ := h
  exact ⟨vs, h1, own_kept h2 k, fun j hj => good_strs.stays (h3 j hj) hb⟩
theorem RowP.lt {w : World} {base B : Nat} {out : Value} {M : List (List ByteArray)} (h : RowP w base B out M) : ∀ g, out.ownBlock = some g → base ≤ g ∧ g < w.heap.size := by
  obtain ⟨vs, h1, h2, h3⟩ := h
  exact h2.lt
theorem RowP.app {w w' : World} {base B : Nat} {v' u : Value} {M : List (List ByteArray)} {vs : List Value} {x : List ByteArray} (h1 : vs.length = M.length) (h3 : ∀ j, j < M.length → rdStrs w B [vs.getD j undef] (M.getD j []))
    (hu : rdStrs w B [u] x) (hb : Below B w w') (ho : w'.ownsRow base 23 1 v' (M.length + 1) (vs ++ [u])) : RowP w' base B v' (M ++ [x]) := by
  refine ⟨vs ++ [u], by simp [h1], by rw [List.length_append]; exact ho, fun j hj => ?_⟩
  rw [List.length_append] at hj
  rcases Nat.lt_or_ge j M.length with hlt | hge
  · rw [List.getD_eq_getElem?_getD, List.getElem?_append_left (by omega), ← List.getD_eq_getElem?_getD, List.getD_eq_getElem?_getD (l := M ++ [x]), List.getElem?_append_left hlt, ← List.getD_eq_getElem?_getD]
    exact good_strs.stays (h3 j hlt) hb
  · obtain rfl : j = M.length := by simp at hj; omega
    rw [List.getD_eq_getElem?_getD, List.getElem?_append_right (by omega), List.getD_eq_getElem?_getD (l := M ++ [x]), List.getElem?_append_right (by omega), h1, Nat.sub_self]
    exact good_strs.stays hu hb
theorem RowP.rows {w : World} {base B N : Nat} {out : Value} {M : List (List ByteArray)} (h : RowP w base B out M) (hB : B ≤ N) (hN : w.heap.size ≤ N) : rdSlice 1 rdStrs w N [out] M := by
  obtain ⟨vs, h1, h2, h3⟩ := h
  obtain ⟨A, c, rfl, g1, g2, g3⟩ := own_cells h2
  refine ⟨A, c, rfl, g1, g2, fun h0 => ?_⟩
  obtain ⟨g, rfl, -, hg, -⟩ := g3 h0
  refine ⟨g, 0, rfl, by omega, fun i x hx => ?_⟩
  have hil := (List.getElem?_eq_some_iff.1 hx).1
  have hgd : M.getD i [] = x := by rw [List.getD_eq_getElem?_getD, hx]; rfl
  have hc2 := h2.cellAt (g := g) i (by omega)
  refine ⟨[vs.getD i undef], rfl, fun j u hu => ?_, ?_⟩
  · cases j with
    | succ j => simp at hu
    | zero =>
      simp at hu; subst hu
      rw [Nat.mul_one, Nat.add_zero, Nat.zero_add, hc2, List.getElem?_eq_getElem (show i < vs.length by omega)]; rfl
  · have := h3 i hil
    rw [hgd] at this
    exact good_strs.more this hB
theorem RowP.less {w : World} {base base' B : Nat} {out : Value} {M : List (List ByteArray)} (h : RowP w base B out M) (hb : base' ≤ base) : RowP w base' B out M := by
  obtain ⟨vs, h1, ⟨h2, h2'⟩, h3⟩ := h
  refine ⟨vs, h1, ⟨h2, ?_⟩, h3⟩
  rcases h2' with h2' | ⟨g, cap, cur, rfl, hbg, r⟩
  · exact .inl h2'
  · exact .inr ⟨g, cap, cur, rfl, by omega, r⟩
end Go.Proofs.Ytompjcadhodapaa
