/- 1 text of this claim, in build order. -/
import Derived.Test.YtompjcadhodapaaDoorPpnkebffl
/- Rows of lists of numbers of one's own; the shape of a thing that may be written over (blocks told apart by their types). -/
namespace Go.Proofs.YtompjcadhodapaaDoor
open Go.ChangeShapes Go.WideShapes Go.ChangeAt Go.RowKit
set_option linter.unusedVariables false
set_option linter.unusedSimpArgs false

/-- A row of one's own, of lists of numbers of one's own. -/
def RowI (w : World) (base : Nat) (out : Value) (M : List (List Int)) : Prop :=
  ∃ vs : List Value, ∃ hl : vs.length = M.length, w.ownsRow base 52 1 out M.length vs ∧
    ∀ j (h : j < M.length), w.ownsRow base 3 1 (vs[j]'(by omega)) M[j].length (ivals M[j])
theorem RowI.nil_ (w : World) (base : Nat) : RowI w base (.slice none 0 0) [] := ⟨[], rfl, World.ownsRow_nil _ _ _ _, fun j hj => by simp at hj⟩
theorem RowI.less {w : World} {base base' : Nat} {out : Value} {M : List (List Int)} (h : RowI w base out M) (hb : base' ≤ base) : RowI w base' out M := by
  obtain ⟨vs, h1, h2, h3⟩ := h
  exact ⟨vs, h1, own_lessQ h2 hb, fun j hj => own_lessQ (h3 j hj) hb⟩
theorem RowI.keepT {w w' : World} {base : Nat} {out : Value} {M : List (List Int)} (h : RowI w base out M) (k : ∀ e, KeepT e base w w') : RowI w' base out M := by
  obtain ⟨vs, h1, h2, h3⟩ := h
  exact ⟨vs, h1, own_keepT h2 (k _), fun j hj => own_keepT (h3 j hj) (k _)⟩
theorem RowI.on {w w' : World} {base : Nat} {out : Value} {M : List (List Int)} (h : RowI w base out M) (hb : Below w.heap.size w w') : RowI w' base out M := h.keepT (fun _ => KeepT.of_below hb)
theorem RowI.app {wa w4 : World} {base : Nat} {out v' u : Value} {M : List (List Int)} {x : List Int} {vs : List Value} (h1 : vs.length = M.length) (h2 : wa.ownsRow base 52 1 out M.length vs)
    (h3 : ∀ j (h : j < M.length), wa.ownsRow base 3 1 (vs[j]'(by omega)) M[j].length (ivals M[j]))
    (hi : wa.ownsRow base 3 1 u x.length (ivals x))
    (ho : w4.ownsRow base 52 1 v' (M.length + 1) (vs ++ [u])) (hg : wa.grownBy w4 out.ownBlock) : RowI w4 base v' (M ++ [x]) := by
  have kk : KeepT 3 base wa w4 := KeepT.of_grown hg h2 (by decide)
  refine ⟨vs ++ [u], by simp [h1], by rw [List.length_append]; exact ho, fun j hj => ?_⟩
  rcases Nat.lt_or_ge j M.length with hlt | hge
  · have e1 : (vs ++ [u])[j]'(by simp; omega) = vs[j]'(by omega) := List.getElem_append_left (by omega)
    have e2 : (M ++ [x])[j] = M[j] := List.getElem_append_left hlt
    rw [e1, e2]
    exact own_keepT (h3 j hlt) kk
  · obtain rfl : j = M.length := by rw [List.length_append] at hj; simp at hj; omega
    have e1 : (vs ++ [u])[M.length]'(by simp; omega) = u := by rw [List.getElem_append_right (by omega)]; simp [h1]
    have e2 : (M ++ [x])[M.length] = x := by rw [List.getElem_append_right (by omega)]; simp
    rw [e1, e2]
    exact own_keepT hi kk
theorem RowI.rows {w : World} {base : Nat} {out : Value} {M : List (List Int)} (h : RowI w base out M) (hs : ∀ l ∈ M, ∀ n ∈ l, InI64 n) : rdSlice 1 rdInts w w.heap.size [out] M := by
  obtain ⟨vs, h1, h2, h3⟩ := h
  obtain ⟨A, c, rfl, g1, g2, g3⟩ := own_cells2 h2
  refine ⟨A, c, rfl, g1, g2, fun h0 => ?_⟩
  obtain ⟨g, rfl, -, hg, -, hcell⟩ := g3 h0
  refine ⟨g, 0, rfl, hg, fun i x hx => ?_⟩
  have hil := (List.getElem?_eq_some_iff.1 hx).1
  have hxe : M[i] = x := by rw [List.getElem?_eq_getElem hil] at hx; injection hx
  have hint := h3 i hil
  rw [hxe] at hint
  refine ⟨[vs[i]'(by omega)], rfl, fun j u hu => ?_, rdInts_of_own rfl hint (hs x (hxe ▸ List.getElem_mem hil))⟩
  have hj : j < 1 := (List.getElem?_eq_some_iff.1 hu).1
  obtain rfl : j = 0 := by omega
  simp at hu
  rw [Nat.zero_add, Nat.mul_one, Nat.add_zero, hcell i (by omega), List.getElem?_eq_getElem (by omega), hu]
/-! ### Shapes -/
/-- A block of a type, from lo on and below hi, of so many cells. -/
def BlkT (w : World) (lo hi g : Nat) (e : TypeId) (m : Nat) : Prop := lo ≤ g ∧ g < hi ∧ ∃ cur, w.heap[g]? = some (.cells cur e (0, 0)) ∧ m ≤ cur.size
theorem BlkT.cell {w : World} {lo hi g m j : Nat} {e : TypeId} (h : BlkT w lo hi g e m) (hj : j < m) : ∃ u, w.cell? ⟨g, j, none⟩ = some u := by
  obtain ⟨-, -, cur, hg, hm⟩ := h
  exact ⟨cur[j]'(by omega), by simp [World.cell?, hg]⟩
theorem BlkT.frozen {w : World} {lo hi g m j : Nat} {e : TypeId} (h : BlkT w lo hi g e m) : w.frozen? ⟨g, j, none⟩ = false := by
  obtain ⟨-, -, cur, hg, hm⟩ := h
  simp [World.frozen?, hg]
theorem BlkT.set {w : World} {lo hi g m : Nat} {e : TypeId} (h : BlkT w lo hi g e m) (b k : Nat) (v : Value) : BlkT (w.setCell ⟨b, k, none⟩ v) lo hi g e m := by
  obtain ⟨h1, h2, cur, hg, hm⟩ := h
  refine ⟨h1, h2, ?_⟩
  by_cases hb : b = g
  · subst hb
    refine ⟨cur.setIfInBounds k v, ?_, by simpa using hm⟩
    simp [World.setCell, Array.getElem?_modify, hg]
  · exact ⟨cur, (Below.heap_setCell _ _ _ g (by simpa using fun e => hb e.symm)).trans hg, hm⟩
theorem BlkT.ne {w : World} {lo hi g m lo' hi' g' m' : Nat} {e e' : TypeId} (h : BlkT w lo hi g e m) (h' : BlkT w lo' hi' g' e' m') (hne : e ≠ e') : g ≠ g' := by
  obtain ⟨-, -, cur, hg, -⟩ := h
  obtain ⟨-, -, cur', hg', -⟩ := h'
  rintro rfl
  rw [hg] at hg'
  injection hg' with hg'
  injection hg' with _ h2 _
  exact hne h2
def LeafT (e : TypeId) (w : World) (lo hi : Nat) (v : Value) (n : Nat) : Prop := ∃ A c, v = .slice A n c ∧ n ≤ c ∧ c ≤ maxLen ∧ (0 < n → ∃ g, A = some ⟨g, 0, none⟩ ∧ BlkT w lo hi g e n)
theorem LeafT.set {e : TypeId} {w : World} {lo hi n : Nat} {v : Value} (h : LeafT e w lo hi v n) (b k : Nat) (x : Value) : LeafT e (w.setCell ⟨b, k, none⟩ x) lo hi v n := by
  obtain ⟨A, c, e1, h1, h2, h3⟩ := h
  refine ⟨A, c, e1, h1, h2, fun h0 => ?_⟩
  obtain ⟨g, e2, hb⟩ := h3 h0
  exact ⟨g, e2, hb.set _ _ _⟩
theorem LeafT.of_own {e : TypeId} {w : World} {base n : Nat} {v : Value} {xs : List Value} (h : w.ownsRow base e 1 v n xs) : LeafT e w base w.heap.size v n := by
  obtain ⟨A, c, e1, h1, h2, h3⟩ := own_cells2 h
  refine ⟨A, c, e1, h1, h2, fun h0 => ?_⟩
  obtain ⟨g, e2, a, b, ⟨cur, hc, hm⟩, -⟩ := h3 h0
  exact ⟨g, e2, a, b, cur, hc, by omega⟩
theorem LeafT.nil_ (e : TypeId) (w : World) (lo hi : Nat) : LeafT e w lo hi (.slice none 0 0) 0 := ⟨none, 0, rfl, Nat.le_refl _, by simp [maxLen], fun h => by omega⟩
/-- A row (blocks of type e0) of rows (blocks of type e1). -/
def ShapeR (e0 e1 : TypeId) (w : World) (lo hi : Nat) (v : Value) (n : Nat) : Prop :=
  ∃ A c, v = .slice A n c ∧ n ≤ c ∧ c ≤ maxLen ∧ (0 < n → ∃ g, A = some ⟨g, 0, none⟩ ∧ BlkT w lo hi g e0 n ∧ ∀ k, k < n → ∃ u m, w.cell? ⟨g, k, none⟩ = some u ∧ LeafT e1 w lo hi u m)
/-- A leaf is written over. -/
theorem ShapeR.leaf {e0 e1 e : TypeId} {w : World} {lo hi lo' hi' n b m : Nat} {v : Value} (h : ShapeR e0 e1 w lo hi v n) (hb : BlkT w lo' hi' b e m) (hne : e ≠ e0) (k : Nat) (x : Value) : ShapeR e0 e1 (w.setCell ⟨b, k, none⟩ x) lo hi v n := by
  obtain ⟨A, c, e1', h1, h2, h3⟩ := h
  refine ⟨A, c, e1', h1, h2, fun h0 => ?_⟩
  obtain ⟨g, e2, hg, hc⟩ := h3 h0
  refine ⟨g, e2, hg.set _ _ _, fun j hj => ?_⟩
  obtain ⟨u, mu, hu, hl⟩ := hc j hj
  exact ⟨u, mu, cell_far (hb.ne hg hne) hu, hl.set _ _ _⟩
/-- A row is written away. -/
theorem ShapeR.nil_ {e0 e1 : TypeId} {w : World} {lo hi n : Nat} {v : Value} (h : ShapeR e0 e1 w lo hi v n) (b k : Nat) : ShapeR e0 e1 (w.setCell ⟨b, k, none⟩ (.slice none 0 0)) lo hi v n := by
  obtain ⟨A, c, e1', h1, h2, h3⟩ := h
  refine ⟨A, c, e1', h1, h2, fun h0 => ?_⟩
  obtain ⟨g, e2, hg, hc⟩ := h3 h0
  refine ⟨g, e2, hg.set _ _ _, fun j hj => ?_⟩
  obtain ⟨u, mu, hu, hl⟩ := hc j hj
  by_cases hbg : b = g
  · subst hbg
    by_cases hkj : k = j
    · subst hkj
      exact ⟨_, 0, cell_here hu, LeafT.nil_ _ _ _ _⟩
    · exact ⟨u, mu, cell_beside hkj hu, hl.set _ _ _⟩
  · exact ⟨u, mu, cell_far hbg hu, hl.set _ _ _⟩
theorem ShapeR.of_rowI {w : World} {base : Nat} {out : Value} {M : List (List Int)} (h : RowI w base out M) : ShapeR 52 3 w base w.heap.size out M.length := by
  obtain ⟨vs, h1, h2, h3⟩ := h
  obtain ⟨A, c, e1, g1, g2, g3⟩ := own_cells2 h2
  refine ⟨A, c, e1, g1, g2, fun h0 => ?_⟩
  obtain ⟨g, e2, a, b, ⟨cur, hc, hm⟩, hcell⟩ := g3 h0
  refine ⟨g, e2, ⟨a, b, cur, hc, by omega⟩, fun k hk => ⟨vs[k]'(by omega), _, ?_, LeafT.of_own (h3 k hk)⟩⟩
  rw [hcell k (by omega), List.getElem?_eq_getElem (by omega)]
theorem ShapeR.of_rowL {w : World} {base : Nat} {out : Value} {M : List (List ByteArray)} (h : RowL w base out M) : ShapeR 41 9 w base w.heap.size out M.length := by
  obtain ⟨vs, h1, h2, h3⟩ := h
  obtain ⟨A, c, e1, g1, g2, g3⟩ := own_cells2 h2
  refine ⟨A, c, e1, g1, g2, fun h0 => ?_⟩
  obtain ⟨g, e2, a, b, ⟨cur, hc, hm⟩, hcell⟩ := g3 h0
  refine ⟨g, e2, ⟨a, b, cur, hc, by omega⟩, fun k hk => ⟨vs.getD k undef, _, ?_, LeafT.of_own (h3 k hk).1⟩⟩
  rw [hcell k (by omega), List.getD_eq_getElem?_getD, List.getElem?_eq_getElem (by omega)]
  rfl
/-- Facts that may be written over. -/
def ShapeF (w : World) (lo hi : Nat) (v : Value) (n : Nat) : Prop :=
  ∃ A c, v = .slice A n c ∧ n ≤ c ∧ c ≤ maxLen ∧ (0 < n → ∃ g, A = some ⟨g, 0, none⟩ ∧ BlkT w lo hi g 54 (n * 2) ∧ ∀ i, i < n →
    (∃ u m, w.cell? ⟨g, i * 2, none⟩ = some u ∧ ShapeR 41 9 w lo hi u m) ∧ ∃ u m, w.cell? ⟨g, i * 2 + 1, none⟩ = some u ∧ LeafT 3 w lo hi u m)
theorem ShapeF.of_row {w : World} {base : Nat} {out : Value} {M : List FactX} (h : CRow w base out M) : ShapeF w base w.heap.size out M.length := by
  obtain ⟨vs, h1, h2, h3⟩ := h
  obtain ⟨A, c, e1, g1, g2, g3⟩ := own_cells2 h2
  refine ⟨A, c, e1, g1, g2, fun h0 => ?_⟩
  obtain ⟨g, e2, a, b, ⟨cur, hc, hm⟩, hcell⟩ := g3 h0
  refine ⟨g, e2, ⟨a, b, cur, hc, hm⟩, fun i hi => ⟨⟨(vs[i]'(by omega)).1, _, ?_, ShapeR.of_rowL (h3 i hi).1⟩, ⟨(vs[i]'(by omega)).2, _, ?_, LeafT.of_own (h3 i hi).2⟩⟩⟩
  · have := fvs_at (vs := vs) i (by omega) 0 (by omega)
    rw [Nat.add_zero] at this
    rw [hcell (i * 2) (by omega), this]; rfl
  · rw [hcell (i * 2 + 1) (by omega), fvs_at i (by omega) 1 (by omega)]; rfl
theorem ShapeF.leaf {e : TypeId} {w : World} {lo hi n b m lo' hi' : Nat} {v : Value} (h : ShapeF w lo hi v n) (hb : BlkT w lo' hi' b e m) (h1 : e ≠ 54) (h2 : e ≠ 41) (k : Nat) (x : Value) : ShapeF (w.setCell ⟨b, k, none⟩ x) lo hi v n := by
  obtain ⟨A, c, e1', g1, g2, h3⟩ := h
  refine ⟨A, c, e1', g1, g2, fun h0 => ?_⟩
  obtain ⟨g, e2, hg, hc⟩ := h3 h0
  refine ⟨g, e2, hg.set _ _ _, fun j hj => ?_⟩
  obtain ⟨⟨u, mu, hu, hl⟩, ⟨u2, mu2, hu2, hl2⟩⟩ := hc j hj
  exact ⟨⟨u, mu, cell_far (hb.ne hg h1) hu, hl.leaf hb h2 _ _⟩, ⟨u2, mu2, cell_far (hb.ne hg h1) hu2, hl2.set _ _ _⟩⟩
theorem ShapeF.nil_ {w : World} {lo hi n b m lo' hi' : Nat} {v : Value} (h : ShapeF w lo hi v n) (hb : BlkT w lo' hi' b 41 m) (k : Nat) : ShapeF (w.setCell ⟨b, k, none⟩ (.slice none 0 0)) lo hi v n := by
  obtain ⟨A, c, e1', g1, g2, h3⟩ := h
  refine ⟨A, c, e1', g1, g2, fun h0 => ?_⟩
  obtain ⟨g, e2, hg, hc⟩ := h3 h0
  refine ⟨g, e2, hg.set _ _ _, fun j hj => ?_⟩
  obtain ⟨⟨u, mu, hu, hl⟩, ⟨u2, mu2, hu2, hl2⟩⟩ := hc j hj
  exact ⟨⟨u, mu, cell_far (hb.ne hg (by decide)) hu, hl.nil_ _ _⟩, ⟨u2, mu2, cell_far (hb.ne hg (by decide)) hu2, hl2.set _ _ _⟩⟩
end Go.Proofs.YtompjcadhodapaaDoor
