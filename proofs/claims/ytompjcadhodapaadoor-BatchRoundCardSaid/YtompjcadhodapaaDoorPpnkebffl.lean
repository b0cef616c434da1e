/- 1 text of this claim, in build order. -/
import Derived.Test.YtompjcadhodapaaDoorPabepockl
import Derived.Test.YtompjcadhodapaaDoorPbbmkadpj
/- Rows of one's own, of facts that are one's own through and through. -/
namespace Go.Proofs.YtompjcadhodapaaDoor
open Go.ChangeShapes Go.WideShapes Go.ChangeAt Go.RowKit
set_option linter.unusedVariables false
set_option linter.unusedSimpArgs false

/-- Blocks of this type stay, from base on. -/
def KeepT (e : TypeId) (base : Nat) (w w' : World) : Prop := ∀ g cur, base ≤ g → w.heap[g]? = some (.cells cur e (0, 0)) → w'.heap[g]? = w.heap[g]?
theorem KeepT.of_below {e : TypeId} {base : Nat} {w w' : World} (h : Below w.heap.size w w') : KeepT e base w w' := fun g cur hb hg => h.block g (Array.getElem?_eq_some_iff.1 hg).1
theorem KeepT.of_chg {e : TypeId} {base : Nat} {D : Nat → Prop} {w w' : World} (h : Chg D w w') (hD : ∀ g, D g → g < base) : KeepT e base w w' := fun g cur hb hg => h.block g (Array.getElem?_eq_some_iff.1 hg).1 (fun hd => by have := hD g hd; omega)
theorem own_keepT {w w' : World} {base n : Nat} {e : TypeId} {sz : Nat} {v : Value} {xs : List Value} (h : w.ownsRow base e sz v n xs) (k : KeepT e base w w') : w'.ownsRow base e sz v n xs := by
  obtain ⟨h1, h2⟩ := h
  refine ⟨h1, ?_⟩
  rcases h2 with h2 | ⟨g, cap, cur, rfl, hbg, hg, r⟩
  · exact .inl h2
  · exact .inr ⟨g, cap, cur, rfl, hbg, (k g cur hbg hg).trans hg, r⟩
theorem KeepT.of_grown {w w' : World} {base base' n : Nat} {e e' : TypeId} {sz : Nat} {v : Value} {xs : List Value} (hg : w.grownBy w' v.ownBlock) (h : w.ownsRow base' e' sz v n xs) (hne : e ≠ e') : KeepT e base w w' := by
  intro g cur hb hgg
  refine hg.block g (Array.getElem?_eq_some_iff.1 hgg).1 (fun e1 => ?_)
  rcases h.2 with ⟨rfl, _⟩ | ⟨g', cap, cur', rfl, hbg, hg', _⟩
  · cases e1
  · simp only [Value.ownBlock, Option.some.injEq] at e1
    subst e1
    rw [hgg] at hg'
    injection hg' with hg'
    injection hg' with _ h2 _
    exact hne h2
theorem RowL.keepT {w w' : World} {base : Nat} {out : Value} {M : List (List ByteArray)} (h : RowL w base out M) (k1 : KeepT 41 base w w') (k2 : KeepT 9 base w w') : RowL w' base out M := by
  obtain ⟨vs, h1, h2, h3⟩ := h
  exact ⟨vs, h1, own_keepT h2 k1, fun j hj => ⟨own_keepT (h3 j hj).1 k2, (h3 j hj).2⟩⟩
/-- A row of one's own, of facts of one's own. -/
def CRow (w : World) (base : Nat) (out : Value) (M : List FactX) : Prop :=
  ∃ vs : List (Value × Value), ∃ hl : vs.length = M.length, w.ownsRow base 54 2 out M.length (fvs vs) ∧
    ∀ j (h : j < M.length), RowL w base (vs[j]'(by omega)).1 M[j].1 ∧ w.ownsRow base 3 1 (vs[j]'(by omega)).2 M[j].2.length (ivals M[j].2)
theorem CRow.nil_ (w : World) (base : Nat) : CRow w base (.slice none 0 0) [] := ⟨[], rfl, World.ownsRow_nil _ _ _ _, fun j hj => by simp at hj⟩
theorem CRow.less {w : World} {base base' : Nat} {out : Value} {M : List FactX} (h : CRow w base out M) (hb : base' ≤ base) : CRow w base' out M := by
  obtain ⟨vs, h1, h2, h3⟩ := h
  exact ⟨vs, h1, own_lessQ h2 hb, fun j hj => ⟨(h3 j hj).1.less hb, own_lessQ (h3 j hj).2 hb⟩⟩
theorem CRow.keepT {w w' : World} {base : Nat} {out : Value} {M : List FactX} (h : CRow w base out M) (k : ∀ e, KeepT e base w w') : CRow w' base out M := by
  obtain ⟨vs, h1, h2, h3⟩ := h
  exact ⟨vs, h1, own_keepT h2 (k _), fun j hj => ⟨(h3 j hj).1.keepT (k _) (k _), own_keepT (h3 j hj).2 (k _)⟩⟩
theorem CRow.on {w w' : World} {base : Nat} {out : Value} {M : List FactX} (h : CRow w base out M) (hb : Below w.heap.size w w') : CRow w' base out M := h.keepT (fun _ => KeepT.of_below hb)
theorem CRow.app {wa w4 : World} {base : Nat} {out v' pv vv : Value} {M : List FactX} {f : FactX} {vs : List (Value × Value)} (h1 : vs.length = M.length) (h2 : wa.ownsRow base 54 2 out M.length (fvs vs))
    (h3 : ∀ j (h : j < M.length), RowL wa base (vs[j]'(by omega)).1 M[j].1 ∧ wa.ownsRow base 3 1 (vs[j]'(by omega)).2 M[j].2.length (ivals M[j].2))
    (hm : RowL wa base pv f.1) (hi : wa.ownsRow base 3 1 vv f.2.length (ivals f.2))
    (ho : w4.ownsRow base 54 2 v' (M.length + 1) (fvs vs ++ fv2 (pv, vv))) (hg : wa.grownBy w4 out.ownBlock) : CRow w4 base v' (M ++ [f]) := by
  have kk : ∀ e, e ≠ 54 → KeepT e base wa w4 := fun e he => KeepT.of_grown hg h2 he
  have hv : ∀ (y z : Value) (x : FactX), RowL wa base y x.1 → wa.ownsRow base 3 1 z x.2.length (ivals x.2) → RowL w4 base y x.1 ∧ w4.ownsRow base 3 1 z x.2.length (ivals x.2) := fun y z x hy hz =>
    ⟨hy.keepT (kk _ (by decide)) (kk _ (by decide)), own_keepT hz (kk _ (by decide))⟩
  refine ⟨vs ++ [(pv, vv)], by simp [h1], by rw [List.length_append, fvs_snoc]; exact ho, fun j hj => ?_⟩
  rcases Nat.lt_or_ge j M.length with hlt | hge
  · have e1 : (vs ++ [(pv, vv)])[j]'(by simp; omega) = vs[j]'(by omega) := List.getElem_append_left (by omega)
    have e2 : (M ++ [f])[j] = M[j] := List.getElem_append_left hlt
    rw [e1, e2]
    exact hv _ _ _ (h3 j hlt).1 (h3 j hlt).2
  · obtain rfl : j = M.length := by rw [List.length_append] at hj; simp at hj; omega
    have e1 : (vs ++ [(pv, vv)])[M.length]'(by simp; omega) = (pv, vv) := by rw [List.getElem_append_right (by omega)]; simp [h1]
    have e2 : (M ++ [f])[M.length] = f := by rw [List.getElem_append_right (by omega)]; simp
    rw [e1, e2]
    exact hv _ _ _ hm hi
theorem own_cells2 {w : World} {base : Nat} {e : TypeId} {sz : Nat} {v : Value} {n : Nat} {xs : List Value} (h : w.ownsRow base e sz v n xs) :
    ∃ A c, v = .slice A n c ∧ n ≤ c ∧ c ≤ maxLen ∧ (0 < n → ∃ g, A = some ⟨g, 0, none⟩ ∧ base ≤ g ∧ g < w.heap.size ∧ (∃ cur, w.heap[g]? = some (.cells cur e (0, 0)) ∧ n * sz ≤ cur.size) ∧ ∀ j, j < n * sz → w.cell? ⟨g, j, none⟩ = xs[j]?) := by
  have hown := h
  obtain ⟨h1, h2⟩ := h
  rcases h2 with ⟨rfl, rfl⟩ | ⟨g, cap, cur, rfl, hbg, hg, hnc, hcm, hcs, htk⟩
  · exact ⟨none, 0, rfl, by omega, by simp [maxLen], fun h => by omega⟩
  · exact ⟨_, cap, rfl, hnc, hcm, fun h0 => ⟨g, rfl, hbg, (hown.lt g rfl).2, ⟨cur, hg, by rw [hcs]; exact Nat.mul_le_mul_right _ hnc⟩, fun j hj => hown.cellAt (g := g) j hj⟩⟩
def FactsIn (M : List FactX) : Prop := ∀ f ∈ M, (∀ p ∈ f.1, ∀ s ∈ p, s.size ≤ maxLen) ∧ ∀ n ∈ f.2, InI64 n
theorem CRow.rows {w : World} {base : Nat} {out : Value} {M : List FactX} (h : CRow w base out M) (hs : FactsIn M) : rdSlice 2 rdFact w w.heap.size [out] M := by
  obtain ⟨vs, h1, h2, h3⟩ := h
  obtain ⟨A, c, rfl, g1, g2, g3⟩ := own_cells2 h2
  refine ⟨A, c, rfl, g1, g2, fun h0 => ?_⟩
  obtain ⟨g, rfl, -, hg, -, hcell⟩ := g3 h0
  refine ⟨g, 0, rfl, hg, fun i x hx => ?_⟩
  have hil := (List.getElem?_eq_some_iff.1 hx).1
  have hxe : M[i] = x := by rw [List.getElem?_eq_getElem hil] at hx; injection hx
  have hrow := (h3 i hil).1
  have hint := (h3 i hil).2
  rw [hxe] at hrow hint
  have hxm : x ∈ M := hxe ▸ List.getElem_mem hil
  refine ⟨fv2 (vs[i]'(by omega)), rfl, fun j u hu => ?_, rfl, hrow.rows (hs x hxm).1, rdInts_of_own rfl hint (hs x hxm).2⟩
  have hj : j < 2 := (List.getElem?_eq_some_iff.1 hu).1
  rw [Nat.zero_add, hcell (i * 2 + j) (by omega), fvs_at i (by omega) j hj, hu]
theorem facts_in {w : World} {B : Nat} {v : Value} {l : List FactX} (h : rdSlice 2 rdFact w B [v] l) : FactsIn l := by
  obtain ⟨A, c, e, -, -⟩ := h.open_
  rw [e] at h
  intro f hf
  obtain ⟨k, hk, rfl⟩ := List.mem_iff_getElem.1 hf
  obtain ⟨b, off, AP, cP, AV, cV, -, -, -, -, r0, r1⟩ := facts_at h hk
  refine ⟨paths_sz r0, fun n hn => ?_⟩
  obtain ⟨j, hj, rfl⟩ := List.mem_iff_getElem.1 hn
  obtain ⟨_, _, _, _, _, hii⟩ := ints_at' r1 hj
  exact hii
theorem keepT_set {e : TypeId} {base b k : Nat} {w : World} {v : Value} (h : b < base) : KeepT e base w (w.setCell ⟨b, k, none⟩ v) := fun g cur hg _ => Below.heap_setCell _ _ _ g (by simp; omega)
end Go.Proofs.YtompjcadhodapaaDoor
