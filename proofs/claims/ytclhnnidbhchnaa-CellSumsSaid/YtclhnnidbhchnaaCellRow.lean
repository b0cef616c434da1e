/- Lists of cells in memory. -/
import Derived.Test.YtclhnnidbhchnaaCell
import Derived.Test.YtclhnnidbhchnaaCellSumM
import Derived.Laws.IdiomCopy
namespace Go.Proofs.Ytclhnnidbhchnaa
open Go.ChangeShapes Go.WideShapes Go.ChangeAt Go.RowKit
set_option linter.unusedVariables false
set_option linter.unusedSimpArgs false

/-- A cell as it lies in memory. -/
abbrev E4 := Int × Value × Value × Value
def e4 (x : E4) : List Value := [.int .i64 x.1, x.2.1, x.2.2.1, x.2.2.2]
def z4 : E4 := (0, .slice none 0 0, .slice none 0 0, .slice none 0 0)
/-- The cells of the elements, four each. -/
def At4 (w : World) (b off k : Nat) (x : E4) : Prop :=
  w.cell? ⟨b, off + k * 4, none⟩ = some (.int .i64 x.1) ∧ w.cell? ⟨b, off + k * 4 + 1, none⟩ = some x.2.1 ∧ w.cell? ⟨b, off + k * 4 + 2, none⟩ = some x.2.2.1 ∧ w.cell? ⟨b, off + k * 4 + 3, none⟩ = some x.2.2.2
theorem At4.of_block {w w' : World} {b off k : Nat} {x : E4} (h : At4 w b off k x) (hb : w'.heap[b]? = w.heap[b]?) : At4 w' b off k x :=
  ⟨(World.cell?_of_block (a := ⟨b, off + k * 4, none⟩) hb).trans h.1, (World.cell?_of_block (a := ⟨b, off + k * 4 + 1, none⟩) hb).trans h.2.1, (World.cell?_of_block (a := ⟨b, off + k * 4 + 2, none⟩) hb).trans h.2.2.1, (World.cell?_of_block (a := ⟨b, off + k * 4 + 3, none⟩) hb).trans h.2.2.2⟩
/-- A list of cells that is read: where its elements lie, and what they read as. -/
def RowC (w : World) (B : Nat) (v : Value) (L : List CellM) : Prop :=
  ∃ (A : Option Addr) (c : Nat) (es : List E4), v = .slice A L.length c ∧ es.length = L.length ∧ L.length ≤ c ∧ c ≤ maxLen ∧
    (0 < L.length → ∃ b off, A = some ⟨b, off, none⟩ ∧ b < B ∧ ∀ k, k < L.length → At4 w b off k (es.getD k z4)) ∧
    ∀ k, k < L.length → CellR w B (.agg #[.int .i64 (es.getD k z4).1, (es.getD k z4).2.1, (es.getD k z4).2.2.1, (es.getD k z4).2.2.2]) (L.getD k nilC)
theorem RowC.below {w w' : World} {B : Nat} {v : Value} {L : List CellM} (h : RowC w B v L) (hb : Below B w w') : RowC w' B v L := by
  obtain ⟨A, c, es, h1, h2, h3, h4, h5, h6⟩ := h
  refine ⟨A, c, es, h1, h2, h3, h4, fun h0 => ?_, fun k hk => (h6 k hk).below hb⟩
  obtain ⟨b, off, e, hlt, hc⟩ := h5 h0
  exact ⟨b, off, e, hlt, fun k hk => (hc k hk).of_block (hb.block b hlt)⟩
theorem RowC.more {w : World} {B B' : Nat} {v : Value} {L : List CellM} (h : RowC w B v L) (hB : B ≤ B') : RowC w B' v L := by
  obtain ⟨A, c, es, h1, h2, h3, h4, h5, h6⟩ := h
  refine ⟨A, c, es, h1, h2, h3, h4, fun h0 => ?_, fun k hk => (h6 k hk).more hB⟩
  obtain ⟨b, off, e, hlt, hc⟩ := h5 h0
  exact ⟨b, off, e, by omega, hc⟩
theorem RowC.on {w w' : World} {v : Value} {L : List CellM} (h : RowC w w.heap.size v L) (hb : Below w.heap.size w w') : RowC w' w'.heap.size v L := (h.below hb).more hb.size
/-! ### As values side by side -/
def flat4 (es : List E4) : List Value := es.flatMap e4
theorem flat4_len (es : List E4) : (flat4 es).length = es.length * 4 := by
  unfold flat4
  induction es with
  | nil => rfl
  | cons x es ih => rw [List.flatMap_cons, List.length_append, ih]; simp [e4]; omega
theorem flat4_at : ∀ {es : List E4} {k j : Nat}, k < es.length → j < 4 → (flat4 es)[k * 4 + j]? = (e4 (es.getD k z4))[j]? := by
  intro es
  induction es with
  | nil => intro k j hk; simp at hk
  | cons x es ih =>
    intro k j hk hj
    unfold flat4
    rw [List.flatMap_cons]
    cases k with
    | zero => rw [List.getElem?_append_left (by simp [e4]; omega)]; simp
    | succ k =>
      rw [List.getElem?_append_right (by simp [e4]; omega), show (k + 1) * 4 + j - (e4 x).length = k * 4 + j by simp [e4]; omega]
      have := ih (k := k) (j := j) (by simpa using hk) hj
      unfold flat4 at this
      rw [this]
      simp
theorem At4.val {w : World} {b off k : Nat} {x : E4} (h : At4 w b off k x) {j : Nat} {u : Value} (hu : (e4 x)[j]? = some u) : w.cell? ⟨b, off + k * 4 + j, none⟩ = some u := by
  have hj : j < 4 := (List.getElem?_eq_some_iff.1 hu).1
  rcases j with _ | _ | _ | _ | j
  · simp [e4] at hu; subst hu; exact h.1
  · simp [e4] at hu; subst hu; exact h.2.1
  · simp [e4] at hu; subst hu; exact h.2.2.1
  · simp [e4] at hu; subst hu; exact h.2.2.2
  · omega
/-- Elements that lie side by side, as one list of values. -/
theorem flat4_cells {w : World} {b off : Nat} {es : List E4} (h : ∀ k, k < es.length → At4 w b off k (es.getD k z4)) : ∀ j u, (flat4 es)[j]? = some u → w.cell? ⟨b, off + j, none⟩ = some u := by
  intro j u hu
  have hj := (List.getElem?_eq_some_iff.1 hu).1
  rw [flat4_len] at hj
  have e : j = j / 4 * 4 + j % 4 := by omega
  rw [e] at hu
  rw [flat4_at (by omega) (by omega)] at hu
  have := (h (j / 4) (by omega)).val hu
  rw [e, ← Nat.add_assoc]
  exact this
theorem flat4_back {w : World} {b off : Nat} {es : List E4} (h : ∀ j, j < es.length * 4 → w.cell? ⟨b, off + j, none⟩ = (flat4 es)[j]?) : ∀ k, k < es.length → At4 w b off k (es.getD k z4) := by
  intro k hk
  have q : ∀ j, j < 4 → w.cell? ⟨b, off + k * 4 + j, none⟩ = (e4 (es.getD k z4))[j]? := fun j hj => by
    rw [← flat4_at hk hj, Nat.add_assoc]
    exact h _ (by omega)
  exact ⟨q 0 (by omega), q 1 (by omega), q 2 (by omega), q 3 (by omega)⟩
end Go.Proofs.Ytclhnnidbhchnaa
