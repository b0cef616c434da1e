/- The laws' few: a query with few of all. -/
import Derived.Test.YtafmdpnfigkbfabQry8
namespace Go.Proofs.Ytafmdpnfigkbfab
open Go.ChangeShapes Go.WideShapes Go.ChangeAt Go.RowKit
set_option linter.unusedVariables false
set_option linter.unusedSimpArgs false

def fewF (f : FilterX) : FilterX := (f.1, f.2.1, cutL f.2.2)
def fewQ (q : QueryX) : QueryX := (q.1.take 6, (q.2.take 5).map fewF)
def fval (f : FilterX) (mv : Value) : List Value := [.int .i64 f.1, .int .i64 f.2.1, mv]
def fvals (M : List FilterX) (mvs : List Value) : List Value := (List.zipWith fval M mvs).flatten
theorem fvals_snoc {M : List FilterX} {mvs : List Value} (h : mvs.length = M.length) (f : FilterX) (mv : Value) : fvals (M ++ [f]) (mvs ++ [mv]) = fvals M mvs ++ fval f mv := by
  unfold fvals; rw [List.zipWith_append (by omega)]; simp
theorem fvals_at : ∀ {M : List FilterX} {mvs : List Value} (h : mvs.length = M.length) (i : Nat) (hi : i < M.length) (j : Nat), j < 3 → (fvals M mvs)[i * 3 + j]? = (fval M[i] (mvs.getD i undef))[j]? := by
  intro M
  induction M with
  | nil => intro mvs h i hi; simp at hi
  | cons f M ih =>
    intro mvs h i hi j hj
    cases mvs with
    | nil => simp at h
    | cons mv mvs =>
      have hs : fvals (f :: M) (mv :: mvs) = fval f mv ++ fvals M mvs := by simp [fvals]
      rw [hs]
      cases i with
      | zero =>
        rw [List.getElem?_append_left (by simp [fval]; omega)]
        simp
      | succ i =>
        rw [List.getElem?_append_right (by simp [fval]; omega)]
        rw [show (i + 1) * 3 + j - (fval f mv).length = i * 3 + j by simp [fval]; omega]
        rw [ih (by simpa using h) i (by simpa using hi) j hj]
        rfl
theorem fvals_len {M : List FilterX} {mvs : List Value} (h : mvs.length = M.length) : (fvals M mvs).length = M.length * 3 := by
  induction M generalizing mvs with
  | nil => simp [fvals]
  | cons f M ih =>
    cases mvs with
    | nil => simp at h
    | cons mv mvs =>
      have hs : fvals (f :: M) (mv :: mvs) = fval f mv ++ fvals M mvs := by simp [fvals]
      rw [hs, List.length_append, ih (by simpa using h)]; simp [fval]; omega
/-- A row of one's own, of filters whose members are rows of one's own. -/
def FRow (w : World) (base B : Nat) (fv : Value) (M : List FilterX) : Prop :=
  ∃ mvs : List Value, mvs.length = M.length ∧ w.ownsRow base 54 3 fv M.length (fvals M mvs) ∧
    ∀ j (h : j < M.length), RowP w base B (mvs.getD j undef) M[j].2.2 ∧ ∀ g, (mvs.getD j undef).ownBlock = some g → fv.ownBlock ≠ some g
theorem FRow.nil_ (w : World) (base B : Nat) : FRow w base B (.slice none 0 0) [] := ⟨[], rfl, World.ownsRow_nil _ _ _ _, fun j hj => by simp at hj⟩
theorem FRow.kept {w w' : World} {base B : Nat} {fv : Value} {M : List FilterX} (h : FRow w base B fv M) (hb : Below B w w') (k : ∀ g, base ≤ g → g < w.heap.size → w'.heap[g]? = w.heap[g]?) : FRow w' base B fv M := by
  obtain ⟨mvs, h1, h2, h3⟩ := h
  exact ⟨mvs, h1, own_kept h2 (fun g hg => k g (h2.lt g hg).1 (h2.lt g hg).2), fun j hj => ⟨(h3 j hj).1.kept hb (fun g hg => k g ((h3 j hj).1.lt g hg).1 ((h3 j hj).1.lt g hg).2), (h3 j hj).2⟩⟩
theorem FRow.app {wa w4 : World} {base B : Nat} {fv v' mv : Value} {M : List FilterX} {f : FilterX} {mvs : List Value} (h1 : mvs.length = M.length)
    (h3 : ∀ j (h : j < M.length), RowP wa base B (mvs.getD j undef) M[j].2.2 ∧ ∀ g, (mvs.getD j undef).ownBlock = some g → fv.ownBlock ≠ some g)
    (hm : RowP wa base B mv f.2.2) (hn : ∀ g, mv.ownBlock = some g → fv.ownBlock ≠ some g) (hb : Below B wa w4)
    (ho : w4.ownsRow base 54 3 v' (M.length + 1) (fvals M mvs ++ fval f mv)) (hg : wa.grownBy w4 fv.ownBlock) (hat : v'.ownBlock = fv.ownBlock ∨ v'.ownBlock = some wa.heap.size) : FRow w4 base B v' (M ++ [f]) := by
  have hv : ∀ (y : Value) (l : List (List ByteArray)), RowP wa base B y l → (∀ g, y.ownBlock = some g → fv.ownBlock ≠ some g) → RowP w4 base B y l ∧ ∀ g, y.ownBlock = some g → v'.ownBlock ≠ some g := fun y l hy hny =>
    ⟨hy.kept hb (fun g hgy => hg.block g (hy.lt g hgy).2 (fun e => hny g hgy e.symm)), fun g hgy e => by
      rcases hat with h | h
      · exact hny g hgy (h ▸ e)
      · rw [h] at e; injection e with e; have := (hy.lt g hgy).2; omega⟩
  refine ⟨mvs ++ [mv], by simp [h1], by rw [List.length_append, fvals_snoc h1]; exact ho, fun j hj => ?_⟩
  rcases Nat.lt_or_ge j M.length with hlt | hge
  · have e1 : (mvs ++ [mv]).getD j undef = mvs.getD j undef := by rw [List.getD_eq_getElem?_getD, List.getElem?_append_left (by omega), ← List.getD_eq_getElem?_getD]
    have e2 : (M ++ [f])[j] = M[j] := List.getElem_append_left hlt
    rw [e1, e2]
    exact hv _ _ (h3 j hlt).1 (h3 j hlt).2
  · obtain rfl : j = M.length := by rw [List.length_append] at hj; simp at hj; omega
    have e1 : (mvs ++ [mv]).getD M.length undef = mv := by rw [List.getD_eq_getElem?_getD, List.getElem?_append_right (by omega), h1, Nat.sub_self]; rfl
    have e2 : (M ++ [f])[M.length] = f := by rw [List.getElem_append_right (by omega)]; simp
    rw [e1, e2]
    exact hv _ _ hm hn
theorem FRow.rows {w : World} {base B N : Nat} {fv : Value} {M : List FilterX} (h : FRow w base B fv M) (hB : B ≤ N) (hN : w.heap.size ≤ N) (hi : ∀ f ∈ M, InI64 f.1 ∧ InI64 f.2.1) : rdSlice 3 rdFilter w N [fv] M ∧ ∃ A c, fv = .slice A M.length c := by
  obtain ⟨mvs, h1, h2, h3⟩ := h
  have hown := h2
  rcases h2.2 with ⟨rfl, e0⟩ | ⟨g, cap, cur, rfl, hb, hg, hnc, hcm, hcs, htk⟩
  · have : M = [] := List.length_eq_zero_iff.1 e0
    subst this
    exact ⟨⟨none, 0, rfl, Nat.le_refl _, by simp [maxLen], fun h => by simp at h⟩, none, 0, rfl⟩
  · refine ⟨⟨_, cap, rfl, hnc, hcm, fun h0 => ⟨g, 0, rfl, by have := (hown.lt g rfl).2; omega, fun i x hx => ?_⟩⟩, _, _, rfl⟩
    have hil := (List.getElem?_eq_some_iff.1 hx).1
    have hxe : M[i] = x := by rw [List.getElem?_eq_getElem hil] at hx; injection hx
    have hrow := (h3 i hil).1
    rw [hxe] at hrow
    refine ⟨fval x (mvs.getD i undef), rfl, fun j u hu => ?_, rfl, ⟨rfl, (hi x (List.mem_of_getElem? hx)).1⟩, rfl, ⟨rfl, (hi x (List.mem_of_getElem? hx)).2⟩, hrow.rows hB hN⟩
    have hj : j < 3 := (List.getElem?_eq_some_iff.1 hu).1
    have hc := hown.cellAt (g := g) (i * 3 + j) (by omega)
    rw [Nat.zero_add, hc, fvals_at h1 i hil j hj, hxe, hu]
end Go.Proofs.Ytafmdpnfigkbfab
