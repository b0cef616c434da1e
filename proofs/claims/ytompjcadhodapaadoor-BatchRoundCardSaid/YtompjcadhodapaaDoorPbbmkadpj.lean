/- 2 texts of this claim, in build order. -/
import Derived.Test.YtompjcadhodapaaDoorPfdpppmce
import Derived.Test.YtompjcadhodapaaDoorPgeihncje
import Derived.Test.YtompjcadhodapaaDoorPgjpeejfi
import Derived.Test.YtompjcadhodapaaDoorPbpgbkbma
/- Rows of one's own, of lists of texts of one's own. -/
namespace Go.Proofs.YtompjcadhodapaaDoor
open Go.ChangeShapes Go.WideShapes Go.ChangeAt Go.RowKit
set_option linter.unusedVariables false
set_option linter.unusedSimpArgs false

theorem info_strsQ : (Tryd.prog.info? 41).map (fun i => (i.zero, i.size, i.bytes)) = some (some (.slice none 0 0), 1, 24) := by kernel_rfl
theorem own_lessQ {w : World} {base base' n : Nat} {e : TypeId} {sz : Nat} {v : Value} {xs : List Value} (h : w.ownsRow base e sz v n xs) (hb : base' ≤ base) : w.ownsRow base' e sz v n xs := by
  obtain ⟨h1, h2⟩ := h
  refine ⟨h1, ?_⟩
  rcases h2 with h2 | ⟨g, cap, cur, rfl, hbg, r⟩
  · exact .inl h2
  · exact .inr ⟨g, cap, cur, rfl, by omega, r⟩
theorem own_stays {w w' : World} {base n : Nat} {e : TypeId} {sz : Nat} {v : Value} {xs : List Value} (h : w.ownsRow base e sz v n xs) (hb : Below w.heap.size w w') : w'.ownsRow base e sz v n xs :=
  own_kept h (fun g hg => hb.block g (h.lt g hg).2)
/-- A row of one's own, of lists of texts of one's own. -/
def RowL (w : World) (base : Nat) (out : Value) (M : List (List ByteArray)) : Prop :=
  ∃ vs : List Value, vs.length = M.length ∧ w.ownsRow base 41 1 out M.length vs ∧
    ∀ j, j < M.length → w.ownsRow base 9 1 (vs.getD j undef) (M.getD j []).length (svals (M.getD j [])) ∧ ∀ g, (vs.getD j undef).ownBlock = some g → out.ownBlock ≠ some g
theorem RowL.nil_ (w : World) (base : Nat) : RowL w base (.slice none 0 0) [] := ⟨[], rfl, World.ownsRow_nil _ _ _ _, fun j hj => by simp at hj⟩
theorem RowL.stays {w w' : World} {base : Nat} {out : Value} {M : List (List ByteArray)} (h : RowL w base out M) (hb : Below w.heap.size w w') : RowL w' base out M := by
  obtain ⟨vs, h1, h2, h3⟩ := h
  exact ⟨vs, h1, own_stays h2 hb, fun j hj => ⟨own_stays (h3 j hj).1 hb, (h3 j hj).2⟩⟩
theorem RowL.less {w : World} {base base' : Nat} {out : Value} {M : List (List ByteArray)} (h : RowL w base out M) (hb : base' ≤ base) : RowL w base' out M := by
  obtain ⟨vs, h1, h2, h3⟩ := h
  exact ⟨vs, h1, own_lessQ h2 hb, fun j hj => ⟨own_lessQ (h3 j hj).1 hb, (h3 j hj).2⟩⟩
/-- One more list is appended; it has come behind the row. -/
theorem RowL.app {w w1 w2 : World} {base : Nat} {out v' u : Value} {M : List (List ByteArray)} {x : List ByteArray} {t : TypeId} {vs : List Value} (hvs : vs.length = M.length) (ho0 : w.ownsRow base 41 1 out M.length vs)
    (h3 : ∀ j, j < M.length → w.ownsRow base 9 1 (vs.getD j undef) (M.getD j []).length (svals (M.getD j [])) ∧ ∀ g, (vs.getD j undef).ownBlock = some g → out.ownBlock ≠ some g)
    (hb : Below w.heap.size w w1) (hu : w1.ownsRow w.heap.size 9 1 u x.length (svals x)) (hbase : base ≤ w.heap.size)
    (ho : w2.ownsRow base 41 1 v' (M.length + 1) (vs ++ [u])) (hg : (w1.alloc (.cells #[u] t)).grownBy w2 out.ownBlock) (hat : v'.ownBlock = out.ownBlock ∨ v'.ownBlock = some (w1.alloc (.cells #[u] t)).heap.size) : RowL w2 base v' (M ++ [x]) := by
  have hsz := hb.size
  have hlast : ∀ g, out.ownBlock = some g → g < w.heap.size := fun g hg' => (ho0.lt g hg').2
  have hkeep : ∀ (y : Value) (l : List Value) (b : Nat), w1.ownsRow b 9 1 y l.length l → (∀ g, y.ownBlock = some g → out.ownBlock ≠ some g) → w2.ownsRow b 9 1 y l.length l := fun y l b hy hn =>
    own_kept (hy.alloc _) (fun g hgy => hg.block g (by have := (hy.lt g hgy).2; simp; omega) (fun e => hn g hgy e.symm))
  refine ⟨vs ++ [u], by simp [hvs], by rw [List.length_append]; exact ho, fun j hj => ?_⟩
  rw [List.length_append] at hj
  rcases Nat.lt_or_ge j M.length with hlt | hge
  · have e1 : (vs ++ [u]).getD j undef = vs.getD j undef := by rw [List.getD_eq_getElem?_getD, List.getElem?_append_left (by omega), ← List.getD_eq_getElem?_getD]
    have e2 : (M ++ [x]).getD j [] = M.getD j [] := by rw [List.getD_eq_getElem?_getD, List.getElem?_append_left hlt, ← List.getD_eq_getElem?_getD]
    rw [e1, e2]
    obtain ⟨k1, k2⟩ := h3 j hlt
    have k1' := own_stays k1 hb
    refine ⟨by have := hkeep _ (svals (M.getD j [])) base (by rw [svals_len]; exact k1') k2; rwa [svals_len] at this, fun g hgy => ?_⟩
    rcases hat with e | e
    · rw [e]; exact k2 g hgy
    · rw [e]; intro h; injection h with h; have := (k1'.lt g hgy).2; rw [World.size_alloc] at h; omega
  · obtain rfl : j = M.length := by simp at hj; omega
    have e1 : (vs ++ [u]).getD M.length undef = u := by rw [List.getD_eq_getElem?_getD, List.getElem?_append_right (by omega), hvs, Nat.sub_self]; rfl
    have e2 : (M ++ [x]).getD M.length [] = x := by rw [List.getD_eq_getElem?_getD, List.getElem?_append_right (by omega), Nat.sub_self]; rfl
    rw [e1, e2]
    have hn : ∀ g, u.ownBlock = some g → out.ownBlock ≠ some g := fun g hgu e => by have := hlast g e; have := (hu.lt g hgu).1; omega
    refine ⟨by have := hkeep _ (svals x) w.heap.size (by rw [svals_len]; exact hu) hn; rw [svals_len] at this; exact own_lessQ this hbase, fun g hgu => ?_⟩
    rcases hat with e | e
    · rw [e]; exact hn g hgu
    · rw [e]; intro h; injection h with h; have := (hu.lt g hgu).2; rw [World.size_alloc] at h; omega
/-- Such a row reads as lists of texts. -/
theorem RowL.rows {w : World} {base : Nat} {out : Value} {M : List (List ByteArray)} (h : RowL w base out M) (hs : ∀ p ∈ M, ∀ s ∈ p, s.size ≤ maxLen) : rdSlice 1 rdStrs w w.heap.size [out] M := by
  obtain ⟨vs, h1, h2, h3⟩ := h
  obtain ⟨A, c, rfl, g1, g2, g3⟩ := own_cells h2
  refine ⟨A, c, rfl, g1, g2, fun h0 => ?_⟩
  obtain ⟨g, rfl, -, hg, -⟩ := g3 h0
  refine ⟨g, 0, rfl, hg, fun i x hx => ?_⟩
  have hil := (List.getElem?_eq_some_iff.1 hx).1
  have hgd : M.getD i [] = x := by rw [List.getD_eq_getElem?_getD, hx]; rfl
  have hc2 := h2.cellAt (g := g) i (by omega)
  refine ⟨[vs.getD i undef], rfl, fun j u hu => ?_, ?_⟩
  · cases j with
    | succ j => simp at hu
    | zero =>
      simp at hu; subst hu
      rw [Nat.mul_one, Nat.add_zero, Nat.zero_add, hc2, List.getElem?_eq_getElem (show i < vs.length by omega)]; rfl
  · have := (h3 i hil).1
    rw [hgd] at this
    exact rdStrs_of_own rfl this (hs x (List.mem_of_getElem? hx))
end Go.Proofs.YtompjcadhodapaaDoor
/- Arguments opened: lists of texts and of numbers, schemas. -/
namespace Go.Proofs.YtompjcadhodapaaDoor
open Go.ChangeShapes Go.WideShapes Go.ChangeAt Go.RowKit Go.Deep
set_option linter.unusedVariables false
set_option linter.unusedSimpArgs false

theorem opens_intsQ : Opens Tryd.prog 52 1 rdInts := opens_slice (e := 3) good_int Tryd.underlying52 (opens_int Tryd.underlying3 (by kernel_rfl)) (by kernel_rfl) (by omega)
theorem opens_pathsQ : Opens Tryd.prog 51 1 (rdSlice 1 rdStrs) := opens_slice (e := 41) good_strs Tryd.underlying51 opens_strsQ (by kernel_rfl) (by omega)
theorem opens_rowsQ : Opens Tryd.prog 62 1 (rdSlice 1 rdInts) := opens_slice (e := 52) good_ints Tryd.underlying62 opens_intsQ (by kernel_rfl) (by omega)
theorem opens_dim : Opens Tryd.prog 60 2 rdDim := by
  refine opens_struct (k := 2) Tryd.underlying60 (by kernel_rfl) ?_
  exact opensF_cons (k2 := 1) (by rfl) (opens_str Tryd.underlying9 (by kernel_rfl)) (opensF_one (by rfl) opens_strsQ)
theorem opens_dims : Opens Tryd.prog 61 1 (rdSlice 2 rdDim) := opens_slice (e := 60) good_dim Tryd.underlying61 opens_dim (by kernel_rfl) (by omega)
theorem opens_schema : Opens Tryd.prog 64 3 rdSchema := by
  refine opens_struct (k := 3) Tryd.underlying64 (by kernel_rfl) ?_
  exact opensF_cons (k2 := 2) (by rfl) opens_dims (opensF_cons (k2 := 1) (by rfl) opens_strsQ (opensF_one (by rfl) opens_rowsQ))
theorem strs_sz {w : World} {B : Nat} {cs : List Value} {p : List ByteArray} (h : rdStrs w B cs p) : ∀ s ∈ p, s.size ≤ maxLen := by
  intro s hs
  obtain ⟨i, hi, rfl⟩ := List.mem_iff_getElem.1 hs
  obtain ⟨A, c, e, -, -⟩ := h.open_
  rw [e] at h
  exact (strs_at h hi).elim fun b h => h.elim fun off h => h.2.2.2
theorem paths_sz {w : World} {B : Nat} {cs : List Value} {l : List (List ByteArray)} (h : rdSlice 1 rdStrs w B cs l) : ∀ p ∈ l, ∀ s ∈ p, s.size ≤ maxLen := by
  intro p hp
  obtain ⟨i, hi, rfl⟩ := List.mem_iff_getElem.1 hp
  obtain ⟨A, c, e, -, -⟩ := h.open_
  rw [e] at h
  obtain ⟨b, off, AM, cM, -, -, -, h3⟩ := paths_at h hi
  exact strs_sz h3
end Go.Proofs.YtompjcadhodapaaDoor
