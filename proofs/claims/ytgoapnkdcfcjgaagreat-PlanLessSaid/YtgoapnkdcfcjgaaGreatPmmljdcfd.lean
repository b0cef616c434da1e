/- 9 texts of this claim, in build order. -/
import Derived.Test.YtgoapnkdcfcjgaaGreatPkohgbcdn
import Derived.Test.YtgoapnkdcfcjgaaGreatPacmmcljk
import Derived.Test.YtgoapnkdcfcjgaaGreatPlhikkigo
import Derived.Test.YtgoapnkdcfcjgaaGreatPhmffdnbn
/- Rows of one's own, of lists of texts of one's own. -/
namespace Go.Proofs.YtgoapnkdcfcjgaaGreat
open Go.ChangeShapes Go.WideShapes Go.ChangeAt Go.RowKit
set_option linter.unusedVariables false
set_option linter.unusedSimpArgs false

theorem own_lessQ {w : World} {base base' n : Nat} {e : TypeId} {sz : Nat} {v : Value} {xs : List Value} (h : w.ownsRow base e sz v n xs) (hb : base' ≤ base) : w.ownsRow base' e sz v n xs := by
  obtain ⟨h1, h2⟩ := h
  refine ⟨h1, ?_⟩
  rcases h2 with h2 | ⟨g, cap, cur, rfl, hbg, r⟩
  · exact .inl h2
  · exact .inr ⟨g, cap, cur, rfl, by omega, r⟩
theorem own_stays {w w' : World} {base n : Nat} {e : TypeId} {sz : Nat} {v : Value} {xs : List Value} (h : w.ownsRow base e sz v n xs) (hb : Below w.heap.size w w') : w'.ownsRow base e sz v n xs :=
  own_kept h (fun g hg => hb.block g (h.lt g hg).2)
/-- A row of one's own, of lists of texts of one's own. -/
def RowL (w : World) (base : Nat) (out : Value) (M : List (List ByteArray)) : Prop :=
  ∃ vs : List Value, vs.length = M.length ∧ w.ownsRow base 23 1 out M.length vs ∧
    ∀ j, j < M.length → w.ownsRow base 9 1 (vs.getD j undef) (M.getD j []).length (svals (M.getD j [])) ∧ ∀ g, (vs.getD j undef).ownBlock = some g → out.ownBlock ≠ some g
theorem RowL.nil_ (w : World) (base : Nat) : RowL w base (.slice none 0 0) [] := ⟨[], rfl, World.ownsRow_nil _ _ _ _, fun j hj => by simp at hj⟩
theorem RowL.stays {w w' : World} {base : Nat} {out : Value} {M : List (List ByteArray)} (h : RowL w base out M) (hb : Below w.heap.size w w') : RowL w' base out M := by
  obtain ⟨vs, h1, h2, h3⟩ := h
  exact ⟨vs, h1, own_stays h2 hb, fun j hj => ⟨own_stays (h3 j hj).1 hb, (h3 j hj).2⟩⟩
theorem RowL.less {w : World} {base base' : Nat} {out : Value} {M : List (List ByteArray)} (h : RowL w base out M) (hb : base' ≤ base) : RowL w base' out M := by
  obtain ⟨vs, h1, h2, h3⟩ := h
  exact ⟨vs, h1, own_lessQ h2 hb, fun j hj => ⟨own_lessQ (h3 j hj).1 hb, (h3 j hj).2⟩⟩
/-- One more list is appended; it has come behind the row. -/
theorem RowL.app {w w1 w2 : World} {base : Nat} {out v' u : Value} {M : List (List ByteArray)} {x : List ByteArray} {t : TypeId} {vs : List Value} (hvs : vs.length = M.length) (ho0 : w.ownsRow base 23 1 out M.length vs)
    (h3 : ∀ j, j < M.length → w.ownsRow base 9 1 (vs.getD j undef) (M.getD j []).length (svals (M.getD j [])) ∧ ∀ g, (vs.getD j undef).ownBlock = some g → out.ownBlock ≠ some g)
    (hb : Below w.heap.size w w1) (hu : w1.ownsRow w.heap.size 9 1 u x.length (svals x)) (hbase : base ≤ w.heap.size)
    (ho : w2.ownsRow base 23 1 v' (M.length + 1) (vs ++ [u])) (hg : (w1.alloc (.cells #[u] t)).grownBy w2 out.ownBlock) (hat : v'.ownBlock = out.ownBlock ∨ v'.ownBlock = some (w1.alloc (.cells #[u] t)).heap.size) : RowL w2 base v' (M ++ [x]) := by
  have hsz := hb.size
  have hlast : ∀ g, out.ownBlock = some g → g < w.heap.size := fun g hg' => (ho0.lt g hg').2
  have hkeep : ∀ (y : Value) (l : List Value) (b : Nat), w1.ownsRow b 9 1 y l.length l → (∀ g, y.ownBlock = some g → out.ownBlock ≠ some g) → w2.ownsRow b 9 1 y l.length l := fun y l b hy hn =>
    own_kept (hy.alloc _) (fun g hgy => hg.block g (by have := (hy.lt g hgy).2; simp; omega) (fun e => hn g hgy e.symm))
  refine ⟨vs ++ [u], by simp [hvs], by rw [List.length_append]; exact ho, fun j hj => ?_⟩
  rw [List.length_append] at hj
  rcases Nat.lt_or_ge j M.length with hlt | hge
  · have e1 : (vs ++ [u]).getD j undef = vs.getD j undef := by rw [List.getD_eq_getElem?_getD, List.getElem?_append_left (by omega), ← List.getD_eq_getElem?_getD]
    have e2 : (M ++ [x]).getD j [] = M.getD j [] := by rw [List.getD_eq_getElem?_getD, List.getElem?_append_left hlt, ← List.getD_eq_getElem?_getD]
    rw [e1, e2]
    obtain ⟨k1, k2⟩ := h3 j hlt
    have k1' := own_stays k1 hb
    refine ⟨by have := hkeep _ (svals (M.getD j [])) base (by rw [svals_len]; exact k1') k2; rwa [svals_len] at this, fun g hgy => ?_⟩
    rcases hat with e | e
    · rw [e]; exact k2 g hgy
    · rw [e]; intro h; injection h with h; have := (k1'.lt g hgy).2; rw [World.size_alloc] at h; omega
  · obtain rfl : j = M.length := by simp at hj; omega
    have e1 : (vs ++ [u]).getD M.length undef = u := by rw [List.getD_eq_getElem?_getD, List.getElem?_append_right (by omega), hvs, Nat.sub_self]; rfl
    have e2 : (M ++ [x]).getD M.length [] = x := by rw [List.getD_eq_getElem?_getD, List.getElem?_append_right (by omega), Nat.sub_self]; rfl
    rw [e1, e2]
    have hn : ∀ g, u.ownBlock = some g → out.ownBlock ≠ some g := fun g hgu e => by have := hlast g e; have := (hu.lt g hgu).1; omega
    refine ⟨by have := hkeep _ (svals x) w.heap.size (by rw [svals_len]; exact hu) hn; rw [svals_len] at this; exact own_lessQ this hbase, fun g hgu => ?_⟩
    rcases hat with e | e
    · rw [e]; exact hn g hgu
    · rw [e]; intro h; injection h with h; have := (hu.lt g hgu).2; rw [World.size_alloc] at h; omega
/-- Such a row reads as lists of texts. -/
theorem RowL.rows {w : World} {base : Nat} {out : Value} {M : List (List ByteArray)} (h : RowL w base out M) (hs : ∀ p ∈ M, ∀ s ∈ p, s.size ≤ maxLen) : rdSlice 1 rdStrs w w.heap.size [out] M := by
  obtain ⟨vs, h1, h2, h3⟩ := h
  obtain ⟨A, c, rfl, g1, g2, g3⟩ := own_cells h2
  refine ⟨A, c, rfl, g1, g2, fun h0 => ?_⟩
  obtain ⟨g, rfl, -, hg, -⟩ := g3 h0
  refine ⟨g, 0, rfl, hg, fun i x hx => ?_⟩
  have hil := (List.getElem?_eq_some_iff.1 hx).1
  have hgd : M.getD i [] = x := by rw [List.getD_eq_getElem?_getD, hx]; rfl
  have hc2 := h2.cellAt (g := g) i (by omega)
  refine ⟨[vs.getD i undef], rfl, fun j u hu => ?_, ?_⟩
  · cases j with
    | succ j => simp at hu
    | zero =>
      simp at hu; subst hu
      rw [Nat.mul_one, Nat.add_zero, Nat.zero_add, hc2, List.getElem?_eq_getElem (show i < vs.length by omega)]; rfl
  · have := (h3 i hil).1
    rw [hgd] at this
    exact rdStrs_of_own rfl this (hs x (List.mem_of_getElem? hx))
theorem own_formB {w : World} {base n : Nat} {e : TypeId} {sz : Nat} {v : Value} {xs : List Value} (h : w.ownsRow base e sz v n xs) : ∃ A c, v = .slice A n c := by
  rcases h.2 with ⟨rfl, rfl⟩ | ⟨g, cap, cur, rfl, _⟩
  · exact ⟨none, 0, rfl⟩
  · exact ⟨_, _, rfl⟩
end Go.Proofs.YtgoapnkdcfcjgaaGreat
/- Blocks of one type that stay: rows of one's own, told apart by their types. -/
namespace Go.Proofs.YtgoapnkdcfcjgaaGreat
open Go.ChangeShapes Go.WideShapes Go.ChangeAt Go.RowKit
set_option linter.unusedVariables false
set_option linter.unusedSimpArgs false

/-- Blocks of this type stay, from base on. -/
def KeepT (e : TypeId) (base : Nat) (w w' : World) : Prop := ∀ g cur, base ≤ g → w.heap[g]? = some (.cells cur e (0, 0)) → w'.heap[g]? = w.heap[g]?
theorem KeepT.of_below {e : TypeId} {base : Nat} {w w' : World} (h : Below w.heap.size w w') : KeepT e base w w' := fun g cur hb hg => h.block g (Array.getElem?_eq_some_iff.1 hg).1
theorem KeepT.of_chg {e : TypeId} {base : Nat} {D : Nat → Prop} {w w' : World} (h : Chg D w w') (hD : ∀ g, D g → g < base) : KeepT e base w w' := fun g cur hb hg => h.block g (Array.getElem?_eq_some_iff.1 hg).1 (fun hd => by have := hD g hd; omega)
theorem own_keepT {w w' : World} {base n : Nat} {e : TypeId} {sz : Nat} {v : Value} {xs : List Value} (h : w.ownsRow base e sz v n xs) (k : KeepT e base w w') : w'.ownsRow base e sz v n xs := by
  obtain ⟨h1, h2⟩ := h
  refine ⟨h1, ?_⟩
  rcases h2 with h2 | ⟨g, cap, cur, rfl, hbg, hg, r⟩
  · exact .inl h2
  · exact .inr ⟨g, cap, cur, rfl, hbg, (k g cur hbg hg).trans hg, r⟩
theorem KeepT.of_grown {w w' : World} {base base' n : Nat} {e e' : TypeId} {sz : Nat} {v : Value} {xs : List Value} (hg : w.grownBy w' v.ownBlock) (h : w.ownsRow base' e' sz v n xs) (hne : e ≠ e') : KeepT e base w w' := by
  intro g cur hb hgg
  refine hg.block g (Array.getElem?_eq_some_iff.1 hgg).1 (fun e1 => ?_)
  rcases h.2 with ⟨rfl, _⟩ | ⟨g', cap, cur', rfl, hbg, hg', _⟩
  · cases e1
  · simp only [Value.ownBlock, Option.some.injEq] at e1
    subst e1
    rw [hgg] at hg'
    injection hg' with hg'
    injection hg' with _ h2 _
    exact hne h2
theorem RowL.keepT {w w' : World} {base : Nat} {out : Value} {M : List (List ByteArray)} (h : RowL w base out M) (k1 : KeepT 23 base w w') (k2 : KeepT 9 base w w') : RowL w' base out M := by
  obtain ⟨vs, h1, h2, h3⟩ := h
  exact ⟨vs, h1, own_keepT h2 k1, fun j hj => ⟨own_keepT (h3 j hj).1 k2, (h3 j hj).2⟩⟩
theorem own_cells2 {w : World} {base : Nat} {e : TypeId} {sz : Nat} {v : Value} {n : Nat} {xs : List Value} (h : w.ownsRow base e sz v n xs) :
    ∃ A c, v = .slice A n c ∧ n ≤ c ∧ c ≤ maxLen ∧ (0 < n → ∃ g, A = some ⟨g, 0, none⟩ ∧ base ≤ g ∧ g < w.heap.size ∧ (∃ cur, w.heap[g]? = some (.cells cur e (0, 0)) ∧ n * sz ≤ cur.size) ∧ ∀ j, j < n * sz → w.cell? ⟨g, j, none⟩ = xs[j]?) := by
  have hown := h
  obtain ⟨h1, h2⟩ := h
  rcases h2 with ⟨rfl, rfl⟩ | ⟨g, cap, cur, rfl, hbg, hg, hnc, hcm, hcs, htk⟩
  · exact ⟨none, 0, rfl, by omega, by simp [maxLen], fun h => by omega⟩
  · exact ⟨_, cap, rfl, hnc, hcm, fun h0 => ⟨g, rfl, hbg, (hown.lt g rfl).2, ⟨cur, hg, by rw [hcs]; exact Nat.mul_le_mul_right _ hnc⟩, fun j hj => hown.cellAt (g := g) j hj⟩⟩
theorem keepT_set {e : TypeId} {base b k : Nat} {w : World} {v : Value} (h : b < base) : KeepT e base w (w.setCell ⟨b, k, none⟩ v) := fun g cur hg _ => Below.heap_setCell _ _ _ g (by simp; omega)
end Go.Proofs.YtgoapnkdcfcjgaaGreat
/- A row's element at a place; all of a row. -/
namespace Go.Proofs.YtgoapnkdcfcjgaaGreat
open Go.ChangeShapes Go.WideShapes Go.ChangeAt Go.RowKit
set_option linter.unusedVariables false

theorem paths_at {w : World} {B : Nat} {A : Option Addr} {n c : Nat} {l : List (List ByteArray)} (h : rdSlice 1 rdStrs w B [.slice A n c] l) {k : Nat} (hk : k < l.length) :
    ∃ b off AM cM, A = some ⟨b, off, none⟩ ∧ b < B ∧ w.cell? ⟨b, off + k, none⟩ = some (.slice AM l[k].length cM) ∧ rdStrs w B [.slice AM l[k].length cM] l[k] := by
  obtain ⟨b, off, rfl, hb, es, hel, hcell, h3⟩ := h.at_ hk
  obtain ⟨AM, cM, rfl, -, -⟩ := h3.open_
  have := hcell 0 _ rfl
  rw [Nat.mul_one, Nat.add_zero] at this
  exact ⟨b, off, AM, cM, rfl, hb, this, h3⟩
theorem all_no {α : Type} {p : α → Bool} {l : List α} {k : Nat} (h : k < l.length) (hn : p l[k] = false) : l.all p = false := List.all_eq_false.2 ⟨_, List.getElem_mem h, by rw [hn]; simp⟩
theorem all_yes {α : Type} {p : α → Bool} {l : List α} (h : ∀ j (h : j < l.length), p l[j] = true) : l.all p = true := List.all_eq_true.2 (fun x hx => by
  obtain ⟨j, hj, rfl⟩ := List.mem_iff_getElem.1 hx
  exact h j hj)
theorem strs_len {w : World} {B : Nat} {v : Value} {p : List ByteArray} (h : rdStrs w B [v] p) : p.length ≤ 9223372036854775807 := by
  obtain ⟨A, c, -, h1, h2⟩ := h.open_
  omega
theorem cut_ways {α : Type} {k m : Nat} {R : Rd α} {w : World} {B : Nat} {A : Option Addr} {c : Nat} {l : List α} (h : rdSlice k R w B [.slice A l.length c] l) :
    ∃ n : Nat, n = (l.take m).length ∧ rdSlice k R w B [.slice A n c] (l.take m) ∧ (((m : Int) < (l.length : Int) ∧ m ≤ l.length ∧ n = m) ∨ (¬ (m : Int) < (l.length : Int) ∧ n = l.length)) := by
  by_cases hm : m < l.length
  · exact ⟨m, by rw [List.length_take]; omega, h.head_ (by omega), .inl ⟨by omega, by omega, rfl⟩⟩
  · exact ⟨l.length, by rw [List.length_take]; omega, by rw [List.take_of_length_le (by omega)]; exact h, .inr ⟨by omega, rfl⟩⟩
theorem dim_at {w : World} {B : Nat} {A : Option Addr} {n c : Nat} {l : List DimX} (h : rdSlice 2 rdDim w B [.slice A n c] l) {k : Nat} (hk : k < l.length) :
    ∃ b off AL cL, A = some ⟨b, off, none⟩ ∧ b < B ∧ w.cell? ⟨b, off + k * 2, none⟩ = some (.string l[k].1) ∧ w.cell? ⟨b, off + k * 2 + 1, none⟩ = some (.slice AL l[k].2.length cL) ∧ rdStrs w B [.slice AL l[k].2.length cL] l[k].2 ∧ l[k].1.size ≤ maxLen := by
  obtain ⟨b, off, rfl, hb, es, hel, hcell, hl1, ⟨ex, hsz⟩, hlv⟩ := h.at_ hk
  obtain ⟨AL, cL, eL, -, -⟩ := hlv.open_
  obtain rfl : es = [.string l[k].1, .slice AL l[k].2.length cL] := by
    rw [← List.take_append_drop 1 es, ex, eL]; rfl
  exact ⟨b, off, AL, cL, rfl, hb, hcell 0 _ rfl, hcell 1 _ rfl, hlv, hsz⟩
theorem rows_at {w : World} {B : Nat} {A : Option Addr} {n c : Nat} {l : List (List Int)} (h : rdSlice 1 rdInts w B [.slice A n c] l) {k : Nat} (hk : k < l.length) :
    ∃ b off AM cM, A = some ⟨b, off, none⟩ ∧ b < B ∧ w.cell? ⟨b, off + k, none⟩ = some (.slice AM l[k].length cM) ∧ rdInts w B [.slice AM l[k].length cM] l[k] := by
  obtain ⟨b, off, rfl, hb, es, hel, hcell, h3⟩ := h.at_ hk
  obtain ⟨AM, cM, rfl, -, -⟩ := h3.open_
  have := hcell 0 _ rfl
  rw [Nat.mul_one, Nat.add_zero] at this
  exact ⟨b, off, AM, cM, rfl, hb, this, h3⟩
end Go.Proofs.YtgoapnkdcfcjgaaGreat
/- Arguments opened: lists of texts. -/
namespace Go.Proofs.YtgoapnkdcfcjgaaGreat
open Go.ChangeShapes Go.WideShapes Go.ChangeAt Go.RowKit Go.Deep
set_option linter.unusedVariables false
set_option linter.unusedSimpArgs false

theorem opens_strsQ : Opens Tryz.prog 23 1 rdStrs := opens_slice (e := 9) good_str Tryz.underlying23 (opens_str Tryz.underlying9 (by kernel_rfl)) (by kernel_rfl) (by omega)
end Go.Proofs.YtgoapnkdcfcjgaaGreat
/- Arguments opened: lists of numbers, of lists of texts. -/
namespace Go.Proofs.YtgoapnkdcfcjgaaGreat
open Go.ChangeShapes Go.WideShapes Go.ChangeAt Go.RowKit Go.Deep
set_option linter.unusedVariables false
set_option linter.unusedSimpArgs false

theorem opens_intsQ : Opens Tryz.prog 27 1 rdInts := opens_slice (e := 3) good_int Tryz.underlying27 (opens_int Tryz.underlying3 (by kernel_rfl)) (by kernel_rfl) (by omega)
theorem opens_pathsQ : Opens Tryz.prog 58 1 (rdSlice 1 rdStrs) := opens_slice (e := 23) good_strs Tryz.underlying58 opens_strsQ (by kernel_rfl) (by omega)
end Go.Proofs.YtgoapnkdcfcjgaaGreat
/- Rows of one's own, of facts that are one's own through and through. -/
namespace Go.Proofs.YtgoapnkdcfcjgaaGreat
open Go.ChangeShapes Go.WideShapes Go.ChangeAt Go.RowKit
set_option linter.unusedVariables false
set_option linter.unusedSimpArgs false

end Go.Proofs.YtgoapnkdcfcjgaaGreat
/- Rows of lists of numbers of one's own; the shape of a thing that may be written over (blocks told apart by their types). -/
namespace Go.Proofs.YtgoapnkdcfcjgaaGreat
open Go.ChangeShapes Go.WideShapes Go.ChangeAt Go.RowKit
set_option linter.unusedVariables false
set_option linter.unusedSimpArgs false

/-- A row of one's own, of lists of numbers of one's own. -/
def RowI (w : World) (base : Nat) (out : Value) (M : List (List Int)) : Prop :=
  ∃ vs : List Value, ∃ hl : vs.length = M.length, w.ownsRow base 27 1 out M.length vs ∧
    ∀ j (h : j < M.length), w.ownsRow base 3 1 (vs[j]'(by omega)) M[j].length (ivals M[j])
theorem RowI.nil_ (w : World) (base : Nat) : RowI w base (.slice none 0 0) [] := ⟨[], rfl, World.ownsRow_nil _ _ _ _, fun j hj => by simp at hj⟩
theorem RowI.less {w : World} {base base' : Nat} {out : Value} {M : List (List Int)} (h : RowI w base out M) (hb : base' ≤ base) : RowI w base' out M := by
  obtain ⟨vs, h1, h2, h3⟩ := h
  exact ⟨vs, h1, own_lessQ h2 hb, fun j hj => own_lessQ (h3 j hj) hb⟩
theorem RowI.keepT {w w' : World} {base : Nat} {out : Value} {M : List (List Int)} (h : RowI w base out M) (k : ∀ e, KeepT e base w w') : RowI w' base out M := by
  obtain ⟨vs, h1, h2, h3⟩ := h
  exact ⟨vs, h1, own_keepT h2 (k _), fun j hj => own_keepT (h3 j hj) (k _)⟩
theorem RowI.on {w w' : World} {base : Nat} {out : Value} {M : List (List Int)} (h : RowI w base out M) (hb : Below w.heap.size w w') : RowI w' base out M := h.keepT (fun _ => KeepT.of_below hb)
theorem RowI.app {wa w4 : World} {base : Nat} {out v' u : Value} {M : List (List Int)} {x : List Int} {vs : List Value} (h1 : vs.length = M.length) (h2 : wa.ownsRow base 27 1 out M.length vs)
    (h3 : ∀ j (h : j < M.length), wa.ownsRow base 3 1 (vs[j]'(by omega)) M[j].length (ivals M[j]))
    (hi : wa.ownsRow base 3 1 u x.length (ivals x))
    (ho : w4.ownsRow base 27 1 v' (M.length + 1) (vs ++ [u])) (hg : wa.grownBy w4 out.ownBlock) : RowI w4 base v' (M ++ [x]) := by
  have kk : KeepT 3 base wa w4 := KeepT.of_grown hg h2 (by decide)
  refine ⟨vs ++ [u], by simp [h1], by rw [List.length_append]; exact ho, fun j hj => ?_⟩
  rcases Nat.lt_or_ge j M.length with hlt | hge
  · have e1 : (vs ++ [u])[j]'(by simp; omega) = vs[j]'(by omega) := List.getElem_append_left (by omega)
    have e2 : (M ++ [x])[j] = M[j] := List.getElem_append_left hlt
    rw [e1, e2]
    exact own_keepT (h3 j hlt) kk
  · obtain rfl : j = M.length := by rw [List.length_append] at hj; simp at hj; omega
    have e1 : (vs ++ [u])[M.length]'(by simp; omega) = u := by rw [List.getElem_append_right (by omega)]; simp [h1]
    have e2 : (M ++ [x])[M.length] = x := by rw [List.getElem_append_right (by omega)]; simp
    rw [e1, e2]
    exact own_keepT hi kk
theorem RowI.rows {w : World} {base : Nat} {out : Value} {M : List (List Int)} (h : RowI w base out M) (hs : ∀ l ∈ M, ∀ n ∈ l, InI64 n) : rdSlice 1 rdInts w w.heap.size [out] M := by
  obtain ⟨vs, h1, h2, h3⟩ := h
  obtain ⟨A, c, rfl, g1, g2, g3⟩ := own_cells2 h2
  refine ⟨A, c, rfl, g1, g2, fun h0 => ?_⟩
  obtain ⟨g, rfl, -, hg, -, hcell⟩ := g3 h0
  refine ⟨g, 0, rfl, hg, fun i x hx => ?_⟩
  have hil := (List.getElem?_eq_some_iff.1 hx).1
  have hxe : M[i] = x := by rw [List.getElem?_eq_getElem hil] at hx; injection hx
  have hint := h3 i hil
  rw [hxe] at hint
  refine ⟨[vs[i]'(by omega)], rfl, fun j u hu => ?_, rdInts_of_own rfl hint (hs x (hxe ▸ List.getElem_mem hil))⟩
  have hj : j < 1 := (List.getElem?_eq_some_iff.1 hu).1
  obtain rfl : j = 0 := by omega
  simp at hu
  rw [Nat.zero_add, Nat.mul_one, Nat.add_zero, hcell i (by omega), List.getElem?_eq_getElem (by omega), hu]
/-! ### Shapes -/
end Go.Proofs.YtgoapnkdcfcjgaaGreat
/- Rows of one's own, of dimensions (a name, its levels) of one's own; a schema of one's own. -/
namespace Go.Proofs.YtgoapnkdcfcjgaaGreat
open Go.ChangeShapes Go.WideShapes Go.ChangeAt Go.RowKit
set_option linter.unusedVariables false
set_option linter.unusedSimpArgs false

theorem cells_new_atV (w : World) (vs : Array Value) (t : TypeId) {N : Nat} (hN : w.heap.size = N) : ∀ j u, vs.toList[j]? = some u → (w.alloc (.cells vs t)).cell? ((⟨N, 0, none⟩ : Addr).add j) = some u := by
  subst hN
  intro j u hu
  have e : (⟨w.heap.size, 0, none⟩ : Addr).add j = ⟨w.heap.size, j, none⟩ := by unfold Addr.add; split <;> simp_all
  rw [e, World.cell?_alloc_at _ _ _ _ rfl]
  simpa using hu
theorem info_dim : (Tryz.prog.info? 54).map (fun i => (i.zero, i.size, i.bytes)) = some (some (.agg #[.string ByteArray.empty, .slice none 0 0]), 2, 40) := by kernel_rfl
def dim2 (x : DimX × Value) : List Value := [.string x.1.1, x.2]
def DRow (w : World) (base : Nat) (out : Value) (M : List DimX) : Prop :=
  ∃ es : List (DimX × Value), es.map Prod.fst = M ∧ w.ownsRow base 54 2 out M.length (es.flatMap dim2) ∧ ∀ x ∈ es, w.ownsRow base 9 1 x.2 x.1.2.length (svals x.1.2)
theorem DRow.nil_ (w : World) (base : Nat) : DRow w base (.slice none 0 0) [] := ⟨[], rfl, World.ownsRow_nil _ _ _ _, fun x hx => by cases hx⟩
theorem DRow.less {w : World} {base base' : Nat} {out : Value} {M : List DimX} (h : DRow w base out M) (hb : base' ≤ base) : DRow w base' out M := by
  obtain ⟨es, h1, h2, h3⟩ := h
  exact ⟨es, h1, own_lessQ h2 hb, fun x hx => own_lessQ (h3 x hx) hb⟩
theorem DRow.keepT {w w' : World} {base : Nat} {out : Value} {M : List DimX} (h : DRow w base out M) (k1 : KeepT 54 base w w') (k2 : KeepT 9 base w w') : DRow w' base out M := by
  obtain ⟨es, h1, h2, h3⟩ := h
  exact ⟨es, h1, own_keepT h2 k1, fun x hx => own_keepT (h3 x hx) k2⟩
theorem DRow.on {w w' : World} {base : Nat} {out : Value} {M : List DimX} (h : DRow w base out M) (hb : Below w.heap.size w w') : DRow w' base out M := h.keepT (KeepT.of_below hb) (KeepT.of_below hb)
theorem DRow.app {wa w4 : World} {base n : Nat} {out v' : Value} {M : List DimX} {es : List (DimX × Value)} {x : DimX × Value} (hn : n = M.length) (h1 : es.map Prod.fst = M) (h2 : wa.ownsRow base 54 2 out n (es.flatMap dim2))
    (h3 : ∀ x ∈ es, wa.ownsRow base 9 1 x.2 x.1.2.length (svals x.1.2)) (hx : wa.ownsRow base 9 1 x.2 x.1.2.length (svals x.1.2))
    (ho : w4.ownsRow base 54 2 v' (n + 1) (es.flatMap dim2 ++ dim2 x)) (hg : wa.grownBy w4 out.ownBlock) : DRow w4 base v' (M ++ [x.1]) := by
  subst hn
  have kk : KeepT 9 base wa w4 := KeepT.of_grown hg h2 (by decide)
  refine ⟨es ++ [x], by rw [List.map_append, h1]; rfl, by rw [List.length_append, List.flatMap_append]; simpa using ho, fun y hy => ?_⟩
  rcases List.mem_append.1 hy with hy | hy
  · exact own_keepT (h3 y hy) kk
  · rw [List.mem_singleton] at hy
    subst hy
    exact own_keepT hx kk
theorem flat2_atD : ∀ {es : List (DimX × Value)} {k j : Nat} (hk : k < es.length), j < 2 → (es.flatMap dim2)[k * 2 + j]? = (dim2 es[k])[j]? := by
  intro es
  induction es with
  | nil => intro k j hk; simp at hk
  | cons x es ih =>
    intro k j hk hj
    rw [List.flatMap_cons]
    cases k with
    | zero => rw [Nat.zero_mul, Nat.zero_add, List.getElem?_append_left (by show j < 2; exact hj)]; rfl
    | succ k =>
      rw [List.getElem?_append_right (by show 2 ≤ _; omega), show (k + 1) * 2 + j - (dim2 x).length = k * 2 + j by show _ - 2 = _; omega]
      exact ih (by simpa using hk) hj
theorem DRow.rows {w : World} {base : Nat} {out : Value} {M : List DimX} (h : DRow w base out M) (hs : ∀ d ∈ M, d.1.size ≤ maxLen ∧ ∀ x ∈ d.2, x.size ≤ maxLen) : rdSlice 2 rdDim w w.heap.size [out] M := by
  obtain ⟨es, rfl, h2, h3⟩ := h
  rw [List.length_map] at h2
  obtain ⟨A, c, rfl, g1, g2, g3⟩ := own_cells2 h2
  refine ⟨A, c, by rw [List.length_map], by rw [List.length_map]; exact g1, g2, fun h0 => ?_⟩
  rw [List.length_map] at h0
  obtain ⟨g, rfl, -, hg, -, hcell⟩ := g3 h0
  refine ⟨g, 0, rfl, hg, fun i x hx => ?_⟩
  have hil : i < es.length := by have := (List.getElem?_eq_some_iff.1 hx).1; rwa [List.length_map] at this
  have hxe : es[i].1 = x := by rw [List.getElem?_map, List.getElem?_eq_getElem hil] at hx; injection hx
  subst hxe
  have hin := hs _ (List.mem_map.2 ⟨es[i], List.getElem_mem hil, rfl⟩)
  refine ⟨dim2 es[i], rfl, fun j u hu => ?_, rfl, ⟨rfl, hin.1⟩, rdStrs_of_own rfl (h3 _ (List.getElem_mem hil)) hin.2⟩
  have hj : j < 2 := (List.getElem?_eq_some_iff.1 hu).1
  rw [Nat.zero_add, hcell (i * 2 + j) (by omega), flat2_atD hil hj, hu]
/-- A schema of one's own. -/
def SchO (w : World) (base : Nat) (v1 v2 v3 : Value) (s : SchemaX) : Prop :=
  DRow w base v1 s.1 ∧ w.ownsRow base 9 1 v2 s.2.1.length (svals s.2.1) ∧ RowI w base v3 s.2.2
/-- What the texts and numbers of a schema that is read keep to. -/
def SchIn (s : SchemaX) : Prop := (∀ d ∈ s.1, d.1.size ≤ maxLen ∧ ∀ x ∈ d.2, x.size ≤ maxLen) ∧ (∀ x ∈ s.2.1, x.size ≤ maxLen) ∧ ∀ l ∈ s.2.2, ∀ n ∈ l, InI64 n
theorem SchO.rd {w : World} {base : Nat} {v1 v2 v3 : Value} {s : SchemaX} (h : SchO w base v1 v2 v3 s) (hs : SchIn s) : SchemaV w w.heap.size (.agg #[v1, v2, v3]) s := by
  obtain ⟨h1, h2, h3⟩ := h
  have r1 := h1.rows hs.1
  have r2 := rdStrs_of_own rfl h2 hs.2.1
  have r3 := h3.rows hs.2.2
  obtain ⟨A1, c1, e1, -, -⟩ := r1.open_
  obtain ⟨A2, c2, e2, -, -⟩ := r2.open_
  obtain ⟨A3, c3, e3, -, -⟩ := r3.open_
  simp only [List.cons.injEq, and_true] at e1 e2 e3
  subst e1; subst e2; subst e3
  exact ⟨A1, c1, A2, c2, A3, c3, rfl, r1, r2, r3⟩
theorem strs_in {w : World} {B : Nat} {v : Value} {l : List ByteArray} (h : rdStrs w B [v] l) : ∀ x ∈ l, x.size ≤ maxLen := (strs_sl h).2
theorem SchemaV.in_ {w : World} {B : Nat} {v : Value} {s : SchemaX} (h : SchemaV w B v s) : SchIn s := by
  obtain ⟨A1, c1, A2, c2, A3, c3, rfl, h1, h2, h3⟩ := h
  refine ⟨fun d hd => ?_, strs_in h2, fun l hl n hn => ?_⟩
  · obtain ⟨k, hk, rfl⟩ := List.mem_iff_getElem.1 hd
    obtain ⟨b, off, -, -, es, -, -, hr⟩ := h1.at_ hk
    obtain ⟨-, ⟨e1, hsz⟩, hlv⟩ := hr
    obtain ⟨AL, cL, e, g1, g2⟩ := hlv.open_
    rw [e] at hlv
    exact ⟨hsz, strs_in hlv⟩
  · obtain ⟨k, hk, rfl⟩ := List.mem_iff_getElem.1 hl
    obtain ⟨b, off, -, -, es, -, -, hr⟩ := h3.at_ hk
    obtain ⟨AL, cL, e, g1, g2⟩ := hr.open_
    rw [e] at hr
    obtain ⟨j, hj, rfl⟩ := List.mem_iff_getElem.1 hn
    obtain ⟨_, _, _, _, _, h⟩ := ints_at' hr hj
    exact h
end Go.Proofs.YtgoapnkdcfcjgaaGreat
/- The reference's cuboid in memory. -/
namespace Go.Proofs.YtgoapnkdcfcjgaaGreat
open Go.ChangeShapes Go.WideShapes Go.ChangeAt Go.RowKit
set_option linter.unusedVariables false
set_option linter.unusedSimpArgs false

/-- A cell whose lists lie in blocks of E. -/
def CellE (w : World) (E : Nat → Prop) (v : Value) (c : CellM) : Prop :=
  ∃ v1 v2 v3, v = .agg #[.int .i64 c.n, v1, v2, v3] ∧ SlE w E v1 (ivals c.s) ∧ SlE w E v2 (ivals c.lo) ∧ SlE w E v3 (ivals c.hi)
theorem CellE.kept {w w' : World} {E : Nat → Prop} {v : Value} {c : CellM} (h : CellE w E v c) (k : Kept E w w') : CellE w' E v c := by
  obtain ⟨v1, v2, v3, e, h1, h2, h3⟩ := h
  exact ⟨v1, v2, v3, e, h1.kept k, h2.kept k, h3.kept k⟩
theorem CellE.mono {w : World} {E E' : Nat → Prop} {v : Value} {c : CellM} (h : CellE w E v c) (k : ∀ i, E i → E' i) : CellE w E' v c := by
  obtain ⟨v1, v2, v3, e, h1, h2, h3⟩ := h
  exact ⟨v1, v2, v3, e, h1.mono k, h2.mono k, h3.mono k⟩
theorem CellE.read {w : World} {E : Nat → Prop} {v : Value} {c : CellM} (h : CellE w E v c) : CellR w w.heap.size v c := by
  obtain ⟨v1, v2, v3, e, h1, h2, h3⟩ := h
  exact ⟨v1, v2, v3, e, h1.sl, h2.sl, h3.sl⟩
theorem CellE.of_own {w : World} {H : Nat} {v : Value} {c : CellM} (h : OwnC w H v c) : CellE w (fun k => H ≤ k ∧ k < w.heap.size) v c := by
  obtain ⟨v1, v2, v3, e, h1, h2, h3, -, -⟩ := h
  exact ⟨v1, v2, v3, e, SlE.of_own h1 (fun g hg => h1.lt g hg), SlE.of_own h2 (fun g hg => h2.lt g hg), SlE.of_own h3 (fun g hg => h3.lt g hg)⟩
/-- A key and a cell as they lie in memory. -/
abbrev E5 := Value × Int × Value × Value × Value
def e5 (x : E5) : List Value := [x.1, .int .i64 x.2.1, x.2.2.1, x.2.2.2.1, x.2.2.2.2]
def z5 : E5 := (.slice none 0 0, 0, .slice none 0 0, .slice none 0 0, .slice none 0 0)
def zK : KC := ([], nilC)
end Go.Proofs.YtgoapnkdcfcjgaaGreat
