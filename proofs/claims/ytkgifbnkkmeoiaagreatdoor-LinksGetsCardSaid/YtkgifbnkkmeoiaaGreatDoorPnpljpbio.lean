/- 3 texts of this claim, in build order. -/
import Derived.Test.YtkgifbnkkmeoiaaGreatDoorPiacfbhok
import Derived.Test.YtkgifbnkkmeoiaaGreatDoorPjkhkmabk
import Derived.Test.YtkgifbnkkmeoiaaGreatDoorPcononjpe
import Derived.Test.YtkgifbnkkmeoiaaGreatDoorPinglbimp
/- Rows of one's own, of facts whose paths are rows of one's own. -/
namespace Go.Proofs.YtkgifbnkkmeoiaaGreatDoor
open Go.ChangeShapes Go.WideShapes Go.ChangeAt Go.RowKit
set_option linter.unusedVariables false
set_option linter.unusedSimpArgs false

def fv2 (p : Value × Value) : List Value := [p.1, p.2]
def fvs (vs : List (Value × Value)) : List Value := vs.flatMap fv2
theorem fvs_snoc (vs : List (Value × Value)) (p : Value × Value) : fvs (vs ++ [p]) = fvs vs ++ fv2 p := by simp [fvs]
theorem fvs_len (vs : List (Value × Value)) : (fvs vs).length = vs.length * 2 := by
  induction vs with
  | nil => rfl
  | cons p vs ih => unfold fvs at ih ⊢; rw [List.flatMap_cons, List.length_append, ih]; simp [fv2]; omega
theorem fvs_at : ∀ {vs : List (Value × Value)} (i : Nat) (hi : i < vs.length) (j : Nat), j < 2 → (fvs vs)[i * 2 + j]? = (fv2 vs[i])[j]? := by
  intro vs
  induction vs with
  | nil => intro i hi; simp at hi
  | cons p vs ih =>
    intro i hi j hj
    have hs : fvs (p :: vs) = fv2 p ++ fvs vs := rfl
    rw [hs]
    cases i with
    | zero =>
      rw [List.getElem?_append_left (by simp [fv2]; omega)]
      simp
    | succ i =>
      rw [List.getElem?_append_right (by simp [fv2]; omega)]
      rw [show (i + 1) * 2 + j - (fv2 p).length = i * 2 + j by simp [fv2]; omega]
      rw [ih i (by simpa using hi) j hj]
      rfl
/-- A row of one's own, of facts whose paths are rows of one's own; the rest lies below B. -/
def BRow (w : World) (base B : Nat) (out : Value) (M : List FactX) : Prop :=
  ∃ vs : List (Value × Value), ∃ hl : vs.length = M.length, w.ownsRow base 127 2 out M.length (fvs vs) ∧
    ∀ j (h : j < M.length), RowP w base B (vs[j]'(by omega)).1 M[j].1 ∧ rdInts w B [(vs[j]'(by omega)).2] M[j].2 ∧ ∀ g, (vs[j]'(by omega)).1.ownBlock = some g → out.ownBlock ≠ some g
theorem BRow.nil_ (w : World) (base B : Nat) : BRow w base B (.slice none 0 0) [] := ⟨[], rfl, World.ownsRow_nil _ _ _ _, fun j hj => by simp at hj⟩
theorem BRow.kept {w w' : World} {base B : Nat} {out : Value} {M : List FactX} (h : BRow w base B out M) (hb : Below B w w') (k : ∀ g, base ≤ g → g < w.heap.size → w'.heap[g]? = w.heap[g]?) : BRow w' base B out M := by
  obtain ⟨vs, h1, h2, h3⟩ := h
  exact ⟨vs, h1, own_kept h2 (fun g hg => k g (h2.lt g hg).1 (h2.lt g hg).2), fun j hj => ⟨(h3 j hj).1.kept hb (fun g hg => k g ((h3 j hj).1.lt g hg).1 ((h3 j hj).1.lt g hg).2), good_ints.stays (h3 j hj).2.1 hb, (h3 j hj).2.2⟩⟩
theorem BRow.on {w w' : World} {base B : Nat} {out : Value} {M : List FactX} (h : BRow w base B out M) (hB : B ≤ w.heap.size) (hb : Below w.heap.size w w') : BRow w' base B out M := h.kept (hb.mono hB) (fun g h1 h2 => hb.block g h2)
theorem BRow.app {wa w4 : World} {base B : Nat} {out v' pv vv : Value} {M : List FactX} {f : FactX} {vs : List (Value × Value)} (h1 : vs.length = M.length)
    (h3 : ∀ j (h : j < M.length), RowP wa base B (vs[j]'(by omega)).1 M[j].1 ∧ rdInts wa B [(vs[j]'(by omega)).2] M[j].2 ∧ ∀ g, (vs[j]'(by omega)).1.ownBlock = some g → out.ownBlock ≠ some g)
    (hm : RowP wa base B pv f.1) (hi : rdInts wa B [vv] f.2) (hn : ∀ g, pv.ownBlock = some g → out.ownBlock ≠ some g) (hb : Below B wa w4)
    (ho : w4.ownsRow base 127 2 v' (M.length + 1) (fvs vs ++ fv2 (pv, vv))) (hg : wa.grownBy w4 out.ownBlock) (hat : v'.ownBlock = out.ownBlock ∨ v'.ownBlock = some wa.heap.size) : BRow w4 base B v' (M ++ [f]) := by
  have hv : ∀ (y z : Value) (x : FactX), RowP wa base B y x.1 → rdInts wa B [z] x.2 → (∀ g, y.ownBlock = some g → out.ownBlock ≠ some g) → RowP w4 base B y x.1 ∧ rdInts w4 B [z] x.2 ∧ ∀ g, y.ownBlock = some g → v'.ownBlock ≠ some g := fun y z x hy hz hny =>
    ⟨hy.kept hb (fun g hgy => hg.block g (hy.lt g hgy).2 (fun e => hny g hgy e.symm)), good_ints.stays hz hb, fun g hgy e => by
      rcases hat with h | h
      · exact hny g hgy (h ▸ e)
      · rw [h] at e; injection e with e; have := (hy.lt g hgy).2; omega⟩
  refine ⟨vs ++ [(pv, vv)], by simp [h1], by rw [List.length_append, fvs_snoc]; exact ho, fun j hj => ?_⟩
  rcases Nat.lt_or_ge j M.length with hlt | hge
  · have e1 : (vs ++ [(pv, vv)])[j]'(by simp; omega) = vs[j]'(by omega) := List.getElem_append_left (by omega)
    have e2 : (M ++ [f])[j] = M[j] := List.getElem_append_left hlt
    rw [e1, e2]
    exact hv _ _ _ (h3 j hlt).1 (h3 j hlt).2.1 (h3 j hlt).2.2
  · obtain rfl : j = M.length := by rw [List.length_append] at hj; simp at hj; omega
    have e1 : (vs ++ [(pv, vv)])[M.length]'(by simp; omega) = (pv, vv) := by rw [List.getElem_append_right (by omega)]; simp [h1]
    have e2 : (M ++ [f])[M.length] = f := by rw [List.getElem_append_right (by omega)]; simp
    rw [e1, e2]
    exact hv _ _ _ hm hi hn
theorem BRow.less {w : World} {base base' B : Nat} {out : Value} {M : List FactX} (h : BRow w base B out M) (hb : base' ≤ base) : BRow w base' B out M := by
  have own_less' : ∀ {n : Nat} {e : TypeId} {sz : Nat} {v : Value} {xs : List Value}, w.ownsRow base e sz v n xs → w.ownsRow base' e sz v n xs := fun h => by
    obtain ⟨h1, h2⟩ := h
    refine ⟨h1, ?_⟩
    rcases h2 with h2 | ⟨g, cap, cur, rfl, hbg, r⟩
    · exact .inl h2
    · exact .inr ⟨g, cap, cur, rfl, by omega, r⟩
  obtain ⟨vs, h1, h2, h3⟩ := h
  exact ⟨vs, h1, own_less' h2, fun j hj => ⟨by obtain ⟨us, a, b, c⟩ := (h3 j hj).1; exact ⟨us, a, own_less' b, c⟩, (h3 j hj).2⟩⟩
theorem BRow.rows {w : World} {base B N : Nat} {out : Value} {M : List FactX} (h : BRow w base B out M) (hB : B ≤ N) (hN : w.heap.size ≤ N) : rdSlice 2 rdFact w N [out] M ∧ ∃ A c, out = .slice A M.length c := by
  obtain ⟨vs, h1, h2, h3⟩ := h
  have hown := h2
  rcases h2.2 with ⟨rfl, e0⟩ | ⟨g, cap, cur, rfl, hb, hg, hnc, hcm, hcs, htk⟩
  · have : M = [] := List.length_eq_zero_iff.1 e0
    subst this
    exact ⟨⟨none, 0, rfl, Nat.le_refl _, by simp [maxLen], fun h => by simp at h⟩, none, 0, rfl⟩
  · refine ⟨⟨_, cap, rfl, hnc, hcm, fun h0 => ⟨g, 0, rfl, by have := (hown.lt g rfl).2; omega, fun i x hx => ?_⟩⟩, _, _, rfl⟩
    have hil := (List.getElem?_eq_some_iff.1 hx).1
    have hxe : M[i] = x := by rw [List.getElem?_eq_getElem hil] at hx; injection hx
    have hrow := (h3 i hil).1
    have hint := (h3 i hil).2.1
    rw [hxe] at hrow hint
    refine ⟨fv2 (vs[i]'(by omega)), rfl, fun j u hu => ?_, rfl, hrow.rows hB hN, good_ints.more hint hB⟩
    have hj : j < 2 := (List.getElem?_eq_some_iff.1 hu).1
    have hc := hown.cellAt (g := g) (i * 2 + j) (by omega)
    rw [Nat.zero_add, hc, fvs_at i (by omega) j hj, hu]
end Go.Proofs.YtkgifbnkkmeoiaaGreatDoor
/- Rows of one's own, of lists of texts of one's own. -/
namespace Go.Proofs.YtkgifbnkkmeoiaaGreatDoor
open Go.ChangeShapes Go.WideShapes Go.ChangeAt Go.RowKit
set_option linter.unusedVariables false
set_option linter.unusedSimpArgs false

theorem info_strsQ : (Tryz.prog.info? 129).map (fun i => (i.zero, i.size, i.bytes)) = some (some (.slice none 0 0), 1, 24) := by kernel_rfl
theorem own_lessQ {w : World} {base base' n : Nat} {e : TypeId} {sz : Nat} {v : Value} {xs : List Value} (h : w.ownsRow base e sz v n xs) (hb : base' ≤ base) : w.ownsRow base' e sz v n xs := by
  obtain ⟨h1, h2⟩ := h
  refine ⟨h1, ?_⟩
  rcases h2 with h2 | ⟨g, cap, cur, rfl, hbg, r⟩
  · exact .inl h2
  · exact .inr ⟨g, cap, cur, rfl, by omega, r⟩
theorem own_stays {w w' : World} {base n : Nat} {e : TypeId} {sz : Nat} {v : Value} {xs : List Value} (h : w.ownsRow base e sz v n xs) (hb : Below w.heap.size w w') : w'.ownsRow base e sz v n xs :=
  own_kept h (fun g hg => hb.block g (h.lt g hg).2)
/-- A row of one's own, of lists of texts of one's own. -/
def RowL (w : World) (base : Nat) (out : Value) (M : List (List ByteArray)) : Prop :=
  ∃ vs : List Value, vs.length = M.length ∧ w.ownsRow base 129 1 out M.length vs ∧
    ∀ j, j < M.length → w.ownsRow base 9 1 (vs.getD j undef) (M.getD j []).length (svals (M.getD j [])) ∧ ∀ g, (vs.getD j undef).ownBlock = some g → out.ownBlock ≠ some g
theorem RowL.nil_ (w : World) (base : Nat) : RowL w base (.slice none 0 0) [] := ⟨[], rfl, World.ownsRow_nil _ _ _ _, fun j hj => by simp at hj⟩
theorem RowL.stays {w w' : World} {base : Nat} {out : Value} {M : List (List ByteArray)} (h : RowL w base out M) (hb : Below w.heap.size w w') : RowL w' base out M := by
  obtain ⟨vs, h1, h2, h3⟩ := h
  exact ⟨vs, h1, own_stays h2 hb, fun j hj => ⟨own_stays (h3 j hj).1 hb, (h3 j hj).2⟩⟩
theorem RowL.less {w : World} {base base' : Nat} {out : Value} {M : List (List ByteArray)} (h : RowL w base out M) (hb : base' ≤ base) : RowL w base' out M := by
  obtain ⟨vs, h1, h2, h3⟩ := h
  exact ⟨vs, h1, own_lessQ h2 hb, fun j hj => ⟨own_lessQ (h3 j hj).1 hb, (h3 j hj).2⟩⟩
/-- One more list is appended; it has come behind the row. -/
theorem RowL.app {w w1 w2 : World} {base : Nat} {out v' u : Value} {M : List (List ByteArray)} {x : List ByteArray} {t : TypeId} {vs : List Value} (hvs : vs.length = M.length) (ho0 : w.ownsRow base 129 1 out M.length vs)
    (h3 : ∀ j, j < M.length → w.ownsRow base 9 1 (vs.getD j undef) (M.getD j []).length (svals (M.getD j [])) ∧ ∀ g, (vs.getD j undef).ownBlock = some g → out.ownBlock ≠ some g)
    (hb : Below w.heap.size w w1) (hu : w1.ownsRow w.heap.size 9 1 u x.length (svals x)) (hbase : base ≤ w.heap.size)
    (ho : w2.ownsRow base 129 1 v' (M.length + 1) (vs ++ [u])) (hg : (w1.alloc (.cells #[u] t)).grownBy w2 out.ownBlock) (hat : v'.ownBlock = out.ownBlock ∨ v'.ownBlock = some (w1.alloc (.cells #[u] t)).heap.size) : RowL w2 base v' (M ++ [x]) := by
  have hsz := hb.size
  have hlast : ∀ g, out.ownBlock = some g → g < w.heap.size := fun g hg' => (ho0.lt g hg').2
  have hkeep : ∀ (y : Value) (l : List Value) (b : Nat), w1.ownsRow b 9 1 y l.length l → (∀ g, y.ownBlock = some g → out.ownBlock ≠ some g) → w2.ownsRow b 9 1 y l.length l := fun y l b hy hn =>
    own_kept (hy.alloc _) (fun g hgy => hg.block g (by have := (hy.lt g hgy).2; simp; omega) (fun e => hn g hgy e.symm))
  refine ⟨vs ++ [u], by simp [hvs], by rw [List.length_append]; exact ho, fun j hj => ?_⟩
  rw [List.length_append] at hj
  rcases Nat.lt_or_ge j M.length with hlt | hge
  · have e1 : (vs ++ [u]).getD j undef = vs.getD j undef := by rw [List.getD_eq_getElem?_getD, List.getElem?_append_left (by omega), ← List.getD_eq_getElem?_getD]
    have e2 : (M ++ [x]).getD j [] = M.getD j [] := by rw [List.getD_eq_getElem?_getD, List.getElem?_append_left hlt, ← List.getD_eq_getElem?_getD]
    rw [e1, e2]
    obtain ⟨k1, k2⟩ := h3 j hlt
    have k1' := own_stays k1 hb
    refine ⟨by have := hkeep _ (svals (M.getD j [])) base (by rw [svals_len]; exact k1') k2; rwa [svals_len] at this, fun g hgy => ?_⟩
    rcases hat with e | e
    · rw [e]; exact k2 g hgy
    · rw [e]; intro h; injection h with h; have := (k1'.lt g hgy).2; rw [World.size_alloc] at h; omega
  · obtain rfl : j = M.length := by simp at hj; omega
    have e1 : (vs ++ [u]).getD M.length undef = u := by rw [List.getD_eq_getElem?_getD, List.getElem?_append_right (by omega), hvs, Nat.sub_self]; rfl
    have e2 : (M ++ [x]).getD M.length [] = x := by rw [List.getD_eq_getElem?_getD, List.getElem?_append_right (by omega), Nat.sub_self]; rfl
    rw [e1, e2]
    have hn : ∀ g, u.ownBlock = some g → out.ownBlock ≠ some g := fun g hgu e => by have := hlast g e; have := (hu.lt g hgu).1; omega
    refine ⟨by have := hkeep _ (svals x) w.heap.size (by rw [svals_len]; exact hu) hn; rw [svals_len] at this; exact own_lessQ this hbase, fun g hgu => ?_⟩
    rcases hat with e | e
    · rw [e]; exact hn g hgu
    · rw [e]; intro h; injection h with h; have := (hu.lt g hgu).2; rw [World.size_alloc] at h; omega
/-- Such a row reads as lists of texts. -/
theorem RowL.rows {w : World} {base : Nat} {out : Value} {M : List (List ByteArray)} (h : RowL w base out M) (hs : ∀ p ∈ M, ∀ s ∈ p, s.size ≤ maxLen) : rdSlice 1 rdStrs w w.heap.size [out] M := by
  obtain ⟨vs, h1, h2, h3⟩ := h
  obtain ⟨A, c, rfl, g1, g2, g3⟩ := own_cells h2
  refine ⟨A, c, rfl, g1, g2, fun h0 => ?_⟩
  obtain ⟨g, rfl, -, hg, -⟩ := g3 h0
  refine ⟨g, 0, rfl, hg, fun i x hx => ?_⟩
  have hil := (List.getElem?_eq_some_iff.1 hx).1
  have hgd : M.getD i [] = x := by rw [List.getD_eq_getElem?_getD, hx]; rfl
  have hc2 := h2.cellAt (g := g) i (by omega)
  refine ⟨[vs.getD i undef], rfl, fun j u hu => ?_, ?_⟩
  · cases j with
    | succ j => simp at hu
    | zero =>
      simp at hu; subst hu
      rw [Nat.mul_one, Nat.add_zero, Nat.zero_add, hc2, List.getElem?_eq_getElem (show i < vs.length by omega)]; rfl
  · have := (h3 i hil).1
    rw [hgd] at this
    exact rdStrs_of_own rfl this (hs x (List.mem_of_getElem? hx))
theorem own_formB {w : World} {base n : Nat} {e : TypeId} {sz : Nat} {v : Value} {xs : List Value} (h : w.ownsRow base e sz v n xs) : ∃ A c, v = .slice A n c := by
  rcases h.2 with ⟨rfl, rfl⟩ | ⟨g, cap, cur, rfl, _⟩
  · exact ⟨none, 0, rfl⟩
  · exact ⟨_, _, rfl⟩
theorem cell2_new (w : World) (x y : Value) (t : TypeId) {N : Nat} (hN : w.heap.size = N) : ∀ j u, [x, y][j]? = some u → (w.alloc (.cells #[x, y] t)).cell? ((⟨N, 0, none⟩ : Addr).add j) = some u := by
  subst hN
  intro j u hu
  rw [show ((⟨w.heap.size, 0, none⟩ : Addr).add j) = ⟨w.heap.size, j, none⟩ by simp [Addr.add]; exact fun h => h.symm, World.cell?_alloc_at _ _ _ _ rfl]
  rcases j with _ | _ | j <;> simp at hu <;> subst hu <;> rfl
end Go.Proofs.YtkgifbnkkmeoiaaGreatDoor
/- The walk of the laws' few (facts). -/
namespace Go.Proofs.YtkgifbnkkmeoiaaGreatDoor
open Go.ChangeShapes Go.WideShapes Go.ChangeAt Go.RowKit
set_option linter.unusedVariables false
set_option linter.unusedSimpArgs false

theorem info_fact : (Tryz.prog.info? 127).map (fun i => (i.zero, i.size, i.bytes)) = some (some (.agg #[.slice none 0 0, .slice none 0 0]), 2, 48) := by kernel_rfl
theorem RowP.app_n {w w' : World} {base B n : Nat} {v' u : Value} {M : List (List ByteArray)} {vs : List Value} {x : List ByteArray} (hn : n = M.length) (h1 : vs.length = M.length) (h3 : ∀ j, j < M.length → rdStrs w B [vs.getD j undef] (M.getD j []))
    (hu : rdStrs w B [u] x) (hb : Below B w w') (ho : w'.ownsRow base 129 1 v' (n + 1) (vs ++ [u])) : RowP w' base B v' (M ++ [x]) := by
  subst hn
  exact RowP.app h1 h3 hu hb ho
end Go.Proofs.YtkgifbnkkmeoiaaGreatDoor
