/- 3 texts of this claim, in build order. -/
import Derived.Test.YtkgifbnkkmeoiaaGreatDoorPjkhkmabk
import Derived.Test.YtkgifbnkkmeoiaaGreatDoorPmfcnoomp
import Derived.Test.YtkgifbnkkmeoiaaGreatDoorPcononjpe
/- Facts: readings, and what may be, plainly. -/
namespace Go.Proofs.YtkgifbnkkmeoiaaGreatDoor
open Go.ChangeShapes Go.WideShapes Go.ChangeAt Go.RowKit
set_option linter.unusedVariables false

abbrev FactX := List (List ByteArray) × List Int
abbrev rdFact : Rd FactX := rdPair 1 (rdSlice 1 rdStrs) rdInts
theorem good_fact : Good rdFact := good_pair good_paths good_ints
theorem good_facts : Good (rdSlice 2 rdFact) := good_slice good_fact
/-- A fact as a value. -/
def FactV (w : World) (B : Nat) (v : Value) (f : FactX) : Prop :=
  ∃ A1 c1 A2 c2, v = .agg #[.slice A1 f.1.length c1, .slice A2 f.2.length c2] ∧ rdSlice 1 rdStrs w B [.slice A1 f.1.length c1] f.1 ∧ rdInts w B [.slice A2 f.2.length c2] f.2
theorem FactV.below {w w' : World} {B : Nat} {v : Value} {f : FactX} (h : FactV w B v f) (hb : Below B w w') : FactV w' B v f := by
  obtain ⟨A1, c1, A2, c2, e, h1, h2⟩ := h
  exact ⟨A1, c1, A2, c2, e, good_paths.stays h1 hb, good_ints.stays h2 hb⟩
theorem FactV.more {w : World} {B B' : Nat} {v : Value} {f : FactX} (h : FactV w B v f) (hb : B ≤ B') : FactV w B' v f := by
  obtain ⟨A1, c1, A2, c2, e, h1, h2⟩ := h
  exact ⟨A1, c1, A2, c2, e, good_paths.more h1 hb, good_ints.more h2 hb⟩
theorem FactV.on {w w' : World} {v : Value} {f : FactX} (h : FactV w w.heap.size v f) (hb : Below w.heap.size w w') : FactV w' w'.heap.size v f := (h.below hb).more hb.size
theorem fact_of_rd {w : World} {B : Nat} {cs : List Value} {f : FactX} (h : rdFact w B cs f) : ∃ A1 c1 A2 c2, cs = [.slice A1 f.1.length c1, .slice A2 f.2.length c2] ∧ rdSlice 1 rdStrs w B [.slice A1 f.1.length c1] f.1 ∧ rdInts w B [.slice A2 f.2.length c2] f.2 := by
  obtain ⟨l1, h1, h2⟩ := h
  obtain ⟨A1, c1, e1, -, -⟩ := h1.open_
  obtain ⟨A2, c2, e2, -, -⟩ := h2.open_
  rw [e1] at h1; rw [e2] at h2
  refine ⟨A1, c1, A2, c2, ?_, h1, h2⟩
  rw [← List.take_append_drop 1 cs, e1, e2]
  rfl
theorem facts_at {w : World} {B : Nat} {A : Option Addr} {n c : Nat} {l : List FactX} (h : rdSlice 2 rdFact w B [.slice A n c] l) {k : Nat} (hk : k < l.length) :
    ∃ b off AP cP AV cV, A = some ⟨b, off, none⟩ ∧ b < B ∧ w.cell? ⟨b, off + k * 2, none⟩ = some (.slice AP l[k].1.length cP) ∧ w.cell? ⟨b, off + k * 2 + 1, none⟩ = some (.slice AV l[k].2.length cV) ∧
      rdSlice 1 rdStrs w B [.slice AP l[k].1.length cP] l[k].1 ∧ rdInts w B [.slice AV l[k].2.length cV] l[k].2 := by
  obtain ⟨b, off, rfl, hb, es, hel, hcell, hr⟩ := h.at_ hk
  obtain ⟨AP, cP, AV, cV, rfl, h1, h2⟩ := fact_of_rd hr
  exact ⟨b, off, AP, cP, AV, cV, rfl, hb, hcell 0 _ rfl, hcell 1 _ rfl, h1, h2⟩
/-! ### Plain words -/
def valB (n : Int) : Bool := decide (-2305843009213693952 ≤ n) && decide (n ≤ 2305843009213693952)
def plainFt (f : FactX) : Bool := (!(f.1.any fun p => !mayB p) && !(f.2.any fun n => !valB n)) && decide (f.1.length ≤ 3) && decide (f.2.length ≤ 2)
def fitsB (s : SchemaX) (f : FactX) : Bool := (plainFt f && decide (f.1.length = s.1.length) && decide (f.2.length = s.2.1.length)) && (List.range f.1.length).all fun i => decide ((f.1.getD i []).length = (s.1.getD i (⟨#[]⟩, [])).2.length)
def mayBt (s : SchemaX) (l : List FactX) : Int := if !mayS s then 11 else if l.length = 0 ∨ 8 < l.length then 13 else if l.any (fun f => !fitsB s f) then 12 else 0
def putFact (f : FactX) : List UInt8 := putInt f.1.length ++ (putM f.1 ++ (putInt f.2.length ++ f.2.flatMap putInt))
def putFacts (l : List FactX) : List UInt8 := putInt l.length ++ l.flatMap putFact
def fewFt (f : FactX) : FactX := ((f.1.take 5).map (fun p => p.take 5), f.2.take 5)
def fewFs (l : List FactX) : List FactX := (l.take 10).map fewFt
theorem any_not {α : Type} (p : α → Bool) (l : List α) : (!(l.any fun x => !p x)) = l.all p := by
  induction l with
  | nil => rfl
  | cons x l ih => rw [List.any_cons, List.all_cons, Bool.not_or, ih, Bool.not_not]
theorem plainFt_parts {f : FactX} (h : plainFt f = true) : f.1.length ≤ 3 ∧ f.2.length ≤ 2 ∧ (∀ p ∈ f.1, mayB p = true) ∧ ∀ n ∈ f.2, valB n = true := by
  unfold plainFt at h
  rw [any_not, any_not, Bool.and_eq_true, Bool.and_eq_true, Bool.and_eq_true] at h
  exact ⟨of_decide_eq_true h.1.2, of_decide_eq_true h.2, fun p hp => List.all_eq_true.1 h.1.1.1 p hp, fun n hn => List.all_eq_true.1 h.1.1.2 n hn⟩
theorem putFact_len {f : FactX} (h : plainFt f = true) : (putFact f).length ≤ 184 := by
  obtain ⟨h1, h2, h3, h4⟩ := plainFt_parts h
  have a := flat_len f.1 putP 48 (fun p hp => putP_len (h3 p hp))
  have b := flat_len f.2 putInt 10 (fun n _ => putInt_le n)
  have c := putInt_le (f.1.length : Int)
  have d := putInt_le (f.2.length : Int)
  unfold putFact putM
  simp only [List.length_append]
  omega
theorem putFacts_len {l : List FactX} (hl : l.length ≤ 10) (h : ∀ f ∈ l, plainFt f = true) : (putFacts l).length ≤ 1850 := by
  have a := flat_len l putFact 184 (fun f hf => putFact_len (h f hf))
  have c := putInt_le (l.length : Int)
  unfold putFacts
  simp only [List.length_append]
  omega
end Go.Proofs.YtkgifbnkkmeoiaaGreatDoor
/- Rows of one's own, of lists of texts that were handed in. -/
namespace Go.Proofs.YtkgifbnkkmeoiaaGreatDoor
open Go.ChangeShapes Go.WideShapes Go.ChangeAt Go.RowKit
set_option linter.unusedVariables false
set_option linter.unusedSimpArgs false

/-- A row of one's own, from base on; its lists lie below B. -/
def RowP (w : World) (base B : Nat) (out : Value) (M : List (List ByteArray)) : Prop :=
  ∃ vs : List Value, vs.length = M.length ∧ w.ownsRow base 129 1 out M.length vs ∧ ∀ j, j < M.length → rdStrs w B [vs.getD j undef] (M.getD j [])
theorem RowP.nil_ (w : World) (base B : Nat) : RowP w base B (.slice none 0 0) [] := ⟨[], rfl, World.ownsRow_nil _ _ _ _, fun j hj => by simp at hj⟩
theorem RowP.kept {w w' : World} {base B : Nat} {out : Value} {M : List (List ByteArray)} (h : RowP w base B out M) (hb : Below B w w') (k : ∀ g, out.ownBlock = some g → w'.heap[g]? = w.heap[g]?) : RowP w' base B out M := by
  obtain ⟨vs, h1, h2, h3⟩ := h
  exact ⟨vs, h1, own_kept h2 k, fun j hj => good_strs.stays (h3 j hj) hb⟩
theorem RowP.lt {w : World} {base B : Nat} {out : Value} {M : List (List ByteArray)} (h : RowP w base B out M) : ∀ g, out.ownBlock = some g → base ≤ g ∧ g < w.heap.size := by
  obtain ⟨vs, h1, h2, h3⟩ := h
  exact h2.lt
theorem RowP.app {w w' : World} {base B : Nat} {v' u : Value} {M : List (List ByteArray)} {vs : List Value} {x : List ByteArray} (h1 : vs.length = M.length) (h3 : ∀ j, j < M.length → rdStrs w B [vs.getD j undef] (M.getD j []))
    (hu : rdStrs w B [u] x) (hb : Below B w w') (ho : w'.ownsRow base 129 1 v' (M.length + 1) (vs ++ [u])) : RowP w' base B v' (M ++ [x]) := by
  refine ⟨vs ++ [u], by simp [h1], by rw [List.length_append]; exact ho, fun j hj => ?_⟩
  rw [List.length_append] at hj
  rcases Nat.lt_or_ge j M.length with hlt | hge
  · rw [List.getD_eq_getElem?_getD, List.getElem?_append_left (by omega), ← List.getD_eq_getElem?_getD, List.getD_eq_getElem?_getD (l := M ++ [x]), List.getElem?_append_left hlt, ← List.getD_eq_getElem?_getD]
    exact good_strs.stays (h3 j hlt) hb
  · obtain rfl : j = M.length := by simp at hj; omega
    rw [List.getD_eq_getElem?_getD, List.getElem?_append_right (by omega), List.getD_eq_getElem?_getD (l := M ++ [x]), List.getElem?_append_right (by omega), h1, Nat.sub_self]
    exact good_strs.stays hu hb
theorem RowP.rows {w : World} {base B N : Nat} {out : Value} {M : List (List ByteArray)} (h : RowP w base B out M) (hB : B ≤ N) (hN : w.heap.size ≤ N) : rdSlice 1 rdStrs w N [out] M := by
  obtain ⟨vs, h1, h2, h3⟩ := h
  obtain ⟨A, c, rfl, g1, g2, g3⟩ := own_cells h2
  refine ⟨A, c, rfl, g1, g2, fun h0 => ?_⟩
  obtain ⟨g, rfl, -, hg, -⟩ := g3 h0
  refine ⟨g, 0, rfl, by omega, fun i x hx => ?_⟩
  have hil := (List.getElem?_eq_some_iff.1 hx).1
  have hgd : M.getD i [] = x := by rw [List.getD_eq_getElem?_getD, hx]; rfl
  have hc2 := h2.cellAt (g := g) i (by omega)
  refine ⟨[vs.getD i undef], rfl, fun j u hu => ?_, ?_⟩
  · cases j with
    | succ j => simp at hu
    | zero =>
      simp at hu; subst hu
      rw [Nat.mul_one, Nat.add_zero, Nat.zero_add, hc2, List.getElem?_eq_getElem (show i < vs.length by omega)]; rfl
  · have := h3 i hil
    rw [hgd] at this
    exact good_strs.more this hB
theorem RowP.less {w : World} {base base' B : Nat} {out : Value} {M : List (List ByteArray)} (h : RowP w base B out M) (hb : base' ≤ base) : RowP w base' B out M := by
  obtain ⟨vs, h1, ⟨h2, h2'⟩, h3⟩ := h
  refine ⟨vs, h1, ⟨h2, ?_⟩, h3⟩
  rcases h2' with h2' | ⟨g, cap, cur, rfl, hbg, r⟩
  · exact .inl h2'
  · exact .inr ⟨g, cap, cur, rfl, by omega, r⟩
end Go.Proofs.YtkgifbnkkmeoiaaGreatDoor
/- Rows of one's own, of facts whose paths are rows of one's own. -/
namespace Go.Proofs.YtkgifbnkkmeoiaaGreatDoor
open Go.ChangeShapes Go.WideShapes Go.ChangeAt Go.RowKit
set_option linter.unusedVariables false
set_option linter.unusedSimpArgs false

def fv2 (p : Value × Value) : List Value := [p.1, p.2]
def fvs (vs : List (Value × Value)) : List Value := vs.flatMap fv2
theorem fvs_snoc (vs : List (Value × Value)) (p : Value × Value) : fvs (vs ++ [p]) = fvs vs ++ fv2 p := by simp [fvs]
theorem fvs_len (vs : List (Value × Value)) : (fvs vs).length = vs.length * 2 := by
  induction vs with
  | nil => rfl
  | cons p vs ih => unfold fvs at ih ⊢; rw [List.flatMap_cons, List.length_append, ih]; simp [fv2]; omega
theorem fvs_at : ∀ {vs : List (Value × Value)} (i : Nat) (hi : i < vs.length) (j : Nat), j < 2 → (fvs vs)[i * 2 + j]? = (fv2 vs[i])[j]? := by
  intro vs
  induction vs with
  | nil => intro i hi; simp at hi
  | cons p vs ih =>
    intro i hi j hj
    have hs : fvs (p :: vs) = fv2 p ++ fvs vs := rfl
    rw [hs]
    cases i with
    | zero =>
      rw [List.getElem?_append_left (by simp [fv2]; omega)]
      simp
    | succ i =>
      rw [List.getElem?_append_right (by simp [fv2]; omega)]
      rw [show (i + 1) * 2 + j - (fv2 p).length = i * 2 + j by simp [fv2]; omega]
      rw [ih i (by simpa using hi) j hj]
      rfl
/-- A row of one's own, of facts whose paths are rows of one's own; the rest lies below B. -/
def BRow (w : World) (base B : Nat) (out : Value) (M : List FactX) : Prop :=
  ∃ vs : List (Value × Value), ∃ hl : vs.length = M.length, w.ownsRow base 127 2 out M.length (fvs vs) ∧
    ∀ j (h : j < M.length), RowP w base B (vs[j]'(by omega)).1 M[j].1 ∧ rdInts w B [(vs[j]'(by omega)).2] M[j].2 ∧ ∀ g, (vs[j]'(by omega)).1.ownBlock = some g → out.ownBlock ≠ some g
theorem BRow.nil_ (w : World) (base B : Nat) : BRow w base B (.slice none 0 0) [] := ⟨[], rfl, World.ownsRow_nil _ _ _ _, fun j hj => by simp at hj⟩
theorem BRow.kept {w w' : World} {base B : Nat} {out : Value} {M : List FactX} (h : BRow w base B out M) (hb : Below B w w') (k : ∀ g, base ≤ g → g < w.heap.size → w'.heap[g]? = w.heap[g]?) : BRow w' base B out M := by
  obtain ⟨vs, h1, h2, h3⟩ := h
  exact ⟨vs, h1, own_kept h2 (fun g hg => k g (h2.lt g hg).1 (h2.lt g hg).2), fun j hj => ⟨(h3 j hj).1.kept hb (fun g hg => k g ((h3 j hj).1.lt g hg).1 ((h3 j hj).1.lt g hg).2), good_ints.stays (h3 j hj).2.1 hb, (h3 j hj).2.2⟩⟩
theorem BRow.on {w w' : World} {base B : Nat} {out : Value} {M : List FactX} (h : BRow w base B out M) (hB : B ≤ w.heap.size) (hb : Below w.heap.size w w') : BRow w' base B out M := h.kept (hb.mono hB) (fun g h1 h2 => hb.block g h2)
theorem BRow.app {wa w4 : World} {base B : Nat} {out v' pv vv : Value} {M : List FactX} {f : FactX} {vs : List (Value × Value)} (h1 : vs.length = M.length)
    (h3 : ∀ j (h : j < M.length), RowP wa base B (vs[j]'(by omega)).1 M[j].1 ∧ rdInts wa B [(vs[j]'(by omega)).2] M[j].2 ∧ ∀ g, (vs[j]'(by omega)).1.ownBlock = some g → out.ownBlock ≠ some g)
    (hm : RowP wa base B pv f.1) (hi : rdInts wa B [vv] f.2) (hn : ∀ g, pv.ownBlock = some g → out.ownBlock ≠ some g) (hb : Below B wa w4)
    (ho : w4.ownsRow base 127 2 v' (M.length + 1) (fvs vs ++ fv2 (pv, vv))) (hg : wa.grownBy w4 out.ownBlock) (hat : v'.ownBlock = out.ownBlock ∨ v'.ownBlock = some wa.heap.size) : BRow w4 base B v' (M ++ [f]) := by
  have hv : ∀ (y z : Value) (x : FactX), RowP wa base B y x.1 → rdInts wa B [z] x.2 → (∀ g, y.ownBlock = some g → out.ownBlock ≠ some g) → RowP w4 base B y x.1 ∧ rdInts w4 B [z] x.2 ∧ ∀ g, y.ownBlock = some g → v'.ownBlock ≠ some g := fun y z x hy hz hny =>
    ⟨hy.kept hb (fun g hgy => hg.block g (hy.lt g hgy).2 (fun e => hny g hgy e.symm)), good_ints.stays hz hb, fun g hgy e => by
      rcases hat with h | h
      · exact hny g hgy (h ▸ e)
      · rw [h] at e; injection e with e; have := (hy.lt g hgy).2; omega⟩
  refine ⟨vs ++ [(pv, vv)], by simp [h1], by rw [List.length_append, fvs_snoc]; exact ho, fun j hj => ?_⟩
  rcases Nat.lt_or_ge j M.length with hlt | hge
  · have e1 : (vs ++ [(pv, vv)])[j]'(by simp; omega) = vs[j]'(by omega) := List.getElem_append_left (by omega)
    have e2 : (M ++ [f])[j] = M[j] := List.getElem_append_left hlt
    rw [e1, e2]
    exact hv _ _ _ (h3 j hlt).1 (h3 j hlt).2.1 (h3 j hlt).2.2
  · obtain rfl : j = M.length := by rw [List.length_append] at hj; simp at hj; omega
    have e1 : (vs ++ [(pv, vv)])[M.length]'(by simp; omega) = (pv, vv) := by rw [List.getElem_append_right (by omega)]; simp [h1]
    have e2 : (M ++ [f])[M.length] = f := by rw [List.getElem_append_right (by omega)]; simp
    rw [e1, e2]
    exact hv _ _ _ hm hi hn
theorem BRow.less {w : World} {base base' B : Nat} {out : Value} {M : List FactX} (h : BRow w base B out M) (hb : base' ≤ base) : BRow w base' B out M := by
  have own_less' : ∀ {n : Nat} {e : TypeId} {sz : Nat} {v : Value} {xs : List Value}, w.ownsRow base e sz v n xs → w.ownsRow base' e sz v n xs := fun h => by
    obtain ⟨h1, h2⟩ := h
    refine ⟨h1, ?_⟩
    rcases h2 with h2 | ⟨g, cap, cur, rfl, hbg, r⟩
    · exact .inl h2
    · exact .inr ⟨g, cap, cur, rfl, by omega, r⟩
  obtain ⟨vs, h1, h2, h3⟩ := h
  exact ⟨vs, h1, own_less' h2, fun j hj => ⟨by obtain ⟨us, a, b, c⟩ := (h3 j hj).1; exact ⟨us, a, own_less' b, c⟩, (h3 j hj).2⟩⟩
theorem BRow.rows {w : World} {base B N : Nat} {out : Value} {M : List FactX} (h : BRow w base B out M) (hB : B ≤ N) (hN : w.heap.size ≤ N) : rdSlice 2 rdFact w N [out] M ∧ ∃ A c, out = .slice A M.length c := by
  obtain ⟨vs, h1, h2, h3⟩ := h
  have hown := h2
  rcases h2.2 with ⟨rfl, e0⟩ | ⟨g, cap, cur, rfl, hb, hg, hnc, hcm, hcs, htk⟩
  · have : M = [] := List.length_eq_zero_iff.1 e0
    subst this
    exact ⟨⟨none, 0, rfl, Nat.le_refl _, by simp [maxLen], fun h => by simp at h⟩, none, 0, rfl⟩
  · refine ⟨⟨_, cap, rfl, hnc, hcm, fun h0 => ⟨g, 0, rfl, by have := (hown.lt g rfl).2; omega, fun i x hx => ?_⟩⟩, _, _, rfl⟩
    have hil := (List.getElem?_eq_some_iff.1 hx).1
    have hxe : M[i] = x := by rw [List.getElem?_eq_getElem hil] at hx; injection hx
    have hrow := (h3 i hil).1
    have hint := (h3 i hil).2.1
    rw [hxe] at hrow hint
    refine ⟨fv2 (vs[i]'(by omega)), rfl, fun j u hu => ?_, rfl, hrow.rows hB hN, good_ints.more hint hB⟩
    have hj : j < 2 := (List.getElem?_eq_some_iff.1 hu).1
    have hc := hown.cellAt (g := g) (i * 2 + j) (by omega)
    rw [Nat.zero_add, hc, fvs_at i (by omega) j hj, hu]
end Go.Proofs.YtkgifbnkkmeoiaaGreatDoor
