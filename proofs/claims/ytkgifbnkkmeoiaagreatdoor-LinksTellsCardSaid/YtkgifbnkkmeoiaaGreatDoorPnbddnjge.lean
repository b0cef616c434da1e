/- 3 texts of this claim, in build order. -/
import Derived.Test.YtkgifbnkkmeoiaaGreatDoorPpmbgbmgk
import Derived.Test.YtkgifbnkkmeoiaaGreatDoorPanpecdlh
import Derived.Test.YtkgifbnkkmeoiaaGreatDoorPbkbinjci
import Derived.Test.YtkgifbnkkmeoiaaGreatDoorPfimkpfpn
import Derived.Test.YtkgifbnkkmeoiaaGreatDoorPhoigjkig
/- Blocks of one type that stay: rows of one's own, told apart by their types. -/
namespace Go.Proofs.YtkgifbnkkmeoiaaGreatDoor
open Go.ChangeShapes Go.WideShapes Go.ChangeAt Go.RowKit
set_option linter.unusedVariables false
set_option linter.unusedSimpArgs false

/-- Blocks of this type stay, from base on. -/
def KeepT (e : TypeId) (base : Nat) (w w' : World) : Prop := ∀ g cur, base ≤ g → w.heap[g]? = some (.cells cur e (0, 0)) → w'.heap[g]? = w.heap[g]?
theorem KeepT.of_below {e : TypeId} {base : Nat} {w w' : World} (h : Below w.heap.size w w') : KeepT e base w w' := fun g cur hb hg => h.block g (Array.getElem?_eq_some_iff.1 hg).1
theorem KeepT.of_chg {e : TypeId} {base : Nat} {D : Nat → Prop} {w w' : World} (h : Chg D w w') (hD : ∀ g, D g → g < base) : KeepT e base w w' := fun g cur hb hg => h.block g (Array.getElem?_eq_some_iff.1 hg).1 (fun hd => by have := hD g hd; omega)
theorem own_keepT {w w' : World} {base n : Nat} {e : TypeId} {sz : Nat} {v : Value} {xs : List Value} (h : w.ownsRow base e sz v n xs) (k : KeepT e base w w') : w'.ownsRow base e sz v n xs := by
  obtain ⟨h1, h2⟩ := h
  refine ⟨h1, ?_⟩
  rcases h2 with h2 | ⟨g, cap, cur, rfl, hbg, hg, r⟩
  · exact .inl h2
  · exact .inr ⟨g, cap, cur, rfl, hbg, (k g cur hbg hg).trans hg, r⟩
theorem KeepT.of_grown {w w' : World} {base base' n : Nat} {e e' : TypeId} {sz : Nat} {v : Value} {xs : List Value} (hg : w.grownBy w' v.ownBlock) (h : w.ownsRow base' e' sz v n xs) (hne : e ≠ e') : KeepT e base w w' := by
  intro g cur hb hgg
  refine hg.block g (Array.getElem?_eq_some_iff.1 hgg).1 (fun e1 => ?_)
  rcases h.2 with ⟨rfl, _⟩ | ⟨g', cap, cur', rfl, hbg, hg', _⟩
  · cases e1
  · simp only [Value.ownBlock, Option.some.injEq] at e1
    subst e1
    rw [hgg] at hg'
    injection hg' with hg'
    injection hg' with _ h2 _
    exact hne h2
theorem RowL.keepT {w w' : World} {base : Nat} {out : Value} {M : List (List ByteArray)} (h : RowL w base out M) (k1 : KeepT 129 base w w') (k2 : KeepT 9 base w w') : RowL w' base out M := by
  obtain ⟨vs, h1, h2, h3⟩ := h
  exact ⟨vs, h1, own_keepT h2 k1, fun j hj => ⟨own_keepT (h3 j hj).1 k2, (h3 j hj).2⟩⟩
theorem own_cells2 {w : World} {base : Nat} {e : TypeId} {sz : Nat} {v : Value} {n : Nat} {xs : List Value} (h : w.ownsRow base e sz v n xs) :
    ∃ A c, v = .slice A n c ∧ n ≤ c ∧ c ≤ maxLen ∧ (0 < n → ∃ g, A = some ⟨g, 0, none⟩ ∧ base ≤ g ∧ g < w.heap.size ∧ (∃ cur, w.heap[g]? = some (.cells cur e (0, 0)) ∧ n * sz ≤ cur.size) ∧ ∀ j, j < n * sz → w.cell? ⟨g, j, none⟩ = xs[j]?) := by
  have hown := h
  obtain ⟨h1, h2⟩ := h
  rcases h2 with ⟨rfl, rfl⟩ | ⟨g, cap, cur, rfl, hbg, hg, hnc, hcm, hcs, htk⟩
  · exact ⟨none, 0, rfl, by omega, by simp [maxLen], fun h => by omega⟩
  · exact ⟨_, cap, rfl, hnc, hcm, fun h0 => ⟨g, rfl, hbg, (hown.lt g rfl).2, ⟨cur, hg, by rw [hcs]; exact Nat.mul_le_mul_right _ hnc⟩, fun j hj => hown.cellAt (g := g) j hj⟩⟩
theorem keepT_set {e : TypeId} {base b k : Nat} {w : World} {v : Value} (h : b < base) : KeepT e base w (w.setCell ⟨b, k, none⟩ v) := fun g cur hg _ => Below.heap_setCell _ _ _ g (by simp; omega)
end Go.Proofs.YtkgifbnkkmeoiaaGreatDoor
/- Rows of one's own, of facts that are one's own through and through. -/
namespace Go.Proofs.YtkgifbnkkmeoiaaGreatDoor
open Go.ChangeShapes Go.WideShapes Go.ChangeAt Go.RowKit
set_option linter.unusedVariables false
set_option linter.unusedSimpArgs false

/-- A row of one's own, of facts of one's own. -/
def CRow (w : World) (base : Nat) (out : Value) (M : List FactX) : Prop :=
  ∃ vs : List (Value × Value), ∃ hl : vs.length = M.length, w.ownsRow base 127 2 out M.length (fvs vs) ∧
    ∀ j (h : j < M.length), RowL w base (vs[j]'(by omega)).1 M[j].1 ∧ w.ownsRow base 3 1 (vs[j]'(by omega)).2 M[j].2.length (ivals M[j].2)
theorem CRow.nil_ (w : World) (base : Nat) : CRow w base (.slice none 0 0) [] := ⟨[], rfl, World.ownsRow_nil _ _ _ _, fun j hj => by simp at hj⟩
theorem CRow.less {w : World} {base base' : Nat} {out : Value} {M : List FactX} (h : CRow w base out M) (hb : base' ≤ base) : CRow w base' out M := by
  obtain ⟨vs, h1, h2, h3⟩ := h
  exact ⟨vs, h1, own_lessQ h2 hb, fun j hj => ⟨(h3 j hj).1.less hb, own_lessQ (h3 j hj).2 hb⟩⟩
theorem CRow.keepT {w w' : World} {base : Nat} {out : Value} {M : List FactX} (h : CRow w base out M) (k : ∀ e, KeepT e base w w') : CRow w' base out M := by
  obtain ⟨vs, h1, h2, h3⟩ := h
  exact ⟨vs, h1, own_keepT h2 (k _), fun j hj => ⟨(h3 j hj).1.keepT (k _) (k _), own_keepT (h3 j hj).2 (k _)⟩⟩
theorem CRow.on {w w' : World} {base : Nat} {out : Value} {M : List FactX} (h : CRow w base out M) (hb : Below w.heap.size w w') : CRow w' base out M := h.keepT (fun _ => KeepT.of_below hb)
theorem CRow.app {wa w4 : World} {base : Nat} {out v' pv vv : Value} {M : List FactX} {f : FactX} {vs : List (Value × Value)} (h1 : vs.length = M.length) (h2 : wa.ownsRow base 127 2 out M.length (fvs vs))
    (h3 : ∀ j (h : j < M.length), RowL wa base (vs[j]'(by omega)).1 M[j].1 ∧ wa.ownsRow base 3 1 (vs[j]'(by omega)).2 M[j].2.length (ivals M[j].2))
    (hm : RowL wa base pv f.1) (hi : wa.ownsRow base 3 1 vv f.2.length (ivals f.2))
    (ho : w4.ownsRow base 127 2 v' (M.length + 1) (fvs vs ++ fv2 (pv, vv))) (hg : wa.grownBy w4 out.ownBlock) : CRow w4 base v' (M ++ [f]) := by
  have kk : ∀ e, e ≠ 127 → KeepT e base wa w4 := fun e he => KeepT.of_grown hg h2 he
  have hv : ∀ (y z : Value) (x : FactX), RowL wa base y x.1 → wa.ownsRow base 3 1 z x.2.length (ivals x.2) → RowL w4 base y x.1 ∧ w4.ownsRow base 3 1 z x.2.length (ivals x.2) := fun y z x hy hz =>
    ⟨hy.keepT (kk _ (by decide)) (kk _ (by decide)), own_keepT hz (kk _ (by decide))⟩
  refine ⟨vs ++ [(pv, vv)], by simp [h1], by rw [List.length_append, fvs_snoc]; exact ho, fun j hj => ?_⟩
  rcases Nat.lt_or_ge j M.length with hlt | hge
  · have e1 : (vs ++ [(pv, vv)])[j]'(by simp; omega) = vs[j]'(by omega) := List.getElem_append_left (by omega)
    have e2 : (M ++ [f])[j] = M[j] := List.getElem_append_left hlt
    rw [e1, e2]
    exact hv _ _ _ (h3 j hlt).1 (h3 j hlt).2
  · obtain rfl : j = M.length := by rw [List.length_append] at hj; simp at hj; omega
    have e1 : (vs ++ [(pv, vv)])[M.length]'(by simp; omega) = (pv, vv) := by rw [List.getElem_append_right (by omega)]; simp [h1]
    have e2 : (M ++ [f])[M.length] = f := by rw [List.getElem_append_right (by omega)]; simp
    rw [e1, e2]
    exact hv _ _ _ hm hi
def FactsIn (M : List FactX) : Prop := ∀ f ∈ M, (∀ p ∈ f.1, ∀ s ∈ p, s.size ≤ maxLen) ∧ ∀ n ∈ f.2, InI64 n
theorem CRow.rows {w : World} {base : Nat} {out : Value} {M : List FactX} (h : CRow w base out M) (hs : FactsIn M) : rdSlice 2 rdFact w w.heap.size [out] M := by
  obtain ⟨vs, h1, h2, h3⟩ := h
  obtain ⟨A, c, rfl, g1, g2, g3⟩ := own_cells2 h2
  refine ⟨A, c, rfl, g1, g2, fun h0 => ?_⟩
  obtain ⟨g, rfl, -, hg, -, hcell⟩ := g3 h0
  refine ⟨g, 0, rfl, hg, fun i x hx => ?_⟩
  have hil := (List.getElem?_eq_some_iff.1 hx).1
  have hxe : M[i] = x := by rw [List.getElem?_eq_getElem hil] at hx; injection hx
  have hrow := (h3 i hil).1
  have hint := (h3 i hil).2
  rw [hxe] at hrow hint
  have hxm : x ∈ M := hxe ▸ List.getElem_mem hil
  refine ⟨fv2 (vs[i]'(by omega)), rfl, fun j u hu => ?_, rfl, hrow.rows (hs x hxm).1, rdInts_of_own rfl hint (hs x hxm).2⟩
  have hj : j < 2 := (List.getElem?_eq_some_iff.1 hu).1
  rw [Nat.zero_add, hcell (i * 2 + j) (by omega), fvs_at i (by omega) j hj, hu]
theorem facts_in {w : World} {B : Nat} {v : Value} {l : List FactX} (h : rdSlice 2 rdFact w B [v] l) : FactsIn l := by
  obtain ⟨A, c, e, -, -⟩ := h.open_
  rw [e] at h
  intro f hf
  obtain ⟨k, hk, rfl⟩ := List.mem_iff_getElem.1 hf
  obtain ⟨b, off, AP, cP, AV, cV, -, -, -, -, r0, r1⟩ := facts_at h hk
  refine ⟨paths_sz r0, fun n hn => ?_⟩
  obtain ⟨j, hj, rfl⟩ := List.mem_iff_getElem.1 hn
  obtain ⟨_, _, _, _, _, hii⟩ := ints_at' r1 hj
  exact hii
end Go.Proofs.YtkgifbnkkmeoiaaGreatDoor
/- What batch.Read reads, plainly; what was put is read again. -/
namespace Go.Proofs.YtkgifbnkkmeoiaaGreatDoor
open Go.ChangeShapes Go.WideShapes Go.ChangeAt Go.RowKit
set_option linter.unusedVariables false
set_option linter.unusedSimpArgs false

def bad (e : Int) : Int := if e = 0 then 2 else e
/-- Some numbers. -/
def valsR (l : List UInt8) : Nat → Nat → Int → List Int × Nat × Int
  | 0, a, e => ([], a, e)
  | k + 1, a, e => ((rInt l a e (-2305843009213693952) 2305843009213693952).1 :: (valsR l k (rInt l a e (-2305843009213693952) 2305843009213693952).2.1 (rInt l a e (-2305843009213693952) 2305843009213693952).2.2).1, (valsR l k (rInt l a e (-2305843009213693952) 2305843009213693952).2.1 (rInt l a e (-2305843009213693952) 2305843009213693952).2.2).2)
/-- A path: what it is, the place, the error. -/
def pathS (l : List UInt8) (a : Nat) (e : Int) : List ByteArray × Nat × Int :=
  ((pathR ⟨(rText l a e 38).1.toArray⟩).1, (rText l a e 38).2.1, if (pathR ⟨(rText l a e 38).1.toArray⟩).2 = 0 then (rText l a e 38).2.2 else bad (rText l a e 38).2.2)
def pathsR (l : List UInt8) : Nat → Nat → Int → List (List ByteArray) × Nat × Int
  | 0, a, e => ([], a, e)
  | k + 1, a, e => ((pathS l a e).1 :: (pathsR l k (pathS l a e).2.1 (pathS l a e).2.2).1, (pathsR l k (pathS l a e).2.1 (pathS l a e).2.2).2)
def factR (l : List UInt8) (a : Nat) (e : Int) : FactX × Nat × Int :=
  let n := rInt l a e 0 3
  let ps := pathsR l n.1.toNat n.2.1 n.2.2
  let m := rInt l ps.2.1 ps.2.2 0 2
  let vs := valsR l m.1.toNat m.2.1 m.2.2
  ((ps.1, vs.1), vs.2)
def factsR (l : List UInt8) : Nat → Nat → Int → List FactX × Nat × Int
  | 0, a, e => ([], a, e)
  | k + 1, a, e => ((factR l a e).1 :: (factsR l k (factR l a e).2.1 (factR l a e).2.2).1, (factsR l k (factR l a e).2.1 (factR l a e).2.2).2)
def readB (l : List UInt8) (a : Nat) (e : Int) : List FactX × Nat × Int :=
  let n := rInt l a e 0 8
  let fs := factsR l n.1.toNat n.2.1 n.2.2
  (if fs.2.2 = 0 then fs.1 else [], fs.2)
/-! ### What may come of it -/
theorem rInt_ok (l : List UInt8) (a : Nat) (e least most : Int) (ha : a ≤ l.length) (h0 : least ≤ 0) (h1 : 0 ≤ most) : least ≤ (rInt l a e least most).1 ∧ (rInt l a e least most).1 ≤ most ∧ (rInt l a e least most).2.1 ≤ l.length := by
  unfold rInt
  split
  · exact ⟨h0, h1, ha⟩
  · split
    · exact ⟨h0, h1, ha⟩
    · split
      · exact ⟨h0, h1, ha⟩
      · rename_i h2 h3 h4
        refine ⟨by omega, by omega, ?_⟩
        rcases getInt_says (l.drop a) with (h | h) | ⟨k, z, q1, q2, h⟩
        · rw [h] at h3; exact absurd h3 (by decide)
        · rw [h] at h3; exact absurd h3 (by decide)
        · rw [h]; rw [List.length_drop] at q2; simp; omega
theorem valsR_ok (l : List UInt8) : ∀ (k a : Nat) (e : Int), a ≤ l.length → (valsR l k a e).1.length = k ∧ (∀ n ∈ (valsR l k a e).1, InI64 n) ∧ (valsR l k a e).2.1 ≤ l.length := by
  intro k
  induction k with
  | zero => intro a e ha; exact ⟨rfl, by simp [valsR], ha⟩
  | succ k ih =>
    intro a e ha
    obtain ⟨h1, h2, h3⟩ := rInt_ok l a e (-2305843009213693952) 2305843009213693952 ha (by omega) (by omega)
    obtain ⟨i1, i2, i3⟩ := ih _ (rInt l a e (-2305843009213693952) 2305843009213693952).2.2 h3
    refine ⟨by simp [valsR, i1], fun n hn => ?_, by unfold valsR; exact i3⟩
    unfold valsR at hn
    rcases List.mem_cons.1 hn with rfl | hn
    · unfold InI64; omega
    · exact i2 n hn
theorem pathR_size (s : ByteArray) : ∀ x ∈ (pathR s).1, x.size ≤ 12 := by
  rcases pathR_cases s with ⟨-, h⟩ | h
  · exact (mayB_size h).2
  · rw [h]; simp
theorem pathR_len (s : ByteArray) : (pathR s).1.length ≤ 3 := by
  rcases pathR_cases s with ⟨-, h⟩ | h
  · exact (mayB_size h).1
  · rw [h]; simp
theorem pathS_ok (l : List UInt8) (a : Nat) (e : Int) (ha : a ≤ l.length) : (pathS l a e).2.1 ≤ l.length ∧ (∀ x ∈ (pathS l a e).1, x.size ≤ maxLen) ∧ (pathS l a e).1.length ≤ 3 := by
  obtain ⟨t, a', e', h, h1, h2, -, -⟩ := rText_says l a e 38 ha
  unfold pathS
  rw [h]
  exact ⟨h2, fun x hx => by have := pathR_size _ x hx; unfold maxLen; omega, pathR_len _⟩
theorem pathsR_ok (l : List UInt8) : ∀ (k a : Nat) (e : Int), a ≤ l.length → (pathsR l k a e).1.length = k ∧ (∀ p ∈ (pathsR l k a e).1, (∀ x ∈ p, x.size ≤ maxLen) ∧ p.length ≤ 3) ∧ (pathsR l k a e).2.1 ≤ l.length := by
  intro k
  induction k with
  | zero => intro a e ha; exact ⟨rfl, by simp [pathsR], ha⟩
  | succ k ih =>
    intro a e ha
    obtain ⟨h1, h2, h3⟩ := pathS_ok l a e ha
    obtain ⟨i1, i2, i3⟩ := ih _ (pathS l a e).2.2 h1
    refine ⟨by simp [pathsR, i1], fun n hn => ?_, by unfold pathsR; exact i3⟩
    unfold pathsR at hn
    rcases List.mem_cons.1 hn with rfl | hn
    · exact ⟨h2, h3⟩
    · exact i2 n hn
def FactOk (f : FactX) : Prop := f.1.length ≤ 3 ∧ f.2.length ≤ 2 ∧ (∀ p ∈ f.1, (∀ x ∈ p, x.size ≤ maxLen) ∧ p.length ≤ 3) ∧ ∀ n ∈ f.2, InI64 n
theorem factR_ok (l : List UInt8) (a : Nat) (e : Int) (ha : a ≤ l.length) : FactOk (factR l a e).1 ∧ (factR l a e).2.1 ≤ l.length := by
  obtain ⟨h1, h2, h3⟩ := rInt_ok l a e 0 3 ha (by omega) (by omega)
  obtain ⟨i1, i2, i3⟩ := pathsR_ok l (rInt l a e 0 3).1.toNat _ (rInt l a e 0 3).2.2 h3
  obtain ⟨j1, j2, j3⟩ := rInt_ok l _ (pathsR l (rInt l a e 0 3).1.toNat (rInt l a e 0 3).2.1 (rInt l a e 0 3).2.2).2.2 0 2 i3 (by omega) (by omega)
  obtain ⟨k1, k2, k3⟩ := valsR_ok l (rInt l (pathsR l (rInt l a e 0 3).1.toNat (rInt l a e 0 3).2.1 (rInt l a e 0 3).2.2).2.1 (pathsR l (rInt l a e 0 3).1.toNat (rInt l a e 0 3).2.1 (rInt l a e 0 3).2.2).2.2 0 2).1.toNat _ (rInt l (pathsR l (rInt l a e 0 3).1.toNat (rInt l a e 0 3).2.1 (rInt l a e 0 3).2.2).2.1 (pathsR l (rInt l a e 0 3).1.toNat (rInt l a e 0 3).2.1 (rInt l a e 0 3).2.2).2.2 0 2).2.2 j3
  unfold factR
  exact ⟨⟨by simp only; omega, by simp only; omega, i2, k2⟩, k3⟩
theorem factsR_ok (l : List UInt8) : ∀ (k a : Nat) (e : Int), a ≤ l.length → (factsR l k a e).1.length = k ∧ (∀ f ∈ (factsR l k a e).1, FactOk f) ∧ (factsR l k a e).2.1 ≤ l.length := by
  intro k
  induction k with
  | zero => intro a e ha; exact ⟨rfl, by simp [factsR], ha⟩
  | succ k ih =>
    intro a e ha
    obtain ⟨h1, h2⟩ := factR_ok l a e ha
    obtain ⟨i1, i2, i3⟩ := ih _ (factR l a e).2.2 h2
    refine ⟨by simp [factsR, i1], fun n hn => ?_, by unfold factsR; exact i3⟩
    unfold factsR at hn
    rcases List.mem_cons.1 hn with rfl | hn
    · exact h1
    · exact i2 n hn
theorem readB_ok (l : List UInt8) (a : Nat) (e : Int) (ha : a ≤ l.length) : (readB l a e).1.length ≤ 8 ∧ (∀ f ∈ (readB l a e).1, FactOk f) ∧ (readB l a e).2.1 ≤ l.length := by
  obtain ⟨h1, h2, h3⟩ := rInt_ok l a e 0 8 ha (by omega) (by omega)
  obtain ⟨i1, i2, i3⟩ := factsR_ok l (rInt l a e 0 8).1.toNat _ (rInt l a e 0 8).2.2 h3
  unfold readB
  refine ⟨?_, ?_, i3⟩
  · simp only
    split
    · omega
    · simp
  · simp only
    split
    · exact i2
    · simp
theorem FactOk.in_ {L : List FactX} (h : ∀ f ∈ L, FactOk f) : FactsIn L := fun f hf => ⟨fun p hp => ((h f hf).2.2.1 p hp).1, (h f hf).2.2.2⟩
/-! ### What was put -/
theorem valsR_put (ns : List Int) (h : ∀ n ∈ ns, valB n = true) : ∀ pre post : List UInt8, valsR (pre ++ (ns.flatMap putInt ++ post)) ns.length pre.length 0 = (ns, pre.length + (ns.flatMap putInt).length, 0) := by
  induction ns with
  | nil => intro pre post; rfl
  | cons n ns ih =>
    intro pre post
    have hv := h n List.mem_cons_self
    unfold valB at hv
    rw [Bool.and_eq_true] at hv
    have h1 := of_decide_eq_true hv.1
    have h2 := of_decide_eq_true hv.2
    have e : pre ++ ((n :: ns).flatMap putInt ++ post) = pre ++ (putInt n ++ (ns.flatMap putInt ++ post)) := by rw [List.flatMap_cons, List.append_assoc]
    rw [e]
    show valsR _ (ns.length + 1) _ _ = _
    unfold valsR
    rw [rInt_put pre _ n _ _ (by omega) (by omega) h1 h2]
    have i := ih (fun m hm => h m (List.mem_cons_of_mem _ hm)) (pre ++ putInt n) post
    rw [List.append_assoc, List.length_append] at i
    rw [i, List.flatMap_cons, List.length_append, Nat.add_assoc]
theorem pathS_put (p : List ByteArray) (h : mayB p = true) (pre post : List UInt8) : pathS (pre ++ (putP p ++ post)) pre.length 0 = (p, pre.length + (putP p).length, 0) := by
  have ht := textB_size h
  have hl : (textB p).data.toList.length = (textB p).size := by rw [Array.length_toList]; rfl
  have hr := rText_put pre post (textB p).data.toList 38 (by omega) (by omega)
  have e : pre ++ (putP p ++ post) = pre ++ (putInt ((textB p).data.toList.length : Nat) ++ ((textB p).data.toList ++ post)) := by unfold putP; rw [hl, List.append_assoc]
  have hb : (⟨(textB p).data.toList.toArray⟩ : ByteArray) = textB p := by simp
  unfold pathS
  rw [e, hr]
  simp only
  rw [hb, pathR_text h]
  simp only [if_true]
  unfold putP
  rw [List.length_append, hl, Nat.add_assoc]
theorem pathsR_put (ps : List (List ByteArray)) (h : ∀ p ∈ ps, mayB p = true) : ∀ pre post : List UInt8, pathsR (pre ++ (putM ps ++ post)) ps.length pre.length 0 = (ps, pre.length + (putM ps).length, 0) := by
  induction ps with
  | nil => intro pre post; rfl
  | cons p ps ih =>
    intro pre post
    have e : pre ++ (putM (p :: ps) ++ post) = pre ++ (putP p ++ (putM ps ++ post)) := by unfold putM; rw [List.flatMap_cons, List.append_assoc]
    rw [e]
    show pathsR _ (ps.length + 1) _ _ = _
    unfold pathsR
    rw [pathS_put p (h p List.mem_cons_self)]
    have i := ih (fun m hm => h m (List.mem_cons_of_mem _ hm)) (pre ++ putP p) post
    rw [List.append_assoc, List.length_append] at i
    rw [i]
    unfold putM
    rw [List.flatMap_cons, List.length_append, Nat.add_assoc]
theorem factR_put (f : FactX) (h : plainFt f = true) (pre post : List UInt8) : factR (pre ++ (putFact f ++ post)) pre.length 0 = (f, pre.length + (putFact f).length, 0) := by
  obtain ⟨h1, h2, h3, h4⟩ := plainFt_parts h
  have e1 : pre ++ (putFact f ++ post) = pre ++ (putInt f.1.length ++ (putM f.1 ++ (putInt f.2.length ++ (f.2.flatMap putInt ++ post)))) := by unfold putFact; simp only [List.append_assoc]
  have e2 : pre ++ (putFact f ++ post) = (pre ++ putInt f.1.length) ++ (putM f.1 ++ (putInt f.2.length ++ (f.2.flatMap putInt ++ post))) := by rw [e1, List.append_assoc]
  have e3 : pre ++ (putFact f ++ post) = (pre ++ putInt f.1.length ++ putM f.1) ++ (putInt f.2.length ++ (f.2.flatMap putInt ++ post)) := by rw [e1]; simp only [List.append_assoc]
  have e4 : pre ++ (putFact f ++ post) = (pre ++ putInt f.1.length ++ putM f.1 ++ putInt f.2.length) ++ (f.2.flatMap putInt ++ post) := by rw [e1]; simp only [List.append_assoc]
  have r1 := rInt_put pre (putM f.1 ++ (putInt f.2.length ++ (f.2.flatMap putInt ++ post))) f.1.length 0 3 (by omega) (by omega) (by omega) (by omega)
  rw [← e1] at r1
  have r2 := pathsR_put f.1 h3 (pre ++ putInt f.1.length) (putInt f.2.length ++ (f.2.flatMap putInt ++ post))
  rw [← e2, List.length_append] at r2
  have r3 := rInt_put (pre ++ putInt f.1.length ++ putM f.1) (f.2.flatMap putInt ++ post) f.2.length 0 2 (by omega) (by omega) (by omega) (by omega)
  rw [← e3, List.length_append, List.length_append] at r3
  have r4 := valsR_put f.2 h4 (pre ++ putInt f.1.length ++ putM f.1 ++ putInt f.2.length) post
  rw [← e4, List.length_append, List.length_append, List.length_append] at r4
  unfold factR
  simp only [r1, Int.toNat_natCast, r2, r3, r4]
  unfold putFact
  simp only [List.length_append, Nat.add_assoc]
theorem factsR_put (fs : List FactX) (h : ∀ f ∈ fs, plainFt f = true) : ∀ pre post : List UInt8, factsR (pre ++ (fs.flatMap putFact ++ post)) fs.length pre.length 0 = (fs, pre.length + (fs.flatMap putFact).length, 0) := by
  induction fs with
  | nil => intro pre post; rfl
  | cons f fs ih =>
    intro pre post
    have e : pre ++ ((f :: fs).flatMap putFact ++ post) = pre ++ (putFact f ++ (fs.flatMap putFact ++ post)) := by rw [List.flatMap_cons, List.append_assoc]
    rw [e]
    show factsR _ (fs.length + 1) _ _ = _
    unfold factsR
    rw [factR_put f (h f List.mem_cons_self)]
    have i := ih (fun m hm => h m (List.mem_cons_of_mem _ hm)) (pre ++ putFact f) post
    rw [List.append_assoc, List.length_append] at i
    rw [i, List.flatMap_cons, List.length_append, Nat.add_assoc]
theorem readB_put (fs : List FactX) (h8 : fs.length ≤ 8) (h : ∀ f ∈ fs, plainFt f = true) (post : List UInt8) : readB (putFacts fs ++ post) 0 0 = (fs, (putFacts fs).length, 0) := by
  have e : putFacts fs ++ post = [] ++ (putInt fs.length ++ (fs.flatMap putFact ++ post)) := by unfold putFacts; rw [List.append_assoc]; rfl
  have r1 := rInt_put [] (fs.flatMap putFact ++ post) fs.length 0 8 (by omega) (by omega) (by omega) (by omega)
  rw [← e] at r1
  have r2 := factsR_put fs h (putInt fs.length) post
  have e2 : putFacts fs ++ post = putInt fs.length ++ (fs.flatMap putFact ++ post) := by rw [e]; rfl
  rw [← e2] at r2
  simp only [List.length_nil, Nat.zero_add] at r1
  unfold readB
  simp only [r1, Int.toNat_natCast, r2, if_true]
  unfold putFacts
  rw [List.length_append]
end Go.Proofs.YtkgifbnkkmeoiaaGreatDoor
