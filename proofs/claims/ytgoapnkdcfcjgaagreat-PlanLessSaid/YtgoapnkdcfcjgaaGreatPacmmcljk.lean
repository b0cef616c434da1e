/- 5 texts of this claim, in build order. -/
import Derived.Test.YtgoapnkdcfcjgaaGreatPnlepmkbe
/- More words on memory that many layers use: slices cut, rows of a call's own, one block updated, things that own several blocks, rows that are written over. -/
namespace Go.Proofs.YtgoapnkdcfcjgaaGreat
open Go.ChangeShapes Go.WideShapes Go.ChangeAt Go.RowKit
set_option linter.unusedVariables false

def Stays (v : Value) (w : World) (e : Ending) (w' : World) : Prop := e = .returned v ∧ Qu w w'
/-- The first bytes of a slice. -/
theorem Sl.head {w : World} {B : Nat} {A : Option Addr} {n c : Nat} {xs : List Value} (m : Nat) (h : Sl w B (.slice A n c) xs) (hm : m ≤ n) : Sl w B (.slice A m c) (xs.take m) := by
  obtain ⟨A', c', e, h2, h3, h4⟩ := h
  injection e with e1 e2 e3
  subst e1; subst e3; subst e2
  have hl : (xs.take m).length = m := by rw [List.length_take]; omega
  refine ⟨A, _, by rw [hl], by omega, h3, fun h0 => ?_⟩
  obtain ⟨b, off, h5, h6, h7⟩ := h4 (by omega)
  refine ⟨b, off, h5, h6, fun j u hu => h7 j u ?_⟩
  rw [List.getElem?_take] at hu
  split at hu
  · exact hu
  · cases hu
theorem Sl.qu' {w w' : World} {B : Nat} {v : Value} {xs : List Value} (h : Sl w B v xs) (k : Qu w w') : Sl w' B v xs := by
  obtain ⟨n, rfl⟩ := k
  exact h
theorem own_cells {w : World} {base : Nat} {e : TypeId} {v : Value} {n : Nat} {xs : List Value} (h : w.ownsRow base e 1 v n xs) :
    ∃ A c, v = .slice A n c ∧ n ≤ c ∧ c ≤ maxLen ∧ (0 < n → ∃ g, A = some ⟨g, 0, none⟩ ∧ base ≤ g ∧ g < w.heap.size ∧ ∀ j, j < n → (∃ u, w.cell? ⟨g, j, none⟩ = some u) ∧ w.frozen? ⟨g, j, none⟩ = false) := by
  have hown := h
  obtain ⟨h1, h2⟩ := h
  rcases h2 with ⟨rfl, rfl⟩ | ⟨g, cap, cur, rfl, hbg, hg, hnc, hcm, hcs, htk⟩
  · exact ⟨none, 0, rfl, by omega, by simp [maxLen], fun h => by omega⟩
  · refine ⟨_, cap, rfl, hnc, hcm, fun h0 => ⟨g, rfl, hbg, (hown.lt g rfl).2, fun j hj => ?_⟩⟩
    have hc := hown.cellAt (g := g) j (by omega)
    refine ⟨⟨xs[j]'(by omega), by rw [hc]; exact List.getElem?_eq_getElem (by omega)⟩, ?_⟩
    exact hown.frozenAt j
/-- What is not said of the block p is as it was. -/
def Upd (p : Nat) (w w' : World) : Prop := w.grownBy w' (some p)
theorem Upd.refl (p : Nat) (w : World) : Upd p w w := World.grownBy.refl _ _
theorem Upd.trans {p : Nat} {a b c : World} (h : Upd p a b) (k : Upd p b c) : Upd p a c := World.grownBy.trans h k
theorem Upd.qu {p : Nat} {a b c : World} (h : Upd p a b) (k : Qu b c) : Upd p a c := by
  obtain ⟨n, rfl⟩ := k
  exact ⟨h.os, h.tape, h.output, h.size, h.block⟩
theorem Upd.below {p B : Nat} {w w' : World} (h : Upd p w w') (hB : B ≤ p) (hs : p < w.heap.size) : Below B w w' :=
  ⟨h.os, h.tape, h.output, h.size, fun k hk => h.block k (by omega) (by intro e; injection e with e; omega)⟩
theorem Upd.setCell (p i : Nat) (w : World) (v : Value) : Upd p w (w.setCell ⟨p, i, none⟩ v) := by
  exact ⟨rfl, rfl, rfl, by simp, fun k _ hk => Below.heap_setCell _ _ _ k (fun e => hk (by rw [e]))⟩
theorem Upd.new {p : Nat} {a b c : World} (h : Upd p a b) (k : Below a.heap.size b c) : Upd p a c :=
  ⟨k.os.trans h.os, k.tape.trans h.tape, k.output.trans h.output, Nat.le_trans h.size k.size, fun i hi hn => (k.block i hi).trans (h.block i hi hn)⟩
theorem Upd.cellAt {p b i : Nat} {w w' : World} {v : Option Value} (hu : Upd p w w') (hb : b < w.heap.size) (hne : b ≠ p) (h : w.cell? ⟨b, i, none⟩ = v) : w'.cell? ⟨b, i, none⟩ = v :=
  (World.grownBy.cell_far hu _ hb (fun h => hne (by injection h))).trans h
theorem Upd.frozenAt {p b i : Nat} {w w' : World} {v : Bool} (hu : Upd p w w') (hb : b < w.heap.size) (hne : b ≠ p) (h : w.frozen? ⟨b, i, none⟩ = v) : w'.frozen? ⟨b, i, none⟩ = v :=
  (World.grownBy.frozen_far hu _ hb (fun h => hne (by injection h))).trans h
/-- From w to w' no block that was there has changed, but for blocks of D. -/
structure Chg (D : Nat → Prop) (w w' : World) : Prop where
  os : w'.os = w.os
  tape : w'.tape = w.tape
  output : w'.output = w.output
  size : w.heap.size ≤ w'.heap.size
  block : ∀ k, k < w.heap.size → ¬ D k → w'.heap[k]? = w.heap[k]?
/-- D' is D, and blocks that were not there in w. -/
def Grow (w : World) (D D' : Nat → Prop) : Prop := (∀ k, D k → D' k) ∧ ∀ k, D' k → D k ∨ w.heap.size ≤ k
theorem Grow.refl (w : World) (D : Nat → Prop) : Grow w D D := ⟨fun _ h => h, fun _ h => .inl h⟩
theorem Chg.refl (D : Nat → Prop) (w : World) : Chg D w w := ⟨rfl, rfl, rfl, Nat.le_refl _, fun _ _ _ => rfl⟩
theorem Chg.of_below {D : Nat → Prop} {w w' : World} (h : Below w.heap.size w w') : Chg D w w' := ⟨h.os, h.tape, h.output, h.size, fun k hk _ => h.block k hk⟩
theorem Chg.of_qu {D : Nat → Prop} {w w' : World} (h : Qu w w') : Chg D w w' := Chg.of_below (h.below _)
theorem Chg.below {D : Nat → Prop} {w w' : World} {B : Nat} (h : Chg D w w') (hB : B ≤ w.heap.size) (hD : ∀ k, D k → B ≤ k) : Below B w w' :=
  ⟨h.os, h.tape, h.output, h.size, fun k hk => h.block k (by omega) (fun hd => by have := hD k hd; omega)⟩
theorem Chg.trans {D D' : Nat → Prop} {a b c : World} (h : Chg D a b) (k : Chg D' b c) (hD : ∀ i, D' i → D i ∨ a.heap.size ≤ i) : Chg D a c :=
  ⟨k.os.trans h.os, k.tape.trans h.tape, k.output.trans h.output, Nat.le_trans h.size k.size, fun i hi hd => (k.block i (Nat.lt_of_lt_of_le hi h.size) (fun hd' => by
    rcases hD i hd' with h1 | h1
    · exact hd h1
    · omega)).trans (h.block i hi hd)⟩
theorem Chg.mono {D D' : Nat → Prop} {a b : World} (h : Chg D a b) (hD : ∀ i, D i → D' i) : Chg D' a b := ⟨h.os, h.tape, h.output, h.size, fun k hk hd => h.block k hk (fun h' => hd (hD k h'))⟩
theorem Chg.same {D : Nat → Prop} {a b c : World} (h : Chg D a b) (k : Chg D b c) : Chg D a c := h.trans k (fun _ h => .inl h)
theorem Chg.upd {D : Nat → Prop} {p : Nat} {w w' : World} (h : Upd p w w') (hp : D p) : Chg D w w' :=
  ⟨h.os, h.tape, h.output, h.size, fun k hk hd => h.block k hk (fun e => by injection e with e; exact hd (e ▸ hp))⟩
theorem Grow.trans {a b : World} {D D' D'' : Nat → Prop} (h : Grow a D D') (k : Grow b D' D'') (hs : a.heap.size ≤ b.heap.size) : Grow a D D'' :=
  ⟨fun i hi => k.1 i (h.1 i hi), fun i hi => by
    rcases k.2 i hi with h1 | h1
    · exact h.2 i h1
    · exact .inr (by omega)⟩
/-- The blocks of E are as they were. -/
def Kept (E : Nat → Prop) (w w' : World) : Prop := ∀ k, E k → w'.heap[k]? = w.heap[k]?
theorem Chg.kept {D E : Nat → Prop} {w w' : World} (h : Chg D w w') (hE : ∀ k, E k → k < w.heap.size ∧ ¬ D k) : Kept E w w' := fun k hk => h.block k (hE k hk).1 (hE k hk).2
theorem Kept.cell {E : Nat → Prop} {w w' : World} (h : Kept E w w') {b i : Nat} {v : Option Value} (hb : E b) (hc : w.cell? ⟨b, i, none⟩ = v) : w'.cell? ⟨b, i, none⟩ = v := (World.cell?_of_block (a := ⟨b, i, none⟩) (h b hb)).trans hc
theorem Kept.frozen {E : Nat → Prop} {w w' : World} (h : Kept E w w') {b i : Nat} {v : Bool} (hb : E b) (hc : w.frozen? ⟨b, i, none⟩ = v) : w'.frozen? ⟨b, i, none⟩ = v := (World.frozen?_of_block (a := ⟨b, i, none⟩) (h b hb)).trans hc
/-- A slice of one-cell elements whose memory lies in blocks of E. -/
def SlE (w : World) (E : Nat → Prop) (v : Value) (xs : List Value) : Prop :=
  ∃ A c, v = .slice A xs.length c ∧ xs.length ≤ c ∧ c ≤ maxLen ∧
    (0 < xs.length → ∃ b off, A = some ⟨b, off, none⟩ ∧ E b ∧ ∀ j u, xs[j]? = some u → w.cell? ⟨b, off + j, none⟩ = some u)
theorem SlE.kept {w w' : World} {E : Nat → Prop} {v : Value} {xs : List Value} (h : SlE w E v xs) (k : Kept E w w') : SlE w' E v xs := by
  obtain ⟨A, c, h1, h2, h3, h4⟩ := h
  refine ⟨A, c, h1, h2, h3, fun h => ?_⟩
  obtain ⟨b, off, e, hE, hc⟩ := h4 h
  exact ⟨b, off, e, hE, fun j u hu => k.cell hE (hc j u hu)⟩
theorem SlE.mono {w : World} {E E' : Nat → Prop} {v : Value} {xs : List Value} (h : SlE w E v xs) (k : ∀ i, E i → E' i) : SlE w E' v xs := by
  obtain ⟨A, c, h1, h2, h3, h4⟩ := h
  refine ⟨A, c, h1, h2, h3, fun h => ?_⟩
  obtain ⟨b, off, e, hE, hc⟩ := h4 h
  exact ⟨b, off, e, k b hE, hc⟩
theorem SlE.sl {w : World} {E : Nat → Prop} {v : Value} {xs : List Value} (h : SlE w E v xs) : Sl w w.heap.size v xs := by
  obtain ⟨A, c, h1, h2, h3, h4⟩ := h
  refine ⟨A, c, h1, h2, h3, fun h => ?_⟩
  obtain ⟨b, off, e, hE, hc⟩ := h4 h
  exact ⟨b, off, e, World.block_lt_of_cell? w ⟨b, off + 0, none⟩ (hc 0 _ (List.getElem?_eq_getElem h)), hc⟩
theorem SlE.of_own {w : World} {base : Nat} {E : Nat → Prop} {e : TypeId} {v : Value} {n : Nat} {xs : List Value} (h : w.ownsRow base e 1 v n xs) (hE : ∀ g, v.ownBlock = some g → E g) : SlE w E v xs := by
  have hx := h
  obtain ⟨h1, h2⟩ := h
  rcases h2 with ⟨rfl, rfl⟩ | ⟨g, cap, cur, rfl, hb, hg, hnc, hcm, hcs, htk⟩
  · obtain rfl := List.eq_nil_of_length_eq_zero (by omega : xs.length = 0)
    exact ⟨none, 0, rfl, by simp, by simp [maxLen], by simp⟩
  · refine ⟨some ⟨g, 0, none⟩, cap, by rw [show xs.length = n by omega], by omega, hcm, fun _ => ⟨g, 0, rfl, hE g rfl, fun j u hu => ?_⟩⟩
    have hj : j < xs.length := (List.getElem?_eq_some_iff.1 hu).1
    rw [Nat.zero_add, hx.cellAt j (by omega), hu]
/-- A row stays where its block does. -/
theorem own_kept {w w' : World} {base : Nat} {e : TypeId} {sz n : Nat} {v : Value} {xs : List Value} (h : w.ownsRow base e sz v n xs) (k : ∀ g, v.ownBlock = some g → w'.heap[g]? = w.heap[g]?) : w'.ownsRow base e sz v n xs := by
  obtain ⟨h1, h2⟩ := h
  refine ⟨h1, ?_⟩
  rcases h2 with h2 | ⟨g, cap, cur, rfl, hb, hg, r⟩
  · exact .inl h2
  · exact .inr ⟨g, cap, cur, rfl, hb, (k g rfl).trans hg, r⟩
theorem own_lt {w : World} {base : Nat} {e : TypeId} {sz n : Nat} {v : Value} {xs : List Value} (h : w.ownsRow base e sz v n xs) : ∀ g, v.ownBlock = some g → base ≤ g ∧ g < w.heap.size := fun g hg => h.lt g hg
section
variable {P : Program}
/-- append onto a row of the call's own, and where the new row lies. -/
theorem app_own_at {ops : Array Oper} {rest : List Oper} {o : Oper} {a : Act} {w : World} {Q : Exit → Act → World → Prop} (s x : Operand) (t tx : TypeId) (hgd : o.guard = none)
    (ho : o.op = .call { callee := .builtin .append, args := #[s, x], argTypes := #[t, tx] })
    (base : Nat) (e : TypeId) (i : TypeInfo) (z : Value) (size bytes : Nat) (ht : P.underlying t = some (.slice e)) (hi : P.info? e = some i) (hz : i.zero = some z)
    (hsize : i.size = size) (hby : i.bytes = bytes) (hzs : z.cells.size = size) (hsz : 0 < size)
    (v : Value) (n : Nat) (xs : List Value) (hsv : a.eval s = v) (hown : w.ownsRow base e size v n xs)
    (xv : Value) (m : Nat) (news : List Value) (hxv : a.eval x = xv) (hs : Src P size tx xv m news w)
    (h63 : n + m ≤ maxLen) (hbytes : (n + m) * bytes ≤ 140737488355328) (hbase : base ≤ w.heap.size)
    (h : ∀ v' w', w'.ownsRow base e size v' (n + m) (xs ++ news) → w.grownBy w' v.ownBlock → Below base w w' → (v'.ownBlock = v.ownBlock ∨ v'.ownBlock = some w.heap.size) → wpList P ops Q rest (a.put o.dst v') w') : wpList P ops Q (o :: rest) a w := by
  obtain ⟨v', w', hrun, h2, h3, h4⟩ := run_app_own (P := P) w base t tx o.type e i z size bytes ht hi hz hsize hby hzs hsz v n xs hown xv m news hs h63 hbytes hbase
  exact wpList_plain hgd fun _ hK => wp_of_run s x t tx ho v xv hsv hxv hrun (hK _ _ (h v' w' h2 h3 ((Below.refl _ _).grown h3 hbase (fun j hj => (hown.lt j hj).1)) h4))
end
theorem SlE.lt {w : World} {E : Nat → Prop} {v : Value} {xs : List Value} (h : SlE w E v xs) : SlE w (fun g => E g ∧ g < w.heap.size) v xs := by
  obtain ⟨A, c, h1, h2, h3, h4⟩ := h
  refine ⟨A, c, h1, h2, h3, fun h => ?_⟩
  obtain ⟨b, off, e, hE, hc⟩ := h4 h
  exact ⟨b, off, e, ⟨hE, World.block_lt_of_cell? w ⟨b, off + 0, none⟩ (hc 0 _ (List.getElem?_eq_getElem h))⟩, hc⟩
theorem SlE.grown {w w' : World} {E E' : Nat → Prop} {v : Value} {xs : List Value} {row : Option Nat} (h : SlE w E v xs) (hg : w.grownBy w' row) (hE : ∀ g, E g → g < w.heap.size ∧ row ≠ some g) (hE' : ∀ g, E g → E' g) : SlE w' E' v xs :=
  (h.kept (fun k hk => hg.block k (hE k hk).1 (fun e => (hE k hk).2 e.symm))).mono hE'
theorem own_one (v : Value) {n : Nat} {w : World} {base : Nat} {e : TypeId} {sz : Nat} {xs : List Value} (h : w.ownsRow base e sz v n xs) : v.oneCell' = true := by
  rcases h.2 with ⟨rfl, _⟩ | ⟨g, cap, cur, rfl, _⟩ <;> rfl
end Go.Proofs.YtgoapnkdcfcjgaaGreat
/- Cells in plain words: which may be, what two, some values, and some cells are together. -/
namespace Go.Proofs.YtgoapnkdcfcjgaaGreat
set_option linter.unusedVariables false

/-- A cell: how many values, their sums, the least ones, the greatest ones. -/
structure CellM where
  n : Int
  s : List Int
  lo : List Int
  hi : List Int
deriving DecidableEq
def VAL : Int := 2305843009213693952
def SUM : Int := 4611686018427387904
def CNT : Int := 1099511627776
def inB (x m : Int) : Bool := decide (-m ≤ x) && decide (x ≤ m)
theorem inB_iff {x m : Int} : inB x m = true ↔ -m ≤ x ∧ x ≤ m := by unfold inB; simp
theorem inB_not {x m : Int} : inB x m = false ↔ ¬ (-m ≤ x ∧ x ≤ m) := by rw [← inB_iff]; cases inB x m <;> simp
def emptyC (m : Nat) : CellM := ⟨0, List.replicate m 0, List.replicate m 0, List.replicate m 0⟩
def nilC : CellM := ⟨0, [], [], []⟩
def colP (n x lo hi : Int) : Prop := lo ≤ hi ∧ (-VAL ≤ lo ∧ lo ≤ VAL) ∧ (-VAL ≤ hi ∧ hi ≤ VAL) ∧ (-SUM ≤ x ∧ x ≤ SUM) ∧ (n = 1 → x = lo ∧ x = hi)
instance (n x lo hi : Int) : Decidable (colP n x lo hi) := by unfold colP; infer_instance
def CellM.col (c : CellM) (i : Nat) : Prop := colP c.n (c.s.getD i 0) (c.lo.getD i 0) (c.hi.getD i 0)
instance (c : CellM) (i : Nat) : Decidable (c.col i) := by unfold CellM.col; infer_instance
def CellM.shape (c : CellM) : Prop := c.s.length ≤ 2 ∧ c.lo.length = c.s.length ∧ c.hi.length = c.s.length
def MayP (c : CellM) : Prop := c.shape ∧ ((¬ (1 ≤ c.n ∧ c.n ≤ CNT) ∧ c = emptyC c.s.length) ∨ ((1 ≤ c.n ∧ c.n ≤ CNT) ∧ ∀ i, i < c.s.length → c.col i))
instance (c : CellM) : Decidable (MayP c) := by unfold MayP CellM.shape; infer_instance
def mayC (c : CellM) : Bool := decide (MayP c)
theorem mayC_iff {c : CellM} : mayC c = true ↔ MayP c := by unfold mayC; rw [decide_eq_true_eq]
theorem mayC_not {c : CellM} : mayC c = false ↔ ¬ MayP c := by unfold mayC; rw [decide_eq_false_iff_not]
theorem may_empty {m : Nat} (h : m ≤ 2) : MayP (emptyC m) := by
  refine ⟨⟨by simp [emptyC, h], by simp [emptyC], by simp [emptyC]⟩, .inl ⟨by simp [emptyC], by simp [emptyC]⟩⟩
/-- One that may be and is not empty. -/
theorem may_full {c : CellM} (h : MayP c) (h0 : c.n ≠ 0) : (1 ≤ c.n ∧ c.n ≤ CNT) ∧ ∀ i, i < c.s.length → c.col i := by
  rcases h.2 with ⟨_, e⟩ | h
  · rw [e] at h0; simp [emptyC] at h0
  · exact h
theorem may_zero {c : CellM} (h : MayP c) (h0 : c.n = 0) : c = emptyC c.s.length := by
  rcases h.2 with ⟨_, e⟩ | h
  · exact e
  · omega

/-! ### Two cells -/
def sumOf (a b : CellM) : CellM := ⟨a.n + b.n, List.zipWith (· + ·) a.s b.s, List.zipWith min a.lo b.lo, List.zipWith max a.hi b.hi⟩
def mergeC (a b : CellM) : CellM × Int :=
  if mayC a = false ∨ mayC b = false ∨ a.s.length ≠ b.s.length then (nilC, 1) else if a.n = 0 then (b, 0) else if b.n = 0 then (a, 0) else
  if mayC (sumOf a b) then (sumOf a b, 0) else (nilC, 14)
theorem getD_zip {f : Int → Int → Int} {a b : List Int} {i : Nat} (ha : i < a.length) (hb : i < b.length) : (List.zipWith f a b).getD i 0 = f (a.getD i 0) (b.getD i 0) := by
  simp [List.getD_eq_getElem?_getD, List.getElem?_zipWith, List.getElem?_eq_getElem ha, List.getElem?_eq_getElem hb]
/-- Whether the sum of two full cells may be hangs on the sums and on the count. -/
theorem may_sumOf {a b : CellM} (ha : MayP a) (hb : MayP b) (hl : a.s.length = b.s.length) (ha0 : a.n ≠ 0) (hb0 : b.n ≠ 0) :
    MayP (sumOf a b) ↔ a.n + b.n ≤ CNT ∧ ∀ i, i < a.s.length → -SUM ≤ a.s.getD i 0 + b.s.getD i 0 ∧ a.s.getD i 0 + b.s.getD i 0 ≤ SUM := by
  obtain ⟨⟨a1, a2⟩, a3⟩ := may_full ha ha0
  obtain ⟨⟨b1, b2⟩, b3⟩ := may_full hb hb0
  obtain ⟨⟨sa1, sa2, sa3⟩, -⟩ := ha
  obtain ⟨⟨sb1, sb2, sb3⟩, -⟩ := hb
  have hls : (sumOf a b).s.length = a.s.length := by simp [sumOf]; omega
  have hcol : ∀ i, i < a.s.length → ((sumOf a b).col i ↔ -SUM ≤ a.s.getD i 0 + b.s.getD i 0 ∧ a.s.getD i 0 + b.s.getD i 0 ≤ SUM) := by
    intro i hi
    have ca := a3 i hi
    have cb := b3 i (by omega)
    unfold CellM.col colP at ca cb ⊢
    unfold sumOf
    simp only
    rw [getD_zip hi (by omega), getD_zip (by omega) (by omega), getD_zip (by omega) (by omega)]
    generalize a.s.getD i 0 = x at *
    generalize b.s.getD i 0 = y at *
    generalize a.lo.getD i 0 = l1 at *
    generalize b.lo.getD i 0 = l2 at *
    generalize a.hi.getD i 0 = h1 at *
    generalize b.hi.getD i 0 = h2 at *
    unfold VAL at *
    constructor
    · intro h; exact h.2.2.2.1
    · intro h
      refine ⟨?_, ?_, ?_, h, fun h => by omega⟩
      all_goals (simp only [Int.min_def, Int.max_def]; split <;> (try split) <;> omega)
  unfold MayP CellM.shape
  rw [hls]
  constructor
  · rintro ⟨_, ⟨h1, h2⟩ | ⟨h1, h2⟩⟩
    · exfalso
      have : (sumOf a b).n = 0 := by rw [h2]; rfl
      simp only [sumOf] at this; omega
    · simp only [sumOf] at h1
      exact ⟨h1.2, fun i hi => (hcol i hi).1 (h2 i hi)⟩
  · rintro ⟨h1, h2⟩
    refine ⟨⟨sa1, by simp [sumOf]; omega, by simp [sumOf]; omega⟩, .inr ⟨by simp only [sumOf]; omega, fun i hi => (hcol i hi).2 (h2 i hi)⟩⟩

/-! ### The least and the greatest of some numbers -/
def minL : List Int → Int
  | [] => 0
  | x :: l => l.foldl min x
def maxL : List Int → Int
  | [] => 0
  | x :: l => l.foldl max x
theorem foldl_min (l : List Int) (x : Int) : (l.foldl min x = x ∨ l.foldl min x ∈ l) ∧ l.foldl min x ≤ x ∧ ∀ y ∈ l, l.foldl min x ≤ y := by
  induction l generalizing x with
  | nil => simp
  | cons z l ih =>
    obtain ⟨h1, h2, h3⟩ := ih (min x z)
    simp only [List.foldl_cons]
    refine ⟨?_, by omega, fun y hy => ?_⟩
    · rcases h1 with h1 | h1
      · rw [h1]
        by_cases h : x ≤ z
        · left; omega
        · right; rw [show min x z = z by omega]; exact List.mem_cons_self
      · right; exact List.mem_cons_of_mem _ h1
    · rcases List.mem_cons.1 hy with rfl | hy
      · omega
      · exact h3 y hy
theorem foldl_max (l : List Int) (x : Int) : (l.foldl max x = x ∨ l.foldl max x ∈ l) ∧ x ≤ l.foldl max x ∧ ∀ y ∈ l, y ≤ l.foldl max x := by
  induction l generalizing x with
  | nil => simp
  | cons z l ih =>
    obtain ⟨h1, h2, h3⟩ := ih (max x z)
    simp only [List.foldl_cons]
    refine ⟨?_, by omega, fun y hy => ?_⟩
    · rcases h1 with h1 | h1
      · rw [h1]
        by_cases h : z ≤ x
        · left; omega
        · right; rw [show max x z = z by omega]; exact List.mem_cons_self
      · right; exact List.mem_cons_of_mem _ h1
    · rcases List.mem_cons.1 hy with rfl | hy
      · omega
      · exact h3 y hy
theorem minL_spec {l : List Int} (h : l ≠ []) : minL l ∈ l ∧ ∀ y ∈ l, minL l ≤ y := by
  cases l with
  | nil => exact absurd rfl h
  | cons x l =>
    obtain ⟨h1, h2, h3⟩ := foldl_min l x
    refine ⟨?_, fun y hy => ?_⟩
    · show l.foldl min x ∈ _
      rcases h1 with h1 | h1
      · rw [h1]; exact List.mem_cons_self
      · exact List.mem_cons_of_mem _ h1
    · rcases List.mem_cons.1 hy with rfl | hy
      · exact h2
      · exact h3 y hy
theorem maxL_spec {l : List Int} (h : l ≠ []) : maxL l ∈ l ∧ ∀ y ∈ l, y ≤ maxL l := by
  cases l with
  | nil => exact absurd rfl h
  | cons x l =>
    obtain ⟨h1, h2, h3⟩ := foldl_max l x
    refine ⟨?_, fun y hy => ?_⟩
    · show l.foldl max x ∈ _
      rcases h1 with h1 | h1
      · rw [h1]; exact List.mem_cons_self
      · exact List.mem_cons_of_mem _ h1
    · rcases List.mem_cons.1 hy with rfl | hy
      · exact h2
      · exact h3 y hy
/-! ### Values -/
def valsB (m : Int) (v : List Int) : Bool := decide ((v.length : Int) = m) && v.all (fun x => inB x VAL)
def colL (l : List (List Int)) (i : Nat) : List Int := l.map fun v => v.getD i 0
def foldOf (m : Nat) (l : List (List Int)) : CellM := ⟨l.length, (List.range m).map fun i => (colL l i).sum, (List.range m).map fun i => minL (colL l i), (List.range m).map fun i => maxL (colL l i)⟩
def foldC (m : Int) (l : List (List Int)) : CellM × Int :=
  if m < 0 ∨ 2 < m then (nilC, 1) else if l.all (valsB m) = false then (nilC, 1) else if l = [] then (emptyC m.toNat, 0) else
  if mayC (foldOf m.toNat l) then (foldOf m.toNat l, 0) else (nilC, 14)
theorem getD_map_range {f : Nat → Int} {m i : Nat} (h : i < m) : ((List.range m).map f).getD i 0 = f i := by
  simp [List.getD_eq_getElem?_getD, h]
theorem valsB_iff {m : Int} {v : List Int} : valsB m v = true ↔ (v.length : Int) = m ∧ ∀ x ∈ v, -VAL ≤ x ∧ x ≤ VAL := by
  unfold valsB
  rw [Bool.and_eq_true, decide_eq_true_eq, List.all_eq_true]
  exact ⟨fun h => ⟨h.1, fun x hx => inB_iff.1 (h.2 x hx)⟩, fun h => ⟨h.1, fun x hx => inB_iff.2 (h.2 x hx)⟩⟩
theorem colL_vals {m i : Nat} {l : List (List Int)} (h : ∀ v ∈ l, valsB m v = true) (hi : i < m) : ∀ x ∈ colL l i, -VAL ≤ x ∧ x ≤ VAL := by
  intro x hx
  obtain ⟨v, hv, rfl⟩ := List.mem_map.1 hx
  obtain ⟨h1, h2⟩ := valsB_iff.1 (h v hv)
  have hlt : i < v.length := by omega
  rw [List.getD_eq_getElem?_getD, List.getElem?_eq_getElem hlt]
  exact h2 _ (List.getElem_mem hlt)
/-- Whether a fold may be hangs on the sums alone. -/
theorem may_foldOf {m : Nat} {l : List (List Int)} (hm : m ≤ 2) (hl : l ≠ []) (hn : l.length ≤ 1000000) (hv : ∀ v ∈ l, valsB m v = true) :
    MayP (foldOf m l) ↔ ∀ i, i < m → -SUM ≤ (colL l i).sum ∧ (colL l i).sum ≤ SUM := by
  have h0 : 0 < l.length := List.length_pos_iff.2 hl
  have hcol : ∀ i, i < m → ((foldOf m l).col i ↔ -SUM ≤ (colL l i).sum ∧ (colL l i).sum ≤ SUM) := by
    intro i hi
    have hne : colL l i ≠ [] := by intro h; exact hl (List.map_eq_nil_iff.1 h)
    have hx := colL_vals hv hi
    obtain ⟨a1, a2⟩ := minL_spec hne
    obtain ⟨b1, b2⟩ := maxL_spec hne
    unfold CellM.col foldOf colP
    simp only
    rw [getD_map_range hi, getD_map_range hi, getD_map_range hi]
    constructor
    · intro h; exact h.2.2.2.1
    · intro h
      refine ⟨a2 _ b1, hx _ a1, hx _ b1, h, fun h1 => ?_⟩
      match l, h1 with
      | [v], _ => simp [colL, minL, maxL]
      | [], h1 => simp at h1
      | _ :: _ :: _, h1 => simp at h1; omega
  unfold MayP CellM.shape
  have hs : (foldOf m l).s.length = m := by simp [foldOf]
  rw [hs]
  constructor
  · rintro ⟨_, ⟨h1, h2⟩ | ⟨h1, h2⟩⟩
    · exfalso
      have : (foldOf m l).n = 0 := by rw [h2]; rfl
      simp only [foldOf] at this; omega
    · exact fun i hi => (hcol i hi).1 (h2 i hi)
  · intro h
    refine ⟨⟨hm, by simp [foldOf], by simp [foldOf]⟩, .inr ⟨?_, fun i hi => (hcol i hi).2 (h i hi)⟩⟩
    simp only [foldOf]
    unfold CNT; omega
end Go.Proofs.YtgoapnkdcfcjgaaGreat
/- Plain facts on the bits of a number: bit k of z, sums bit by bit, and how a row of bits gives its number back. -/
namespace Go.Proofs.YtgoapnkdcfcjgaaGreat

/-- Bit k of a number, below 0 as two's complement has it. -/
def bit (z : Int) (k : Nat) : Int := (z / 2 ^ k) % 2
def bits (z : Int) (n : Nat) : List Int := (List.range n).map (bit z)

end Go.Proofs.YtgoapnkdcfcjgaaGreat
/- Contracts of the reference's rows of bits: Of, Add, number. -/
namespace Go.Proofs.YtgoapnkdcfcjgaaGreat
open Go.ChangeShapes Go.WideShapes Go.ChangeAt Go.RowKit

set_option linter.unusedVariables false


/-! ### Slices of a row -/
theorem Sl.take_ {w : World} {B : Nat} {b off n c : Nat} {l : List Int} (hb : b < B) (hn : n = l.length) (hc : n ≤ c) (hm : c ≤ maxLen)
    (hcell : ∀ j, j < n → w.cell? ⟨b, off + j, none⟩ = some (.int .i64 (l.getD j 0))) : Sl w B (.slice (some ⟨b, off, none⟩) n c) (ivals l) := by
  subst hn
  refine ⟨_, c, by rw [ivals_len], by rw [ivals_len]; exact hc, hm, fun _ => ⟨b, off, rfl, hb, fun j u hu => ?_⟩⟩
  simp only [ivals, List.getElem?_map, Option.map_eq_some_iff] at hu
  obtain ⟨x, hx, rfl⟩ := hu
  have hj : j < l.length := (List.getElem?_eq_some_iff.1 hx).1
  rw [hcell j hj, List.getD_eq_getElem?_getD, hx]; rfl

end Go.Proofs.YtgoapnkdcfcjgaaGreat
/- The reference's Int and Total. -/
namespace Go.Proofs.YtgoapnkdcfcjgaaGreat
open Go.ChangeShapes Go.WideShapes Go.ChangeAt Go.RowKit
set_option linter.unusedVariables false

theorem Sl.of_int {w : World} {B : Nat} {A : Option Addr} {l : List Int} {k : Nat} (h : 0 < (ivals l).length → ∃ b off, A = some ⟨b, off, none⟩ ∧ b < B ∧ ∀ j u, (ivals l)[j]? = some u → w.cell? ⟨b, off + j, none⟩ = some u) (hk : k < l.length) :
    ∃ b off, A = some ⟨b, off, none⟩ ∧ b < B ∧ w.cell? ⟨b, off + k, none⟩ = some (.int .i64 (l.getD k 0)) := by
  obtain ⟨b, off, e, hb, hc⟩ := h (by rw [ivals_len]; omega)
  exact ⟨b, off, e, hb, hc k _ (by simp [ivals, List.getElem?_eq_getElem hk])⟩
end Go.Proofs.YtgoapnkdcfcjgaaGreat
