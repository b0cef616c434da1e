/- 1 text of this claim, in build order. -/
import Derived.Test.YtkgifbnkkmeoiaaGreatDoorPompjpmob
/- More words on memory that many layers use: slices cut, rows of a call's own, one block updated, things that own several blocks, rows that are written over. -/
namespace Go.Proofs.YtkgifbnkkmeoiaaGreatDoor
open Go.ChangeShapes Go.WideShapes Go.ChangeAt Go.RowKit
set_option linter.unusedVariables false

def Stays (v : Value) (w : World) (e : Ending) (w' : World) : Prop := e = .returned v ∧ Qu w w'
/-- The first bytes of a slice. -/
theorem Sl.head {w : World} {B : Nat} {A : Option Addr} {n c : Nat} {xs : List Value} (m : Nat) (h : Sl w B (.slice A n c) xs) (hm : m ≤ n) : Sl w B (.slice A m c) (xs.take m) := by
  obtain ⟨A', c', e, h2, h3, h4⟩ := h
  injection e with e1 e2 e3
  subst e1; subst e3; subst e2
  have hl : (xs.take m).length = m := by rw [List.length_take]; omega
  refine ⟨A, _, by rw [hl], by omega, h3, fun h0 => ?_⟩
  obtain ⟨b, off, h5, h6, h7⟩ := h4 (by omega)
  refine ⟨b, off, h5, h6, fun j u hu => h7 j u ?_⟩
  rw [List.getElem?_take] at hu
  split at hu
  · exact hu
  · cases hu
theorem Sl.qu' {w w' : World} {B : Nat} {v : Value} {xs : List Value} (h : Sl w B v xs) (k : Qu w w') : Sl w' B v xs := by
  obtain ⟨n, rfl⟩ := k
  exact h
theorem Sl.mid {w : World} {B n c a m : Nat} {A : Option Addr} {xs : List Value} (h : Sl w B (.slice A n c) xs) (hm : a + m ≤ n) :
    Sl w B (.slice (if c = a then A else Option.map (fun x => x.add a) A) m (c - a)) ((xs.drop a).take m) := by
  obtain ⟨A', c', e, h2, h3, h4⟩ := h
  injection e with e1 e2 e3
  subst e1; subst e3; subst e2
  have hl : ((xs.drop a).take m).length = m := by rw [List.length_take, List.length_drop]; omega
  refine ⟨_, _, by rw [hl], by omega, by omega, fun h0 => ?_⟩
  obtain ⟨b, off, h5, h6, h7⟩ := h4 (by omega)
  subst h5
  refine ⟨b, off + a, ?_, h6, fun j u hu => ?_⟩
  · rw [if_neg (by omega)]
    simp [Addr.add]
  · rw [List.getElem?_take] at hu
    split at hu
    · rw [List.getElem?_drop] at hu
      rw [Nat.add_assoc]
      exact h7 _ u hu
    · cases hu
theorem bl1' {w w1 : World} (h : w.heap.size ≤ w1.heap.size) (o : Obj) : Below w.heap.size w1 (w1.alloc o) := (bl1 w1 o).mono h
theorem own_cells {w : World} {base : Nat} {e : TypeId} {v : Value} {n : Nat} {xs : List Value} (h : w.ownsRow base e 1 v n xs) :
    ∃ A c, v = .slice A n c ∧ n ≤ c ∧ c ≤ maxLen ∧ (0 < n → ∃ g, A = some ⟨g, 0, none⟩ ∧ base ≤ g ∧ g < w.heap.size ∧ ∀ j, j < n → (∃ u, w.cell? ⟨g, j, none⟩ = some u) ∧ w.frozen? ⟨g, j, none⟩ = false) := by
  have hown := h
  obtain ⟨h1, h2⟩ := h
  rcases h2 with ⟨rfl, rfl⟩ | ⟨g, cap, cur, rfl, hbg, hg, hnc, hcm, hcs, htk⟩
  · exact ⟨none, 0, rfl, by omega, by simp [maxLen], fun h => by omega⟩
  · refine ⟨_, cap, rfl, hnc, hcm, fun h0 => ⟨g, rfl, hbg, (hown.lt g rfl).2, fun j hj => ?_⟩⟩
    have hc := hown.cellAt (g := g) j (by omega)
    refine ⟨⟨xs[j]'(by omega), by rw [hc]; exact List.getElem?_eq_getElem (by omega)⟩, ?_⟩
    exact hown.frozenAt j
theorem Sl.of_own' {w : World} {base : Nat} {e : TypeId} {v : Value} {n : Nat} {xs : List Value} (h : w.ownsRow base e 1 v n xs) {N : Nat} (hN : w.heap.size ≤ N) : Sl w N v xs := (Sl.of_own h).more hN
/-- What is not said of the block p is as it was. -/
def Upd (p : Nat) (w w' : World) : Prop := w.grownBy w' (some p)
theorem Upd.refl (p : Nat) (w : World) : Upd p w w := World.grownBy.refl _ _
theorem Upd.trans {p : Nat} {a b c : World} (h : Upd p a b) (k : Upd p b c) : Upd p a c := World.grownBy.trans h k
theorem Upd.qu {p : Nat} {a b c : World} (h : Upd p a b) (k : Qu b c) : Upd p a c := by
  obtain ⟨n, rfl⟩ := k
  exact ⟨h.os, h.tape, h.output, h.size, h.block⟩
theorem Upd.below {p B : Nat} {w w' : World} (h : Upd p w w') (hB : B ≤ p) (hs : p < w.heap.size) : Below B w w' :=
  ⟨h.os, h.tape, h.output, h.size, fun k hk => h.block k (by omega) (by intro e; injection e with e; omega)⟩
theorem Upd.setCell (p i : Nat) (w : World) (v : Value) : Upd p w (w.setCell ⟨p, i, none⟩ v) := by
  exact ⟨rfl, rfl, rfl, by simp, fun k _ hk => Below.heap_setCell _ _ _ k (fun e => hk (by rw [e]))⟩
theorem Upd.new {p : Nat} {a b c : World} (h : Upd p a b) (k : Below a.heap.size b c) : Upd p a c :=
  ⟨k.os.trans h.os, k.tape.trans h.tape, k.output.trans h.output, Nat.le_trans h.size k.size, fun i hi hn => (k.block i hi).trans (h.block i hi hn)⟩
theorem Upd.cellAt {p b i : Nat} {w w' : World} {v : Option Value} (hu : Upd p w w') (hb : b < w.heap.size) (hne : b ≠ p) (h : w.cell? ⟨b, i, none⟩ = v) : w'.cell? ⟨b, i, none⟩ = v :=
  (World.grownBy.cell_far hu _ hb (fun h => hne (by injection h))).trans h
theorem Upd.frozenAt {p b i : Nat} {w w' : World} {v : Bool} (hu : Upd p w w') (hb : b < w.heap.size) (hne : b ≠ p) (h : w.frozen? ⟨b, i, none⟩ = v) : w'.frozen? ⟨b, i, none⟩ = v :=
  (World.grownBy.frozen_far hu _ hb (fun h => hne (by injection h))).trans h
/-- From w to w' no block that was there has changed, but for blocks of D. -/
structure Chg (D : Nat → Prop) (w w' : World) : Prop where
  os : w'.os = w.os
  tape : w'.tape = w.tape
  output : w'.output = w.output
  size : w.heap.size ≤ w'.heap.size
  block : ∀ k, k < w.heap.size → ¬ D k → w'.heap[k]? = w.heap[k]?
/-- D' is D, and blocks that were not there in w. -/
def Grow (w : World) (D D' : Nat → Prop) : Prop := (∀ k, D k → D' k) ∧ ∀ k, D' k → D k ∨ w.heap.size ≤ k
theorem Grow.refl (w : World) (D : Nat → Prop) : Grow w D D := ⟨fun _ h => h, fun _ h => .inl h⟩
theorem Chg.refl (D : Nat → Prop) (w : World) : Chg D w w := ⟨rfl, rfl, rfl, Nat.le_refl _, fun _ _ _ => rfl⟩
theorem Chg.of_below {D : Nat → Prop} {w w' : World} (h : Below w.heap.size w w') : Chg D w w' := ⟨h.os, h.tape, h.output, h.size, fun k hk _ => h.block k hk⟩
theorem Chg.of_qu {D : Nat → Prop} {w w' : World} (h : Qu w w') : Chg D w w' := Chg.of_below (h.below _)
theorem Chg.below {D : Nat → Prop} {w w' : World} {B : Nat} (h : Chg D w w') (hB : B ≤ w.heap.size) (hD : ∀ k, D k → B ≤ k) : Below B w w' :=
  ⟨h.os, h.tape, h.output, h.size, fun k hk => h.block k (by omega) (fun hd => by have := hD k hd; omega)⟩
theorem Chg.trans {D D' : Nat → Prop} {a b c : World} (h : Chg D a b) (k : Chg D' b c) (hD : ∀ i, D' i → D i ∨ a.heap.size ≤ i) : Chg D a c :=
  ⟨k.os.trans h.os, k.tape.trans h.tape, k.output.trans h.output, Nat.le_trans h.size k.size, fun i hi hd => (k.block i (Nat.lt_of_lt_of_le hi h.size) (fun hd' => by
    rcases hD i hd' with h1 | h1
    · exact hd h1
    · omega)).trans (h.block i hi hd)⟩
theorem Chg.mono {D D' : Nat → Prop} {a b : World} (h : Chg D a b) (hD : ∀ i, D i → D' i) : Chg D' a b := ⟨h.os, h.tape, h.output, h.size, fun k hk hd => h.block k hk (fun h' => hd (hD k h'))⟩
theorem Chg.same {D : Nat → Prop} {a b c : World} (h : Chg D a b) (k : Chg D b c) : Chg D a c := h.trans k (fun _ h => .inl h)
theorem Chg.upd {D : Nat → Prop} {p : Nat} {w w' : World} (h : Upd p w w') (hp : D p) : Chg D w w' :=
  ⟨h.os, h.tape, h.output, h.size, fun k hk hd => h.block k hk (fun e => by injection e with e; exact hd (e ▸ hp))⟩
theorem Grow.trans {a b : World} {D D' D'' : Nat → Prop} (h : Grow a D D') (k : Grow b D' D'') (hs : a.heap.size ≤ b.heap.size) : Grow a D D'' :=
  ⟨fun i hi => k.1 i (h.1 i hi), fun i hi => by
    rcases k.2 i hi with h1 | h1
    · exact h.2 i h1
    · exact .inr (by omega)⟩
/-- The blocks of E are as they were. -/
def Kept (E : Nat → Prop) (w w' : World) : Prop := ∀ k, E k → w'.heap[k]? = w.heap[k]?
theorem Chg.kept {D E : Nat → Prop} {w w' : World} (h : Chg D w w') (hE : ∀ k, E k → k < w.heap.size ∧ ¬ D k) : Kept E w w' := fun k hk => h.block k (hE k hk).1 (hE k hk).2
theorem Kept.cell {E : Nat → Prop} {w w' : World} (h : Kept E w w') {b i : Nat} {v : Option Value} (hb : E b) (hc : w.cell? ⟨b, i, none⟩ = v) : w'.cell? ⟨b, i, none⟩ = v := (World.cell?_of_block (a := ⟨b, i, none⟩) (h b hb)).trans hc
theorem Kept.frozen {E : Nat → Prop} {w w' : World} (h : Kept E w w') {b i : Nat} {v : Bool} (hb : E b) (hc : w.frozen? ⟨b, i, none⟩ = v) : w'.frozen? ⟨b, i, none⟩ = v := (World.frozen?_of_block (a := ⟨b, i, none⟩) (h b hb)).trans hc
/-- A slice of one-cell elements whose memory lies in blocks of E. -/
def SlE (w : World) (E : Nat → Prop) (v : Value) (xs : List Value) : Prop :=
  ∃ A c, v = .slice A xs.length c ∧ xs.length ≤ c ∧ c ≤ maxLen ∧
    (0 < xs.length → ∃ b off, A = some ⟨b, off, none⟩ ∧ E b ∧ ∀ j u, xs[j]? = some u → w.cell? ⟨b, off + j, none⟩ = some u)
theorem SlE.kept {w w' : World} {E : Nat → Prop} {v : Value} {xs : List Value} (h : SlE w E v xs) (k : Kept E w w') : SlE w' E v xs := by
  obtain ⟨A, c, h1, h2, h3, h4⟩ := h
  refine ⟨A, c, h1, h2, h3, fun h => ?_⟩
  obtain ⟨b, off, e, hE, hc⟩ := h4 h
  exact ⟨b, off, e, hE, fun j u hu => k.cell hE (hc j u hu)⟩
theorem SlE.mono {w : World} {E E' : Nat → Prop} {v : Value} {xs : List Value} (h : SlE w E v xs) (k : ∀ i, E i → E' i) : SlE w E' v xs := by
  obtain ⟨A, c, h1, h2, h3, h4⟩ := h
  refine ⟨A, c, h1, h2, h3, fun h => ?_⟩
  obtain ⟨b, off, e, hE, hc⟩ := h4 h
  exact ⟨b, off, e, k b hE, hc⟩
theorem SlE.sl {w : World} {E : Nat → Prop} {v : Value} {xs : List Value} (h : SlE w E v xs) : Sl w w.heap.size v xs := by
  obtain ⟨A, c, h1, h2, h3, h4⟩ := h
  refine ⟨A, c, h1, h2, h3, fun h => ?_⟩
  obtain ⟨b, off, e, hE, hc⟩ := h4 h
  exact ⟨b, off, e, World.block_lt_of_cell? w ⟨b, off + 0, none⟩ (hc 0 _ (List.getElem?_eq_getElem h)), hc⟩
theorem SlE.of_own {w : World} {base : Nat} {E : Nat → Prop} {e : TypeId} {v : Value} {n : Nat} {xs : List Value} (h : w.ownsRow base e 1 v n xs) (hE : ∀ g, v.ownBlock = some g → E g) : SlE w E v xs := by
  have hx := h
  obtain ⟨h1, h2⟩ := h
  rcases h2 with ⟨rfl, rfl⟩ | ⟨g, cap, cur, rfl, hb, hg, hnc, hcm, hcs, htk⟩
  · obtain rfl := List.eq_nil_of_length_eq_zero (by omega : xs.length = 0)
    exact ⟨none, 0, rfl, by simp, by simp [maxLen], by simp⟩
  · refine ⟨some ⟨g, 0, none⟩, cap, by rw [show xs.length = n by omega], by omega, hcm, fun _ => ⟨g, 0, rfl, hE g rfl, fun j u hu => ?_⟩⟩
    have hj : j < xs.length := (List.getElem?_eq_some_iff.1 hu).1
    rw [Nat.zero_add, hx.cellAt j (by omega), hu]
/-- A row stays where its block does. -/
theorem own_kept {w w' : World} {base : Nat} {e : TypeId} {sz n : Nat} {v : Value} {xs : List Value} (h : w.ownsRow base e sz v n xs) (k : ∀ g, v.ownBlock = some g → w'.heap[g]? = w.heap[g]?) : w'.ownsRow base e sz v n xs := by
  obtain ⟨h1, h2⟩ := h
  refine ⟨h1, ?_⟩
  rcases h2 with h2 | ⟨g, cap, cur, rfl, hb, hg, r⟩
  · exact .inl h2
  · exact .inr ⟨g, cap, cur, rfl, hb, (k g rfl).trans hg, r⟩
theorem own_lt {w : World} {base : Nat} {e : TypeId} {sz n : Nat} {v : Value} {xs : List Value} (h : w.ownsRow base e sz v n xs) : ∀ g, v.ownBlock = some g → base ≤ g ∧ g < w.heap.size := fun g hg => h.lt g hg
section
variable {P : Program}
/-- append onto a row of the call's own, and where the new row lies. -/
theorem app_own_at {ops : Array Oper} {rest : List Oper} {o : Oper} {a : Act} {w : World} {Q : Exit → Act → World → Prop} (s x : Operand) (t tx : TypeId) (hgd : o.guard = none)
    (ho : o.op = .call { callee := .builtin .append, args := #[s, x], argTypes := #[t, tx] })
    (base : Nat) (e : TypeId) (i : TypeInfo) (z : Value) (size bytes : Nat) (ht : P.underlying t = some (.slice e)) (hi : P.info? e = some i) (hz : i.zero = some z)
    (hsize : i.size = size) (hby : i.bytes = bytes) (hzs : z.cells.size = size) (hsz : 0 < size)
    (v : Value) (n : Nat) (xs : List Value) (hsv : a.eval s = v) (hown : w.ownsRow base e size v n xs)
    (xv : Value) (m : Nat) (news : List Value) (hxv : a.eval x = xv) (hs : Src P size tx xv m news w)
    (h63 : n + m ≤ maxLen) (hbytes : (n + m) * bytes ≤ 140737488355328) (hbase : base ≤ w.heap.size)
    (h : ∀ v' w', w'.ownsRow base e size v' (n + m) (xs ++ news) → w.grownBy w' v.ownBlock → Below base w w' → (v'.ownBlock = v.ownBlock ∨ v'.ownBlock = some w.heap.size) → wpList P ops Q rest (a.put o.dst v') w') : wpList P ops Q (o :: rest) a w := by
  obtain ⟨v', w', hrun, h2, h3, h4⟩ := run_app_own (P := P) w base t tx o.type e i z size bytes ht hi hz hsize hby hzs hsz v n xs hown xv m news hs h63 hbytes hbase
  exact wpList_plain hgd fun _ hK => wp_of_run s x t tx ho v xv hsv hxv hrun (hK _ _ (h v' w' h2 h3 ((Below.refl _ _).grown h3 hbase (fun j hj => (hown.lt j hj).1)) h4))
end
theorem SlE.lt {w : World} {E : Nat → Prop} {v : Value} {xs : List Value} (h : SlE w E v xs) : SlE w (fun g => E g ∧ g < w.heap.size) v xs := by
  obtain ⟨A, c, h1, h2, h3, h4⟩ := h
  refine ⟨A, c, h1, h2, h3, fun h => ?_⟩
  obtain ⟨b, off, e, hE, hc⟩ := h4 h
  exact ⟨b, off, e, ⟨hE, World.block_lt_of_cell? w ⟨b, off + 0, none⟩ (hc 0 _ (List.getElem?_eq_getElem h))⟩, hc⟩
theorem SlE.grown {w w' : World} {E E' : Nat → Prop} {v : Value} {xs : List Value} {row : Option Nat} (h : SlE w E v xs) (hg : w.grownBy w' row) (hE : ∀ g, E g → g < w.heap.size ∧ row ≠ some g) (hE' : ∀ g, E g → E' g) : SlE w' E' v xs :=
  (h.kept (fun k hk => hg.block k (hE k hk).1 (fun e => (hE k hk).2 e.symm))).mono hE'
theorem own_one (v : Value) {n : Nat} {w : World} {base : Nat} {e : TypeId} {sz : Nat} {xs : List Value} (h : w.ownsRow base e sz v n xs) : v.oneCell' = true := by
  rcases h.2 with ⟨rfl, _⟩ | ⟨g, cap, cur, rfl, _⟩ <;> rfl
/-- A row of the law's own may be written over. -/
def Over (A : Option Addr) (n : Nat) (w0 w : World) : Prop :=
  Chg (fun g => A = some ⟨g, 0, none⟩) w0 w ∧ (0 < n → ∃ g, A = some ⟨g, 0, none⟩ ∧ g < w.heap.size ∧ ∀ j, j < n → (∃ u, w.cell? ⟨g, j, none⟩ = some u) ∧ w.frozen? ⟨g, j, none⟩ = false)
theorem Over.start {w : World} {base n : Nat} {e : TypeId} {v : Value} {xs : List Value} (h : w.ownsRow base e 1 v n xs) : ∃ A c, v = .slice A n c ∧ n ≤ c ∧ c ≤ maxLen ∧ Over A n w w ∧ ∀ g, A = some ⟨g, 0, none⟩ → v.ownBlock = some g := by
  obtain ⟨A, c, rfl, h1, h2, h3⟩ := own_cells h
  refine ⟨A, c, rfl, h1, h2, ⟨Chg.refl _ _, fun h0 => ?_⟩, fun g hg => by subst hg; rfl⟩
  obtain ⟨g, e1, _, e2, e3⟩ := h3 h0
  exact ⟨g, e1, e2, e3⟩
theorem Over.store {A : Option Addr} {n j g : Nat} {w0 w : World} (h : Over A n w0 w) (hA : A = some ⟨g, 0, none⟩) (v : Value) (hj : j < n) : Over A n w0 (w.setCell ⟨g, j, none⟩ v) := by
  obtain ⟨h1, h2⟩ := h
  obtain ⟨g', e1, e2, e3⟩ := h2 (by omega)
  have hg : g' = g := by rw [hA] at e1; injection e1 with e1; injection e1 with e1 _; exact e1.symm
  subst hg
  refine ⟨h1.same ⟨rfl, rfl, rfl, by simp [World.setCell], fun k hk hn => Below.heap_setCell _ _ _ k (fun e => hn (by simp at e; rw [hA, e]))⟩, fun _ => ⟨g', hA, by simpa [World.setCell] using e2, fun i hi => ?_⟩⟩
  obtain ⟨⟨u, hu⟩, hf⟩ := e3 i hi
  refine ⟨?_, frozen_far hf⟩
  by_cases hij : j = i
  · subst hij; exact ⟨_, cell_here hu⟩
  · exact ⟨u, cell_beside hij hu⟩
end Go.Proofs.YtkgifbnkkmeoiaaGreatDoor
