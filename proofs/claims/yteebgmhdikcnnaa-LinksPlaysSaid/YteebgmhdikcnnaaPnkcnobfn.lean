/- 3 texts of this claim, in build order. -/
import Derived.Test.YteebgmhdikcnnaaPcfpofkdm
import Derived.Deep.Slices
import Derived.Deep.Fields
import Derived.ChangeSame
/- More words on memory that many layers use: slices cut, rows of a call's own, one block updated, things that own several blocks, rows that are written over. -/
namespace Go.Proofs.Yteebgmhdikcnnaa
open Go.ChangeShapes Go.WideShapes Go.ChangeAt Go.RowKit
set_option linter.unusedVariables false

def Stays (v : Value) (w : World) (e : Ending) (w' : World) : Prop := e = .returned v ∧ Qu w w'
/-- The first bytes of a slice. -/
theorem Sl.head {w : World} {B : Nat} {A : Option Addr} {n c : Nat} {xs : List Value} (m : Nat) (h : Sl w B (.slice A n c) xs) (hm : m ≤ n) : Sl w B (.slice A m c) (xs.take m) := by
  obtain ⟨A', c', e, h2, h3, h4⟩ := h
  injection e with e1 e2 e3
  subst e1; subst e3; subst e2
  have hl : (xs.take m).length = m := by rw [List.length_take]; omega
  refine ⟨A, _, by rw [hl], by omega, h3, fun h0 => ?_⟩
  obtain ⟨b, off, h5, h6, h7⟩ := h4 (by omega)
  refine ⟨b, off, h5, h6, fun j u hu => h7 j u ?_⟩
  rw [List.getElem?_take] at hu
  split at hu
  · exact hu
  · cases hu
theorem Sl.qu' {w w' : World} {B : Nat} {v : Value} {xs : List Value} (h : Sl w B v xs) (k : Qu w w') : Sl w' B v xs := by
  obtain ⟨n, rfl⟩ := k
  exact h
theorem Sl.mid {w : World} {B n c a m : Nat} {A : Option Addr} {xs : List Value} (h : Sl w B (.slice A n c) xs) (hm : a + m ≤ n) :
    Sl w B (.slice (if c = a then A else Option.map (fun x => x.add a) A) m (c - a)) ((xs.drop a).take m) := by
  obtain ⟨A', c', e, h2, h3, h4⟩ := h
  injection e with e1 e2 e3
  subst e1; subst e3; subst e2
  have hl : ((xs.drop a).take m).length = m := by rw [List.length_take, List.length_drop]; omega
  refine ⟨_, _, by rw [hl], by omega, by omega, fun h0 => ?_⟩
  obtain ⟨b, off, h5, h6, h7⟩ := h4 (by omega)
  subst h5
  refine ⟨b, off + a, ?_, h6, fun j u hu => ?_⟩
  · rw [if_neg (by omega)]
    simp [Addr.add]
  · rw [List.getElem?_take] at hu
    split at hu
    · rw [List.getElem?_drop] at hu
      rw [Nat.add_assoc]
      exact h7 _ u hu
    · cases hu
theorem bl1' {w w1 : World} (h : w.heap.size ≤ w1.heap.size) (o : Obj) : Below w.heap.size w1 (w1.alloc o) := (bl1 w1 o).mono h
theorem own_cells {w : World} {base : Nat} {e : TypeId} {v : Value} {n : Nat} {xs : List Value} (h : w.ownsRow base e 1 v n xs) :
    ∃ A c, v = .slice A n c ∧ n ≤ c ∧ c ≤ maxLen ∧ (0 < n → ∃ g, A = some ⟨g, 0, none⟩ ∧ base ≤ g ∧ g < w.heap.size ∧ ∀ j, j < n → (∃ u, w.cell? ⟨g, j, none⟩ = some u) ∧ w.frozen? ⟨g, j, none⟩ = false) := by
  have hown := h
  obtain ⟨h1, h2⟩ := h
  rcases h2 with ⟨rfl, rfl⟩ | ⟨g, cap, cur, rfl, hbg, hg, hnc, hcm, hcs, htk⟩
  · exact ⟨none, 0, rfl, by omega, by simp [maxLen], fun h => by omega⟩
  · refine ⟨_, cap, rfl, hnc, hcm, fun h0 => ⟨g, rfl, hbg, (hown.lt g rfl).2, fun j hj => ?_⟩⟩
    have hc := hown.cellAt (g := g) j (by omega)
    refine ⟨⟨xs[j]'(by omega), by rw [hc]; exact List.getElem?_eq_getElem (by omega)⟩, ?_⟩
    exact hown.frozenAt j
theorem Sl.of_own' {w : World} {base : Nat} {e : TypeId} {v : Value} {n : Nat} {xs : List Value} (h : w.ownsRow base e 1 v n xs) {N : Nat} (hN : w.heap.size ≤ N) : Sl w N v xs := (Sl.of_own h).more hN
/-- What is not said of the block p is as it was. -/
def Upd (p : Nat) (w w' : World) : Prop := w.grownBy w' (some p)
theorem Upd.refl (p : Nat) (w : World) : Upd p w w := World.grownBy.refl _ _
theorem Upd.trans {p : Nat} {a b c : World} (h : Upd p a b) (k : Upd p b c) : Upd p a c := World.grownBy.trans h k
theorem Upd.qu {p : Nat} {a b c : World} (h : Upd p a b) (k : Qu b c) : Upd p a c := by
  obtain ⟨n, rfl⟩ := k
  exact ⟨h.os, h.tape, h.output, h.size, h.block⟩
theorem Upd.below {p B : Nat} {w w' : World} (h : Upd p w w') (hB : B ≤ p) (hs : p < w.heap.size) : Below B w w' :=
  ⟨h.os, h.tape, h.output, h.size, fun k hk => h.block k (by omega) (by intro e; injection e with e; omega)⟩
theorem Upd.setCell (p i : Nat) (w : World) (v : Value) : Upd p w (w.setCell ⟨p, i, none⟩ v) := by
  exact ⟨rfl, rfl, rfl, by simp, fun k _ hk => Below.heap_setCell _ _ _ k (fun e => hk (by rw [e]))⟩
theorem Upd.new {p : Nat} {a b c : World} (h : Upd p a b) (k : Below a.heap.size b c) : Upd p a c :=
  ⟨k.os.trans h.os, k.tape.trans h.tape, k.output.trans h.output, Nat.le_trans h.size k.size, fun i hi hn => (k.block i hi).trans (h.block i hi hn)⟩
theorem Upd.cellAt {p b i : Nat} {w w' : World} {v : Option Value} (hu : Upd p w w') (hb : b < w.heap.size) (hne : b ≠ p) (h : w.cell? ⟨b, i, none⟩ = v) : w'.cell? ⟨b, i, none⟩ = v :=
  (World.grownBy.cell_far hu _ hb (fun h => hne (by injection h))).trans h
theorem Upd.frozenAt {p b i : Nat} {w w' : World} {v : Bool} (hu : Upd p w w') (hb : b < w.heap.size) (hne : b ≠ p) (h : w.frozen? ⟨b, i, none⟩ = v) : w'.frozen? ⟨b, i, none⟩ = v :=
  (World.grownBy.frozen_far hu _ hb (fun h => hne (by injection h))).trans h
/-- From w to w' no block that was there has changed, but for blocks of D. -/
structure Chg (D : Nat → Prop) (w w' : World) : Prop where
  os : w'.os = w.os
  tape : w'.tape = w.tape
  output : w'.output = w.output
  size : w.heap.size ≤ w'.heap.size
  block : ∀ k, k < w.heap.size → ¬ D k → w'.heap[k]? = w.heap[k]?
/-- D' is D, and blocks that were not there in w. -/
def Grow (w : World) (D D' : Nat → Prop) : Prop := (∀ k, D k → D' k) ∧ ∀ k, D' k → D k ∨ w.heap.size ≤ k
theorem Grow.refl (w : World) (D : Nat → Prop) : Grow w D D := ⟨fun _ h => h, fun _ h => .inl h⟩
theorem Chg.refl (D : Nat → Prop) (w : World) : Chg D w w := ⟨rfl, rfl, rfl, Nat.le_refl _, fun _ _ _ => rfl⟩
theorem Chg.of_below {D : Nat → Prop} {w w' : World} (h : Below w.heap.size w w') : Chg D w w' := ⟨h.os, h.tape, h.output, h.size, fun k hk _ => h.block k hk⟩
theorem Chg.of_qu {D : Nat → Prop} {w w' : World} (h : Qu w w') : Chg D w w' := Chg.of_below (h.below _)
theorem Chg.below {D : Nat → Prop} {w w' : World} {B : Nat} (h : Chg D w w') (hB : B ≤ w.heap.size) (hD : ∀ k, D k → B ≤ k) : Below B w w' :=
  ⟨h.os, h.tape, h.output, h.size, fun k hk => h.block k (by omega) (fun hd => by have := hD k hd; omega)⟩
theorem Chg.trans {D D' : Nat → Prop} {a b c : World} (h : Chg D a b) (k : Chg D' b c) (hD : ∀ i, D' i → D i ∨ a.heap.size ≤ i) : Chg D a c :=
  ⟨k.os.trans h.os, k.tape.trans h.tape, k.output.trans h.output, Nat.le_trans h.size k.size, fun i hi hd => (k.block i (Nat.lt_of_lt_of_le hi h.size) (fun hd' => by
    rcases hD i hd' with h1 | h1
    · exact hd h1
    · omega)).trans (h.block i hi hd)⟩
theorem Chg.mono {D D' : Nat → Prop} {a b : World} (h : Chg D a b) (hD : ∀ i, D i → D' i) : Chg D' a b := ⟨h.os, h.tape, h.output, h.size, fun k hk hd => h.block k hk (fun h' => hd (hD k h'))⟩
theorem Chg.same {D : Nat → Prop} {a b c : World} (h : Chg D a b) (k : Chg D b c) : Chg D a c := h.trans k (fun _ h => .inl h)
theorem Chg.upd {D : Nat → Prop} {p : Nat} {w w' : World} (h : Upd p w w') (hp : D p) : Chg D w w' :=
  ⟨h.os, h.tape, h.output, h.size, fun k hk hd => h.block k hk (fun e => by injection e with e; exact hd (e ▸ hp))⟩
theorem Grow.trans {a b : World} {D D' D'' : Nat → Prop} (h : Grow a D D') (k : Grow b D' D'') (hs : a.heap.size ≤ b.heap.size) : Grow a D D'' :=
  ⟨fun i hi => k.1 i (h.1 i hi), fun i hi => by
    rcases k.2 i hi with h1 | h1
    · exact h.2 i h1
    · exact .inr (by omega)⟩
/-- The blocks of E are as they were. -/
def Kept (E : Nat → Prop) (w w' : World) : Prop := ∀ k, E k → w'.heap[k]? = w.heap[k]?
theorem Chg.kept {D E : Nat → Prop} {w w' : World} (h : Chg D w w') (hE : ∀ k, E k → k < w.heap.size ∧ ¬ D k) : Kept E w w' := fun k hk => h.block k (hE k hk).1 (hE k hk).2
theorem Kept.cell {E : Nat → Prop} {w w' : World} (h : Kept E w w') {b i : Nat} {v : Option Value} (hb : E b) (hc : w.cell? ⟨b, i, none⟩ = v) : w'.cell? ⟨b, i, none⟩ = v := (World.cell?_of_block (a := ⟨b, i, none⟩) (h b hb)).trans hc
theorem Kept.frozen {E : Nat → Prop} {w w' : World} (h : Kept E w w') {b i : Nat} {v : Bool} (hb : E b) (hc : w.frozen? ⟨b, i, none⟩ = v) : w'.frozen? ⟨b, i, none⟩ = v := (World.frozen?_of_block (a := ⟨b, i, none⟩) (h b hb)).trans hc
/-- A slice of one-cell elements whose memory lies in blocks of E. -/
def SlE (w : World) (E : Nat → Prop) (v : Value) (xs : List Value) : Prop :=
  ∃ A c, v = .slice A xs.length c ∧ xs.length ≤ c ∧ c ≤ maxLen ∧
    (0 < xs.length → ∃ b off, A = some ⟨b, off, none⟩ ∧ E b ∧ ∀ j u, xs[j]? = some u → w.cell? ⟨b, off + j, none⟩ = some u)
theorem SlE.kept {w w' : World} {E : Nat → Prop} {v : Value} {xs : List Value} (h : SlE w E v xs) (k : Kept E w w') : SlE w' E v xs := by
  obtain ⟨A, c, h1, h2, h3, h4⟩ := h
  refine ⟨A, c, h1, h2, h3, fun h => ?_⟩
  obtain ⟨b, off, e, hE, hc⟩ := h4 h
  exact ⟨b, off, e, hE, fun j u hu => k.cell hE (hc j u hu)⟩
theorem SlE.mono {w : World} {E E' : Nat → Prop} {v : Value} {xs : List Value} (h : SlE w E v xs) (k : ∀ i, E i → E' i) : SlE w E' v xs := by
  obtain ⟨A, c, h1, h2, h3, h4⟩ := h
  refine ⟨A, c, h1, h2, h3, fun h => ?_⟩
  obtain ⟨b, off, e, hE, hc⟩ := h4 h
  exact ⟨b, off, e, k b hE, hc⟩
theorem SlE.sl {w : World} {E : Nat → Prop} {v : Value} {xs : List Value} (h : SlE w E v xs) : Sl w w.heap.size v xs := by
  obtain ⟨A, c, h1, h2, h3, h4⟩ := h
  refine ⟨A, c, h1, h2, h3, fun h => ?_⟩
  obtain ⟨b, off, e, hE, hc⟩ := h4 h
  exact ⟨b, off, e, World.block_lt_of_cell? w ⟨b, off + 0, none⟩ (hc 0 _ (List.getElem?_eq_getElem h)), hc⟩
theorem SlE.of_own {w : World} {base : Nat} {E : Nat → Prop} {e : TypeId} {v : Value} {n : Nat} {xs : List Value} (h : w.ownsRow base e 1 v n xs) (hE : ∀ g, v.ownBlock = some g → E g) : SlE w E v xs := by
  have hx := h
  obtain ⟨h1, h2⟩ := h
  rcases h2 with ⟨rfl, rfl⟩ | ⟨g, cap, cur, rfl, hb, hg, hnc, hcm, hcs, htk⟩
  · obtain rfl := List.eq_nil_of_length_eq_zero (by omega : xs.length = 0)
    exact ⟨none, 0, rfl, by simp, by simp [maxLen], by simp⟩
  · refine ⟨some ⟨g, 0, none⟩, cap, by rw [show xs.length = n by omega], by omega, hcm, fun _ => ⟨g, 0, rfl, hE g rfl, fun j u hu => ?_⟩⟩
    have hj : j < xs.length := (List.getElem?_eq_some_iff.1 hu).1
    rw [Nat.zero_add, hx.cellAt j (by omega), hu]
/-- A row stays where its block does. -/
theorem own_kept {w w' : World} {base : Nat} {e : TypeId} {sz n : Nat} {v : Value} {xs : List Value} (h : w.ownsRow base e sz v n xs) (k : ∀ g, v.ownBlock = some g → w'.heap[g]? = w.heap[g]?) : w'.ownsRow base e sz v n xs := by
  obtain ⟨h1, h2⟩ := h
  refine ⟨h1, ?_⟩
  rcases h2 with h2 | ⟨g, cap, cur, rfl, hb, hg, r⟩
  · exact .inl h2
  · exact .inr ⟨g, cap, cur, rfl, hb, (k g rfl).trans hg, r⟩
theorem own_lt {w : World} {base : Nat} {e : TypeId} {sz n : Nat} {v : Value} {xs : List Value} (h : w.ownsRow base e sz v n xs) : ∀ g, v.ownBlock = some g → base ≤ g ∧ g < w.heap.size := fun g hg => h.lt g hg
section
variable {P : Program}
/-- append onto a row of the call's own, and where the new row lies. -/
theorem app_own_at {ops : Array Oper} {rest : List Oper} {o : Oper} {a : Act} {w : World} {Q : Exit → Act → World → Prop} (s x : Operand) (t tx : TypeId) (hgd : o.guard = none)
    (ho : o.op = .call { callee := .builtin .append, args := #[s, x], argTypes := #[t, tx] })
    (base : Nat) (e : TypeId) (i : TypeInfo) (z : Value) (size bytes : Nat) (ht : P.underlying t = some (.slice e)) (hi : P.info? e = some i) (hz : i.zero = some z)
    (hsize : i.size = size) (hby : i.bytes = bytes) (hzs : z.cells.size = size) (hsz : 0 < size)
    (v : Value) (n : Nat) (xs : List Value) (hsv : a.eval s = v) (hown : w.ownsRow base e size v n xs)
    (xv : Value) (m : Nat) (news : List Value) (hxv : a.eval x = xv) (hs : Src P size tx xv m news w)
    (h63 : n + m ≤ maxLen) (hbytes : (n + m) * bytes ≤ 140737488355328) (hbase : base ≤ w.heap.size)
    (h : ∀ v' w', w'.ownsRow base e size v' (n + m) (xs ++ news) → w.grownBy w' v.ownBlock → Below base w w' → (v'.ownBlock = v.ownBlock ∨ v'.ownBlock = some w.heap.size) → wpList P ops Q rest (a.put o.dst v') w') : wpList P ops Q (o :: rest) a w := by
  obtain ⟨v', w', hrun, h2, h3, h4⟩ := run_app_own (P := P) w base t tx o.type e i z size bytes ht hi hz hsize hby hzs hsz v n xs hown xv m news hs h63 hbytes hbase
  exact wpList_plain hgd fun _ hK => wp_of_run s x t tx ho v xv hsv hxv hrun (hK _ _ (h v' w' h2 h3 ((Below.refl _ _).grown h3 hbase (fun j hj => (hown.lt j hj).1)) h4))
end
theorem SlE.lt {w : World} {E : Nat → Prop} {v : Value} {xs : List Value} (h : SlE w E v xs) : SlE w (fun g => E g ∧ g < w.heap.size) v xs := by
  obtain ⟨A, c, h1, h2, h3, h4⟩ := h
  refine ⟨A, c, h1, h2, h3, fun h => ?_⟩
  obtain ⟨b, off, e, hE, hc⟩ := h4 h
  exact ⟨b, off, e, ⟨hE, World.block_lt_of_cell? w ⟨b, off + 0, none⟩ (hc 0 _ (List.getElem?_eq_getElem h))⟩, hc⟩
theorem SlE.grown {w w' : World} {E E' : Nat → Prop} {v : Value} {xs : List Value} {row : Option Nat} (h : SlE w E v xs) (hg : w.grownBy w' row) (hE : ∀ g, E g → g < w.heap.size ∧ row ≠ some g) (hE' : ∀ g, E g → E' g) : SlE w' E' v xs :=
  (h.kept (fun k hk => hg.block k (hE k hk).1 (fun e => (hE k hk).2 e.symm))).mono hE'
theorem own_one (v : Value) {n : Nat} {w : World} {base : Nat} {e : TypeId} {sz : Nat} {xs : List Value} (h : w.ownsRow base e sz v n xs) : v.oneCell' = true := by
  rcases h.2 with ⟨rfl, _⟩ | ⟨g, cap, cur, rfl, _⟩ <;> rfl
/-- A row of the law's own may be written over. -/
def Over (A : Option Addr) (n : Nat) (w0 w : World) : Prop :=
  Chg (fun g => A = some ⟨g, 0, none⟩) w0 w ∧ (0 < n → ∃ g, A = some ⟨g, 0, none⟩ ∧ g < w.heap.size ∧ ∀ j, j < n → (∃ u, w.cell? ⟨g, j, none⟩ = some u) ∧ w.frozen? ⟨g, j, none⟩ = false)
theorem Over.start {w : World} {base n : Nat} {e : TypeId} {v : Value} {xs : List Value} (h : w.ownsRow base e 1 v n xs) : ∃ A c, v = .slice A n c ∧ n ≤ c ∧ c ≤ maxLen ∧ Over A n w w ∧ ∀ g, A = some ⟨g, 0, none⟩ → v.ownBlock = some g := by
  obtain ⟨A, c, rfl, h1, h2, h3⟩ := own_cells h
  refine ⟨A, c, rfl, h1, h2, ⟨Chg.refl _ _, fun h0 => ?_⟩, fun g hg => by subst hg; rfl⟩
  obtain ⟨g, e1, _, e2, e3⟩ := h3 h0
  exact ⟨g, e1, e2, e3⟩
theorem Over.store {A : Option Addr} {n j g : Nat} {w0 w : World} (h : Over A n w0 w) (hA : A = some ⟨g, 0, none⟩) (v : Value) (hj : j < n) : Over A n w0 (w.setCell ⟨g, j, none⟩ v) := by
  obtain ⟨h1, h2⟩ := h
  obtain ⟨g', e1, e2, e3⟩ := h2 (by omega)
  have hg : g' = g := by rw [hA] at e1; injection e1 with e1; injection e1 with e1 _; exact e1.symm
  subst hg
  refine ⟨h1.same ⟨rfl, rfl, rfl, by simp [World.setCell], fun k hk hn => Below.heap_setCell _ _ _ k (fun e => hn (by simp at e; rw [hA, e]))⟩, fun _ => ⟨g', hA, by simpa [World.setCell] using e2, fun i hi => ?_⟩⟩
  obtain ⟨⟨u, hu⟩, hf⟩ := e3 i hi
  refine ⟨?_, frozen_far hf⟩
  by_cases hij : j = i
  · subst hij; exact ⟨_, cell_here hu⟩
  · exact ⟨u, cell_beside hij hu⟩
end Go.Proofs.Yteebgmhdikcnnaa
/- Slices of ints that read as lists (seats without cells). -/
namespace Go.Proofs.Yteebgmhdikcnnaa
open Go.ChangeShapes Go.WideShapes Go.ChangeAt Go.RowKit
set_option linter.unusedVariables false

theorem Sl.formI {w : World} {B : Nat} {v : Value} {l : List Int} (h : Sl w B v (ivals l)) : ∃ A c, v = .slice A l.length c ∧ l.length ≤ c ∧ c ≤ maxLen := by
  obtain ⟨A, c, rfl, h1, h2, -⟩ := h
  rw [ivals_len] at h1 ⊢
  exact ⟨A, c, rfl, h1, h2⟩
theorem Sl.of_int {w : World} {B : Nat} {A : Option Addr} {l : List Int} {k : Nat} (h : 0 < (ivals l).length → ∃ b off, A = some ⟨b, off, none⟩ ∧ b < B ∧ ∀ j u, (ivals l)[j]? = some u → w.cell? ⟨b, off + j, none⟩ = some u) (hk : k < l.length) :
    ∃ b off, A = some ⟨b, off, none⟩ ∧ b < B ∧ w.cell? ⟨b, off + k, none⟩ = some (.int .i64 (l.getD k 0)) := by
  obtain ⟨b, off, e, hb, hc⟩ := h (by rw [ivals_len]; omega)
  exact ⟨b, off, e, hb, hc k _ (by simp [ivals, List.getElem?_eq_getElem hk])⟩
theorem Sl.int {w : World} {B n c : Nat} {A : Option Addr} {l : List Int} {k : Nat} (h : Sl w B (.slice A n c) (ivals l)) (hk : k < l.length) :
    ∃ b off, A = some ⟨b, off, none⟩ ∧ b < B ∧ w.cell? ⟨b, off + k, none⟩ = some (.int .i64 (l.getD k 0)) := by
  obtain ⟨A', c', e, h1, h2, h3⟩ := h
  injection e with e1 _ _
  subst e1
  exact Sl.of_int h3 hk
theorem take_succ_getD (l : List Int) (k : Nat) (hk : k < l.length) : l.take (k + 1) = l.take k ++ [l.getD k 0] := by
  rw [List.take_succ_eq_append_getElem hk, List.getD_eq_getElem?_getD, List.getElem?_eq_getElem hk]; rfl
theorem getD_ne {l r : List Int} {k : Nat} (h : l.getD k 0 ≠ r.getD k 0) : l ≠ r := fun e => h (by rw [e])
def EqRel (l r : List Int) (w : World) (i : Value) (wr : World) : Prop := ∃ k : Nat, k ≤ l.length ∧ i = .int .i64 k ∧ l.take k = r.take k ∧ Qu w wr
end Go.Proofs.Yteebgmhdikcnnaa
/- What values read as: numbers, texts, slices of anything, structs; how an argument is opened to its reading, whatever its type. -/
namespace Go.Proofs.Yteebgmhdikcnnaa
open Go.ChangeShapes Go.WideShapes Go.ChangeAt Go.RowKit Go.WideMaps Go.WideElems Go.Joins Go.Deep
set_option linter.unusedVariables false

/-- A reading: in the world, with all its memory below B, the cells read as x. -/
abbrev Rd (α : Type) := World → Nat → List Value → α → Prop
structure Good {α : Type} (R : Rd α) : Prop where
  stays : ∀ {w w' : World} {B : Nat} {cs : List Value} {x : α}, R w B cs x → Below B w w' → R w' B cs x
  more : ∀ {w : World} {B B' : Nat} {cs : List Value} {x : α}, R w B cs x → B ≤ B' → R w B' cs x
def InI64 (n : Int) : Prop := -9223372036854775808 ≤ n ∧ n ≤ 9223372036854775807
def rdInt : Rd Int := fun _ _ cs n => cs = [.int .i64 n] ∧ InI64 n
def rdByte : Rd UInt8 := fun _ _ cs c => cs = [.int .u8 (c.toNat : Int)]
def rdBool : Rd Bool := fun _ _ cs b => cs = [.bool b]
def rdStr : Rd ByteArray := fun _ _ cs s => cs = [.string s] ∧ s.size ≤ maxLen
def rdSlice {α : Type} (k : Nat) (R : Rd α) : Rd (List α) := fun w B cs l =>
  ∃ A c, cs = [.slice A l.length c] ∧ l.length ≤ c ∧ c ≤ maxLen ∧
    (0 < l.length → ∃ b off, A = some ⟨b, off, none⟩ ∧ b < B ∧ ∀ i x, l[i]? = some x → ∃ es : List Value, es.length = k ∧ (∀ j u, es[j]? = some u → w.cell? ⟨b, off + i * k + j, none⟩ = some u) ∧ R w B es x)
def rdPair {α β : Type} (k : Nat) (R : Rd α) (S : Rd β) : Rd (α × β) := fun w B cs x => (cs.take k).length = k ∧ R w B (cs.take k) x.1 ∧ S w B (cs.drop k) x.2
theorem good_int : Good rdInt := ⟨fun h _ => h, fun h _ => h⟩
theorem good_byte : Good rdByte := ⟨fun h _ => h, fun h _ => h⟩
theorem good_bool : Good rdBool := ⟨fun h _ => h, fun h _ => h⟩
theorem good_str : Good rdStr := ⟨fun h _ => h, fun h _ => h⟩
theorem good_pair {α β : Type} {k : Nat} {R : Rd α} {S : Rd β} (h1 : Good R) (h2 : Good S) : Good (rdPair k R S) :=
  ⟨fun h hb => ⟨h.1, h1.stays h.2.1 hb, h2.stays h.2.2 hb⟩, fun h hb => ⟨h.1, h1.more h.2.1 hb, h2.more h.2.2 hb⟩⟩
theorem good_slice {α : Type} {k : Nat} {R : Rd α} (h1 : Good R) : Good (rdSlice k R) := by
  constructor
  · rintro w w' B cs l ⟨A, c, e1, e2, e3, e4⟩ hb
    refine ⟨A, c, e1, e2, e3, fun h0 => ?_⟩
    obtain ⟨b, off, e5, e6, e7⟩ := e4 h0
    refine ⟨b, off, e5, e6, fun i x hx => ?_⟩
    obtain ⟨es, g1, g2, g3⟩ := e7 i x hx
    exact ⟨es, g1, fun j u hj => cellK hb e6 (g2 j u hj), h1.stays g3 hb⟩
  · rintro w B B' cs l ⟨A, c, e1, e2, e3, e4⟩ hb
    refine ⟨A, c, e1, e2, e3, fun h0 => ?_⟩
    obtain ⟨b, off, e5, e6, e7⟩ := e4 h0
    refine ⟨b, off, e5, by omega, fun i x hx => ?_⟩
    obtain ⟨es, g1, g2, g3⟩ := e7 i x hx
    exact ⟨es, g1, g2, h1.more g3 hb⟩

section
variable {P : Program}
/-- Whatever of type t was handed in reads by R; it has k cells. -/
def Opens {α : Type} (P : Program) (t : TypeId) (k : Nat) (R : Rd α) : Prop :=
  P.cellsOf t = k ∧ ∀ (H : Type) (enc : TypeId × Value → H) (W : World) (fuel : Nat) (cs : List Value) (x : DataW H × List MemPlace), DataW.trod enc P W 0 (fun _ => true) true fuel t cs = some x → ∃ d : α, R W W.heap.size cs d
theorem opens_int {t : TypeId} (ht : P.underlying t = some (.int .i64)) (hk : P.cellsOf t = 1) : Opens P t 1 rdInt := by
  refine ⟨hk, fun H enc W fuel cs x h => ?_⟩
  obtain ⟨n, e1, -, e2⟩ := DataW.trod_int ht h
  exact ⟨n, e1, bounds_i64 e2⟩
theorem opens_byte {t : TypeId} (ht : P.underlying t = some (.int .u8)) (hk : P.cellsOf t = 1) : Opens P t 1 rdByte := by
  refine ⟨hk, fun H enc W fuel cs x h => ?_⟩
  obtain ⟨n, e1, -, e2⟩ := DataW.trod_int ht h
  simp [Lit.wf, IntKind.min, IntKind.max, IntKind.signed, IntKind.bits] at e2
  refine ⟨UInt8.ofNat n.toNat, ?_⟩
  show cs = [.int .u8 _]
  rw [e1, UInt8.toNat_ofNat']
  congr 2
  omega
theorem opens_bool {t : TypeId} (ht : P.underlying t = some .bool) (hk : P.cellsOf t = 1) : Opens P t 1 rdBool := by
  refine ⟨hk, fun H enc W fuel cs x h => ?_⟩
  obtain ⟨b, e1, -⟩ := DataW.trod_bool ht h
  exact ⟨b, e1⟩
theorem opens_str {t : TypeId} (ht : P.underlying t = some .string) (hk : P.cellsOf t = 1) : Opens P t 1 rdStr := by
  refine ⟨hk, fun H enc W fuel cs x h => ?_⟩
  obtain ⟨s, e1, -, e2⟩ := DataW.trod_string ht h
  exact ⟨s, e1, e2⟩
theorem choose_list {α : Type} (Q : Nat → α → Prop) (n : Nat) (h : ∀ i, i < n → ∃ x, Q i x) : ∃ l : List α, l.length = n ∧ ∀ i x, l[i]? = some x → Q i x := by
  induction n with
  | zero => exact ⟨[], rfl, by simp⟩
  | succ n ih =>
    obtain ⟨l, e1, e2⟩ := ih (fun i hi => h i (by omega))
    obtain ⟨x, hx⟩ := h n (by omega)
    refine ⟨l ++ [x], by simp [e1], fun i y hy => ?_⟩
    rcases Nat.lt_or_ge i n with hi | hi
    · rw [List.getElem?_append_left (by omega)] at hy; exact e2 i y hy
    · rw [List.getElem?_append_right (by omega)] at hy
      have : i - l.length = 0 := by
        rcases Nat.eq_zero_or_pos (i - l.length) with h | h
        · exact h
        · rw [List.getElem?_eq_none (by simp; omega)] at hy; cases hy
      rw [this] at hy
      simp at hy
      obtain rfl : i = n := by omega
      exact hy ▸ hx
theorem opens_slice {α : Type} {k : Nat} {R : Rd α} {t e : TypeId} (hg : Good R) (ht : P.underlying t = some (.slice e)) (he : Opens P e k R) (hk : P.cellsOf t = 1) (hk0 : 0 < k) : Opens P t 1 (rdSlice k R) := by
  refine ⟨hk, fun H enc W fuel cs x h => ?_⟩
  obtain ⟨hke, he⟩ := he
  rcases open_slice ht h with ⟨rfl, _⟩ | ⟨a, len, cap, m, n, D, Pl, rfl, hb, hl, hm, hmm, hx, hi⟩
  · exact ⟨[], none, 0, rfl, by simp, by simp [maxLen], by simp⟩
  · simp only [if_true] at hmm
    subst hmm
    rw [hke] at hi
    obtain ⟨l, e1, e2⟩ := choose_list (fun i (x : α) => ∃ es : List Value, es.length = k ∧ (∀ j u, es[j]? = some u → W.cell? (a.add (i * k + j)) = some u) ∧ R W W.heap.size es x) len (fun i hil => by
      obtain ⟨cs', g1, g2⟩ := hi i (by omega)
      obtain ⟨_, g3, g4⟩ := World.cells?_some g1
      obtain ⟨d, hd⟩ := he _ _ _ _ _ _ g2
      refine ⟨d, cs', g3, fun j u hj => ?_, hd⟩
      have hj' : j < k := by have := (List.getElem?_eq_some_iff.1 hj).1; omega
      rw [← add_add, g4 j hj', hj])
    refine ⟨l, some a, m, by rw [e1], by omega, hm, fun h0 => ?_⟩
    obtain ⟨es0, q1, q2, q3⟩ := e2 0 (l[0]'h0) (List.getElem?_eq_getElem h0)
    have h00 := q2 0 (es0[0]'(by omega)) (List.getElem?_eq_getElem (by omega))
    simp only [Nat.zero_mul, Nat.zero_add] at h00
    have ha0 : a.add 0 = a := by simp [Addr.add]
    rw [ha0] at h00
    have ha := addr_of_cell h00
    refine ⟨a.block, a.off, congrArg some ha, World.block_lt_of_cell? W a h00, fun i x hx => ?_⟩
    obtain ⟨es, q1, q2, q3⟩ := e2 i x hx
    refine ⟨es, q1, fun j u hj => ?_, q3⟩
    have := q2 j u hj
    rw [ha, add_eq, ← Nat.add_assoc] at this
    exact this
/-- A struct's fields from offset o on. -/
def OpensF {α : Type} (P : Program) (fs : List Field) (o k : Nat) (R : Rd α) : Prop :=
  ∀ (H : Type) (enc : TypeId × Value → H) (W : World) (n : Nat) (cs : List Value) (xs : List (DataW H × List MemPlace)), xs.length = fs.length →
    (∀ (i : Nat) (f : Field), fs[i]? = some f → DataW.trod enc P W 0 (fun _ => true) true n f.type ((cs.drop f.offset).take (P.cellsOf f.type)) = xs[i]?) → cs.length = o + k → ∃ d : α, R W W.heap.size (cs.drop o) d
theorem opensF_one {α : Type} {f : Field} {o k : Nat} {R : Rd α} (ho : f.offset = o) (h : Opens P f.type k R) : OpensF P [f] o k R := by
  intro H enc W n cs xs hl hx hcs
  match xs, hl with
  | [x], _ =>
    have := hx 0 f rfl
    rw [ho, h.1, List.take_of_length_le (by rw [List.length_drop]; omega)] at this
    exact h.2 _ _ _ _ _ _ this
theorem opensF_cons {α β : Type} {f : Field} {fs : List Field} {o k1 k2 : Nat} {R : Rd α} {S : Rd β} (ho : f.offset = o) (h : Opens P f.type k1 R) (hs : OpensF P fs (o + k1) k2 S) : OpensF P (f :: fs) o (k1 + k2) (rdPair k1 R S) := by
  intro H enc W n cs xs hl hx hcs
  match xs, hl with
  | x :: xs, hl =>
    have h0 := hx 0 f rfl
    rw [ho, h.1] at h0
    obtain ⟨d, hd⟩ := h.2 _ _ _ _ _ _ h0
    obtain ⟨e, he⟩ := hs H enc W n cs xs (by simpa using hl) (fun i g hg => hx (i + 1) g (by simpa using hg)) (by omega)
    refine ⟨(d, e), ?_, hd, ?_⟩
    · rw [List.length_take, List.length_drop]; omega
    · rw [List.drop_drop]; exact he
theorem opens_struct {α : Type} {t : TypeId} {fs : Array Field} {k : Nat} {R : Rd α} (ht : P.underlying t = some (.struct fs)) (hk : P.cellsOf t = k) (h : OpensF P fs.toList 0 k R) : Opens P t k R := by
  refine ⟨hk, fun H enc W fuel cs x hx => ?_⟩
  obtain ⟨xs, n, _, _, hc, hl, hf⟩ := DataW.trod_struct ht hx
  have := h H enc W n cs xs (by simpa using hl) (fun i f hi => hf i f (by simpa using hi)) (by omega)
  simpa using this

variable {H : Type} {enc : TypeId × Value → H}
/-- An argument that is a slice. -/
theorem open_read_slice {α : Type} {k : Nat} {R : Rd α} {W : World} {t e : TypeId} {v : Value} {d : DataW H} {ps : List MemPlace} (ht : P.underlying t = some (.slice e)) (ho : Opens P t 1 (rdSlice k R))
    (hv : Value.okWide P W .any 0 t v) (h : DataW.Trod enc P W 0 (fun _ => true) true t v d ps) : ∃ l : List α, rdSlice k R W W.heap.size [v] l := by
  obtain ⟨a0, len, cap, rfl⟩ := okWide_slice ht hv
  obtain ⟨fuel, hf⟩ := h
  exact ho.2 _ _ _ _ _ _ hf
/-- An argument that is a struct. -/
theorem open_read_struct {α : Type} {k : Nat} {R : Rd α} {W : World} {t : TypeId} {fs : Array Field} {v : Value} {d : DataW H} {ps : List MemPlace} (ht : P.underlying t = some (.struct fs)) (ho : Opens P t k R)
    (hv : Value.okWide P W .any 0 t v) (h : DataW.Trod enc P W 0 (fun _ => true) true t v d ps) : ∃ (cs : Array Value) (x : α), v = .agg cs ∧ cs.size = k ∧ R W W.heap.size cs.toList x := by
  obtain ⟨cs, rfl, hsz⟩ := okWide_struct ht hv
  obtain ⟨fuel, hf⟩ := h
  obtain ⟨x, hx⟩ := ho.2 _ _ _ _ _ _ hf
  exact ⟨cs, x, rfl, hsz.trans ho.1, hx⟩
end
/-- The element at a place of a slice. -/
theorem rdSlice.at_ {α : Type} {k : Nat} {R : Rd α} {w : World} {B n c : Nat} {A : Option Addr} {l : List α} (h : rdSlice k R w B [.slice A n c] l) {i : Nat} (hi : i < l.length) :
    ∃ b off, A = some ⟨b, off, none⟩ ∧ b < B ∧ ∃ es : List Value, es.length = k ∧ (∀ j u, es[j]? = some u → w.cell? ⟨b, off + i * k + j, none⟩ = some u) ∧ R w B es l[i] := by
  obtain ⟨A', c', e1, e2, e3, e4⟩ := h
  injection e1 with e1 _
  injection e1 with e1 _ _
  subst e1
  obtain ⟨b, off, e5, e6, e7⟩ := e4 (by omega)
  obtain ⟨es, g1, g2, g3⟩ := e7 i l[i] (List.getElem?_eq_getElem hi)
  exact ⟨b, off, e5, e6, es, g1, g2, g3⟩
theorem rdSlice.form {α : Type} {k : Nat} {R : Rd α} {w : World} {B : Nat} {v : Value} {l : List α} (h : rdSlice k R w B [v] l) : ∃ A c, v = .slice A l.length c ∧ l.length ≤ c ∧ c ≤ maxLen := by
  obtain ⟨A, c, e1, e2, e3, -⟩ := h
  injection e1 with e1 _
  exact ⟨A, c, e1, e2, e3⟩
/-- A slice of one-cell elements, as a list of values. -/
theorem rdSlice.sl {α : Type} {R : Rd α} {w : World} {B : Nat} {v : Value} {l : List α} (f : α → Value) (hf : ∀ es x, R w B es x → es = [f x]) (h : rdSlice 1 R w B [v] l) : Sl w B v (l.map f) := by
  obtain ⟨A, c, e1, e2, e3, e4⟩ := h
  injection e1 with e1 _
  refine ⟨A, c, by rw [List.length_map]; exact e1, by rw [List.length_map]; exact e2, e3, fun h0 => ?_⟩
  rw [List.length_map] at h0
  obtain ⟨b, off, e5, e6, e7⟩ := e4 h0
  refine ⟨b, off, e5, e6, fun j u hu => ?_⟩
  rw [List.getElem?_map, Option.map_eq_some_iff] at hu
  obtain ⟨x, hx, rfl⟩ := hu
  obtain ⟨es, g1, g2, g3⟩ := e7 j x hx
  rw [hf es x g3] at g2
  have := g2 0 _ rfl
  simpa using this
end Go.Proofs.Yteebgmhdikcnnaa
