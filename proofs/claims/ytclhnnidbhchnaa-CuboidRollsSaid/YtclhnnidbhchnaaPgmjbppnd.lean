/- 2 texts of this claim, in build order. -/
import Derived.Test.YtclhnnidbhchnaaPoebmaoeo
import Derived.Test.YtclhnnidbhchnaaPbmmihbib
import Derived.Laws.IdiomCopy
import Derived.Test.YtclhnnidbhchnaaPojkealok
/- Lists of cells in memory. -/
namespace Go.Proofs.Ytclhnnidbhchnaa
open Go.ChangeShapes Go.WideShapes Go.ChangeAt Go.RowKit
set_option linter.unusedVariables false
set_option linter.unusedSimpArgs false

/-- A cell as it lies in memory. -/
abbrev E4 := Int × Value × Value × Value
def e4 (x : E4) : List Value := [.int .i64 x.1, x.2.1, x.2.2.1, x.2.2.2]
def z4 : E4 := (0, .slice none 0 0, .slice none 0 0, .slice none 0 0)
/-- The cells of the elements, four each. -/
def At4 (w : World) (b off k : Nat) (x : E4) : Prop :=
  w.cell? ⟨b, off + k * 4, none⟩ = some (.int .i64 x.1) ∧ w.cell? ⟨b, off + k * 4 + 1, none⟩ = some x.2.1 ∧ w.cell? ⟨b, off + k * 4 + 2, none⟩ = some x.2.2.1 ∧ w.cell? ⟨b, off + k * 4 + 3, none⟩ = some x.2.2.2
theorem At4.of_block {w w' : World} {b off k : Nat} {x : E4} (h : At4 w b off k x) (hb : w'.heap[b]? = w.heap[b]?) : At4 w' b off k x :=
  ⟨(World.cell?_of_block (a := ⟨b, off + k * 4, none⟩) hb).trans h.1, (World.cell?_of_block (a := ⟨b, off + k * 4 + 1, none⟩) hb).trans h.2.1, (World.cell?_of_block (a := ⟨b, off + k * 4 + 2, none⟩) hb).trans h.2.2.1, (World.cell?_of_block (a := ⟨b, off + k * 4 + 3, none⟩) hb).trans h.2.2.2⟩
/-- A list of cells that is read: where its elements lie, and what they read as. -/
def RowC (w : World) (B : Nat) (v : Value) (L : List CellM) : Prop :=
  ∃ (A : Option Addr) (c : Nat) (es : List E4), v = .slice A L.length c ∧ es.length = L.length ∧ L.length ≤ c ∧ c ≤ maxLen ∧
    (0 < L.length → ∃ b off, A = some ⟨b, off, none⟩ ∧ b < B ∧ ∀ k, k < L.length → At4 w b off k (es.getD k z4)) ∧
    ∀ k, k < L.length → CellR w B (.agg #[.int .i64 (es.getD k z4).1, (es.getD k z4).2.1, (es.getD k z4).2.2.1, (es.getD k z4).2.2.2]) (L.getD k nilC)
theorem RowC.below {w w' : World} {B : Nat} {v : Value} {L : List CellM} (h : RowC w B v L) (hb : Below B w w') : RowC w' B v L := by
  obtain ⟨A, c, es, h1, h2, h3, h4, h5, h6⟩ := h
  refine ⟨A, c, es, h1, h2, h3, h4, fun h0 => ?_, fun k hk => (h6 k hk).below hb⟩
  obtain ⟨b, off, e, hlt, hc⟩ := h5 h0
  exact ⟨b, off, e, hlt, fun k hk => (hc k hk).of_block (hb.block b hlt)⟩
theorem RowC.more {w : World} {B B' : Nat} {v : Value} {L : List CellM} (h : RowC w B v L) (hB : B ≤ B') : RowC w B' v L := by
  obtain ⟨A, c, es, h1, h2, h3, h4, h5, h6⟩ := h
  refine ⟨A, c, es, h1, h2, h3, h4, fun h0 => ?_, fun k hk => (h6 k hk).more hB⟩
  obtain ⟨b, off, e, hlt, hc⟩ := h5 h0
  exact ⟨b, off, e, by omega, hc⟩
theorem RowC.on {w w' : World} {v : Value} {L : List CellM} (h : RowC w w.heap.size v L) (hb : Below w.heap.size w w') : RowC w' w'.heap.size v L := (h.below hb).more hb.size
/-! ### As values side by side -/
def flat4 (es : List E4) : List Value := es.flatMap e4
theorem flat4_len (es : List E4) : (flat4 es).length = es.length * 4 := by
  unfold flat4
  induction es with
  | nil => rfl
  | cons x es ih => rw [List.flatMap_cons, List.length_append, ih]; simp [e4]; omega
theorem flat4_at : ∀ {es : List E4} {k j : Nat}, k < es.length → j < 4 → (flat4 es)[k * 4 + j]? = (e4 (es.getD k z4))[j]? := by
  intro es
  induction es with
  | nil => intro k j hk; simp at hk
  | cons x es ih =>
    intro k j hk hj
    unfold flat4
    rw [List.flatMap_cons]
    cases k with
    | zero => rw [List.getElem?_append_left (by simp [e4]; omega)]; simp
    | succ k =>
      rw [List.getElem?_append_right (by simp [e4]; omega), show (k + 1) * 4 + j - (e4 x).length = k * 4 + j by simp [e4]; omega]
      have := ih (k := k) (j := j) (by simpa using hk) hj
      unfold flat4 at this
      rw [this]
      simp
theorem At4.val {w : World} {b off k : Nat} {x : E4} (h : At4 w b off k x) {j : Nat} {u : Value} (hu : (e4 x)[j]? = some u) : w.cell? ⟨b, off + k * 4 + j, none⟩ = some u := by
  have hj : j < 4 := (List.getElem?_eq_some_iff.1 hu).1
  rcases j with _ | _ | _ | _ | j
  · simp [e4] at hu; subst hu; exact h.1
  · simp [e4] at hu; subst hu; exact h.2.1
  · simp [e4] at hu; subst hu; exact h.2.2.1
  · simp [e4] at hu; subst hu; exact h.2.2.2
  · omega
/-- Elements that lie side by side, as one list of values. -/
theorem flat4_cells {w : World} {b off : Nat} {es : List E4} (h : ∀ k, k < es.length → At4 w b off k (es.getD k z4)) : ∀ j u, (flat4 es)[j]? = some u → w.cell? ⟨b, off + j, none⟩ = some u := by
  intro j u hu
  have hj := (List.getElem?_eq_some_iff.1 hu).1
  rw [flat4_len] at hj
  have e : j = j / 4 * 4 + j % 4 := by omega
  rw [e] at hu
  rw [flat4_at (by omega) (by omega)] at hu
  have := (h (j / 4) (by omega)).val hu
  rw [e, ← Nat.add_assoc]
  exact this
theorem flat4_back {w : World} {b off : Nat} {es : List E4} (h : ∀ j, j < es.length * 4 → w.cell? ⟨b, off + j, none⟩ = (flat4 es)[j]?) : ∀ k, k < es.length → At4 w b off k (es.getD k z4) := by
  intro k hk
  have q : ∀ j, j < 4 → w.cell? ⟨b, off + k * 4 + j, none⟩ = (e4 (es.getD k z4))[j]? := fun j hj => by
    rw [← flat4_at hk hj, Nat.add_assoc]
    exact h _ (by omega)
  exact ⟨q 0 (by omega), q 1 (by omega), q 2 (by omega), q 3 (by omega)⟩
end Go.Proofs.Ytclhnnidbhchnaa
/- The map of groups. -/
namespace Go.Proofs.Ytclhnnidbhchnaa
open Go.ChangeShapes Go.WideShapes Go.ChangeAt Go.RowKit Go.Maps
open Go.ChangeMaps Go.MapKept
set_option linter.unusedVariables false
set_option linter.unusedSimpArgs false

def gcells (P : List KC) (g : List Int) : List CellM := (P.filter fun x => decide (x.1 = g)).map Prod.snd
theorem gcells_nil (g : List Int) : gcells [] g = [] := rfl
theorem gcells_snoc (P : List KC) (x : KC) (g : List Int) : gcells (P ++ [x]) g = if x.1 = g then gcells P g ++ [x.2] else gcells P g := by
  unfold gcells
  rw [List.filter_append, List.map_append]
  by_cases h : x.1 = g
  · simp [h]
  · simp [h]
theorem gcells_len (P : List KC) (g : List Int) : (gcells P g).length ≤ P.length := by
  unfold gcells
  rw [List.length_map]
  exact List.length_filter_le _ _
theorem gcells_none {P : List KC} {g : List Int} (h : ∀ x ∈ P, x.1 ≠ g) : gcells P g = [] := by
  unfold gcells
  rw [List.filter_eq_nil_iff.2 (fun x hx => by simpa using h x hx)]; rfl
theorem gcells_ne {P : List KC} {x : KC} (h : x ∈ P) : gcells P x.1 ≠ [] := by
  unfold gcells
  intro e
  rw [List.map_eq_nil_iff, List.filter_eq_nil_iff] at e
  have := e x h
  simp at this
theorem gcells_mem {P : List KC} {g : List Int} {c : CellM} (h : c ∈ gcells P g) : ∃ x ∈ P, x.1 = g ∧ x.2 = c := by
  unfold gcells at h
  obtain ⟨x, hx, rfl⟩ := List.mem_map.1 h
  rw [List.mem_filter] at hx
  exact ⟨x, hx.1, by simpa using hx.2, rfl⟩
/-- The elements' lists lie in blocks of E. -/
def RowE4 (w : World) (E : Nat → Prop) (es : List E4) (cs : List CellM) : Prop :=
  es.length = cs.length ∧ ∀ k, k < cs.length → CellE w E (.agg #[.int .i64 (es.getD k z4).1, (es.getD k z4).2.1, (es.getD k z4).2.2.1, (es.getD k z4).2.2.2]) (cs.getD k nilC)
theorem RowE4.kept {w w' : World} {E : Nat → Prop} {es : List E4} {cs : List CellM} (h : RowE4 w E es cs) (k : Kept E w w') : RowE4 w' E es cs := ⟨h.1, fun i hi => (h.2 i hi).kept k⟩
theorem RowE4.snoc {w : World} {E : Nat → Prop} {es : List E4} {cs : List CellM} (h : RowE4 w E es cs) {x : E4} {c : CellM} (h2 : CellE w E (.agg #[.int .i64 x.1, x.2.1, x.2.2.1, x.2.2.2]) c) : RowE4 w E (es ++ [x]) (cs ++ [c]) := by
  obtain ⟨hl, hk⟩ := h
  refine ⟨by simp [hl], fun k hk' => ?_⟩
  rw [List.length_append, List.length_singleton] at hk'
  rcases Nat.lt_or_ge k cs.length with h' | h'
  · have e1 : (es ++ [x]).getD k z4 = es.getD k z4 := by simp only [List.getD_eq_getElem?_getD]; rw [List.getElem?_append_left (by omega)]
    have e2 : (cs ++ [c]).getD k nilC = cs.getD k nilC := by simp only [List.getD_eq_getElem?_getD]; rw [List.getElem?_append_left (by omega)]
    rw [e1, e2]; exact hk k h'
  · obtain rfl : k = cs.length := by omega
    have e1 : (es ++ [x]).getD cs.length z4 = x := by simp only [List.getD_eq_getElem?_getD]; rw [← hl, List.getElem?_append_right (by omega)]; simp
    have e2 : (cs ++ [c]).getD cs.length nilC = c := by simp only [List.getD_eq_getElem?_getD]; rw [List.getElem?_append_right (by omega)]; simp
    rw [e1, e2]; exact h2
/-- A group's row. -/
def GRow (w : World) (E : Nat → Prop) (H : Nat) (v : Value) (cs : List CellM) : Prop := ∃ es, w.ownsRow H 25 4 v cs.length (flat4 es) ∧ RowE4 w E es cs
theorem GRow.kept {w w' : World} {E : Nat → Prop} {H : Nat} {v : Value} {cs : List CellM} (h : GRow w E H v cs) (k : Kept E w w') (k2 : ∀ g, v.ownBlock = some g → w'.heap[g]? = w.heap[g]?) : GRow w' E H v cs := by
  obtain ⟨es, h1, h2⟩ := h
  exact ⟨es, own_kept h1 k2, h2.kept k⟩
theorem GRow.lt {w : World} {E : Nat → Prop} {H : Nat} {v : Value} {cs : List CellM} (h : GRow w E H v cs) : ∀ g, v.ownBlock = some g → H ≤ g ∧ g < w.heap.size := by
  obtain ⟨es, h1, h2⟩ := h
  exact fun g hg => h1.lt g hg
/-- The map of groups: for each key the cells of its group. -/
def MapG (w : World) (E : Nat → Prop) (H mg W : Nat) (P : List KC) : Prop :=
  ∃ D : DataW Value, w.ownsMap Try.prog 99 heldR mg (Maps.size D) D ∧ Maps.size D ≤ P.length ∧ (∀ x ∈ P, Maps.has D (keyLk x.1) = true) ∧ (∀ kl, Maps.has D kl = true → ∃ x ∈ P, kl = keyLk x.1) ∧
    (∀ x ∈ P, ∃ v, (∀ z, D.atKey (keyLk x.1) z = .held v) ∧ GRow w E H v (gcells P x.1)) ∧
    ∀ x ∈ P, ∀ y ∈ P, x.1 ≠ y.1 → ∀ vx vy, (∀ z, D.atKey (keyLk x.1) z = .held vx) → (∀ z, D.atKey (keyLk y.1) z = .held vy) → ∀ g, vx.ownBlock = some g → vy.ownBlock ≠ some g
theorem MapG.new (w : World) (E : Nat → Prop) (H W : Nat) : MapG (w.alloc (.map #[] 0)) E H w.heap.size W [] :=
  ⟨.map [], World.ownsMap_made _ _ _ _, Nat.le_refl _, (fun x hx => by cases hx), (fun kl h => by simp [Maps.has] at h), (fun x hx => by cases hx), (fun x hx => by cases hx)⟩
theorem MapG.lt {w : World} {E : Nat → Prop} {H mg W : Nat} {P : List KC} (h : MapG w E H mg W P) : mg < w.heap.size := by
  obtain ⟨D, h1, -⟩ := h
  exact h1.lt
theorem MapG.kept {w w' : World} {E : Nat → Prop} {H mg W : Nat} {P : List KC} (h : MapG w E H mg W P) (hE : ∀ i, E i → i < w.heap.size) (hb : Below w.heap.size w w') : MapG w' E H mg W P := by
  have hlt := h.lt
  obtain ⟨D, ⟨es, clock, hbk, r⟩, h2, h3, h4, h5, h6⟩ := h
  refine ⟨D, ⟨es, clock, (hb.block mg hlt).trans hbk, r⟩, h2, h3, h4, fun x hx => ?_, h6⟩
  obtain ⟨v, a, b⟩ := h5 x hx
  exact ⟨v, a, b.kept (fun i hi => hb.block i (hE i hi)) (fun g hg => hb.block g (b.lt g hg).2)⟩
set_option maxHeartbeats 800000 in
theorem MapG.entry {w : World} {E : Nat → Prop} {H mg W : Nat} {P : List KC} {g : List Int} (h : MapG w E H mg W P) (hok : ∀ x ∈ P, okK W x.1) (hg : okK W g) (hW : W ≤ 3) (hP : P.length ≤ 100000) (hH : mg < H) (hHw : H ≤ w.heap.size) (hE : ∀ i, E i → i < H ∧ i ≠ mg) :
    ∃ (v0 : Value) (st : Nat) (w1 : World), (Instr.mapEntry 95 (.map (some mg)) (keyT g)).run Try.prog w = .ok (.tuple #[v0, .int .i64 st]) w1 ∧ Upd mg w w1 ∧ w1.heap.size = w.heap.size ∧ GRow w E H v0 (gcells P g) ∧
      ∀ (w2 : World) (v' : Value) (c : CellM), w2.heap[mg]? = w1.heap[mg]? → w.heap.size ≤ w2.heap.size → (∀ k, k < w.heap.size → k ≠ mg → v0.ownBlock ≠ some k → w2.heap[k]? = w.heap[k]?) → GRow w2 E H v' (gcells P g ++ [c]) →
        (v'.ownBlock = v0.ownBlock ∨ ∀ b, v'.ownBlock = some b → w.heap.size ≤ b) →
        ∃ w3, (Instr.entryStore 95 (.map (some mg)) (.int .i64 st) v').run Try.prog w2 = .ok () w3 ∧ MapG w3 E H mg W (P ++ [(g, c)]) ∧ Upd mg w2 w3 ∧ w3.heap.size = w2.heap.size := by
  obtain ⟨D, h1, h2, h3, h4, h5, h6⟩ := h
  obtain ⟨v0, st, w1, hrun, hu, hz, hv0, hst⟩ := entry_own h1 (by unfold maxLen; omega) (key_of_k hg)
  have hin : ∀ {x : KC}, x ∈ P → x.1 ≠ g → keyLk x.1 ≠ keyLk g := fun {x} hx hne e => hne (keyLk_inj (hok x hx) hg hW e)
  have hgrow : GRow w E H v0 (gcells P g) ∧ ∀ x ∈ P, x.1 ≠ g → ∀ vx, (∀ z, D.atKey (keyLk x.1) z = .held vx) → ∀ b, vx.ownBlock = some b → v0.ownBlock ≠ some b := by
    rcases hv0 with ⟨hh, hat⟩ | ⟨hh, rfl⟩
    · obtain ⟨y, hy, hky⟩ := h4 _ hh
      have hyg : g = y.1 := keyLk_inj hg (hok y hy) hW hky
      subst hyg
      obtain ⟨v, hv, hr⟩ := h5 y hy
      have e := (hv (.held undef)).symm.trans (hat (.held undef))
      have e := DataW.held.inj e
      subst e
      exact ⟨hr, fun x hx hne vx hvx b hb => h6 x hx y hy hne vx v hvx hat b hb⟩
    · have hno : ∀ x ∈ P, x.1 ≠ g := fun x hx e => by
        have := h3 x hx
        rw [e, hh] at this; cases this
      rw [gcells_none hno]
      exact ⟨⟨[], World.ownsRow_nil _ _ _ _, rfl, fun k hk => by simp at hk⟩, fun x hx hne vx hvx b hb => by simp [Value.ownBlock]⟩
  refine ⟨v0, st, w1, hrun, hu, hz, hgrow.1, fun w2 v' c hm hsz hkeep hrow hblk => ?_⟩
  obtain ⟨w3, hrun3, ho3, hu3, hz3⟩ := hst w2 v' hm
  have hm2 : mg < w2.heap.size := Nat.lt_of_lt_of_le (Nat.lt_of_lt_of_le hH hHw) hsz
  have hk23 : ∀ k, k < w2.heap.size → k ≠ mg → w3.heap[k]? = w2.heap[k]? := fun k hk hne => hu3.block k hk (fun e => hne (by injection e))
  have hE3 : Kept E w w3 := fun i hi => by
    obtain ⟨a, b⟩ := hE i hi
    rw [hk23 i (by omega) b]
    exact hkeep i (by omega) b (fun e => by have := (hgrow.1.lt i e).1; omega)
  have hE23 : Kept E w2 w3 := fun i hi => by
    obtain ⟨a, b⟩ := hE i hi
    exact hk23 i (by omega) b
  refine ⟨w3, hrun3, ⟨D.put (keyLk g) (.held v'), own_tight ho3, ?_, fun x hx => ?_, fun kl hkl => ?_, fun x hx => ?_, fun x hx y hy hne vx vy hvx hvy b hb => ?_⟩, hu3, hz3⟩
  · rw [Maps.size_put (h1.tidy key_law)]
    rw [List.length_append, List.length_singleton]
    split
    · exact Nat.le_succ_of_le h2
    · exact Nat.succ_le_succ h2
  · by_cases e : x.1 = g
    · rw [e, Maps.has_put_same h1.isMap (keyLk_is hg)]
    · rcases List.mem_append.1 hx with hx | hx
      · rw [Maps.has_put_other (hin hx e)]; exact h3 x hx
      · simp at hx; subst hx; exact absurd rfl e
  · by_cases e : kl = keyLk g
    · exact ⟨(g, c), by simp, e⟩
    · rw [Maps.has_put_other e] at hkl
      obtain ⟨x, hx, he⟩ := h4 kl hkl
      exact ⟨x, List.mem_append_left _ hx, he⟩
  · rw [gcells_snoc]
    by_cases e : x.1 = g
    · rw [if_pos e.symm, e]
      exact ⟨v', fun z => Maps.atKey_put_same h1.isMap (keyLk_is hg) _ _, hrow.kept hE23 (fun b hb => hk23 b (hrow.lt b hb).2 (fun e => by have := (hrow.lt b hb).1; omega))⟩
    · rcases List.mem_append.1 hx with hx | hx
      · rw [if_neg (fun e' => e e'.symm)]
        obtain ⟨v, hv, hr⟩ := h5 x hx
        refine ⟨v, fun z => by rw [Maps.atKey_put_other (hin hx e)]; exact hv z, hr.kept hE3 (fun b hb => ?_)⟩
        have hbl := hr.lt b hb
        rw [hk23 b (by omega) (by omega)]
        exact hkeep b hbl.2 (by omega) (hgrow.2 x hx e v hv b hb)
      · simp at hx; subst hx; exact absurd rfl e
  · have same : ∀ {x : KC} {vx : Value}, x.1 = g → (∀ z, (D.put (keyLk g) (.held v')).atKey (keyLk x.1) z = .held vx) → vx = v' := fun {x vx} e hv => by
      have := hv (.held undef)
      rw [e, Maps.atKey_put_same h1.isMap (keyLk_is hg)] at this
      exact (DataW.held.inj this).symm
    have old : ∀ {x : KC} {vx : Value}, x ∈ P ++ [(g, c)] → x.1 ≠ g → (∀ z, (D.put (keyLk g) (.held v')).atKey (keyLk x.1) z = .held vx) → x ∈ P ∧ ∀ z, D.atKey (keyLk x.1) z = .held vx := fun {x vx} hx e hv => by
      rcases List.mem_append.1 hx with hx | hx
      · exact ⟨hx, fun z => by have := hv z; rw [Maps.atKey_put_other (hin hx e)] at this; exact this⟩
      · simp at hx; subst hx; exact absurd rfl e
    have apart : ∀ {x : KC} {vx : Value}, x ∈ P → x.1 ≠ g → (∀ z, D.atKey (keyLk x.1) z = .held vx) → ∀ b, vx.ownBlock = some b → v'.ownBlock ≠ some b := fun {x vx} hx e hv b hb => by
      rcases hblk with hblk | hblk
      · rw [hblk]; exact hgrow.2 x hx e vx hv b hb
      · intro e'
        have h1 := hblk b e'
        obtain ⟨v, hv', hr⟩ := h5 x hx
        have e2 := (hv (.held undef)).symm.trans (hv' (.held undef))
        have e2 := DataW.held.inj e2
        subst e2
        have := (hr.lt b hb).2
        omega
    by_cases ex : x.1 = g
    · have e1 := same ex hvx
      subst e1
      obtain ⟨hyP, hyv⟩ := old hy (fun e => hne (ex.trans e.symm)) hvy
      intro hb2
      exact apart hyP (fun e => hne (ex.trans e.symm)) hyv b hb2 hb
    · obtain ⟨hxP, hxv⟩ := old hx ex hvx
      by_cases ey : y.1 = g
      · have e1 := same ey hvy
        subst e1
        exact apart hxP ex hxv b hb
      · obtain ⟨hyP, hyv⟩ := old hy ey hvy
        exact h6 x hxP y hyP hne vx vy hxv hyv b hb
end Go.Proofs.Ytclhnnidbhchnaa
