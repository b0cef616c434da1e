/- 3 texts of this claim, in build order. -/
import Derived.Test.YtclhnnidbhchnaaPeccdcknl
/- The map of groups. -/
namespace Go.Proofs.Ytclhnnidbhchnaa
open Go.ChangeShapes Go.WideShapes Go.ChangeAt Go.RowKit Go.Maps
open Go.ChangeMaps Go.MapKept
set_option linter.unusedVariables false
set_option linter.unusedSimpArgs false

def gcells (P : List KC) (g : List Int) : List CellM := (P.filter fun x => decide (x.1 = g)).map Prod.snd
theorem gcells_nil (g : List Int) : gcells [] g = [] := rfl
theorem gcells_snoc (P : List KC) (x : KC) (g : List Int) : gcells (P ++ [x]) g = if x.1 = g then gcells P g ++ [x.2] else gcells P g := by
  unfold gcells
  rw [List.filter_append, List.map_append]
  by_cases h : x.1 = g
  · simp [h]
  · simp [h]
theorem gcells_len (P : List KC) (g : List Int) : (gcells P g).length ≤ P.length := by
  unfold gcells
  rw [List.length_map]
  exact List.length_filter_le _ _
theorem gcells_none {P : List KC} {g : List Int} (h : ∀ x ∈ P, x.1 ≠ g) : gcells P g = [] := by
  unfold gcells
  rw [List.filter_eq_nil_iff.2 (fun x hx => by simpa using h x hx)]; rfl
theorem gcells_ne {P : List KC} {x : KC} (h : x ∈ P) : gcells P x.1 ≠ [] := by
  unfold gcells
  intro e
  rw [List.map_eq_nil_iff, List.filter_eq_nil_iff] at e
  have := e x h
  simp at this
theorem gcells_mem {P : List KC} {g : List Int} {c : CellM} (h : c ∈ gcells P g) : ∃ x ∈ P, x.1 = g ∧ x.2 = c := by
  unfold gcells at h
  obtain ⟨x, hx, rfl⟩ := List.mem_map.1 h
  rw [List.mem_filter] at hx
  exact ⟨x, hx.1, by simpa using hx.2, rfl⟩
/-- The elements' lists lie in blocks of E. -/
def RowE4 (w : World) (E : Nat → Prop) (es : List E4) (cs : List CellM) : Prop :=
  es.length = cs.length ∧ ∀ k, k < cs.length → CellE w E (.agg #[.int .i64 (es.getD k z4).1, (es.getD k z4).2.1, (es.getD k z4).2.2.1, (es.getD k z4).2.2.2]) (cs.getD k nilC)
theorem RowE4.kept {w w' : World} {E : Nat → Prop} {es : List E4} {cs : List CellM} (h : RowE4 w E es cs) (k : Kept E w w') : RowE4 w' E es cs := ⟨h.1, fun i hi => (h.2 i hi).kept k⟩
theorem RowE4.snoc {w : World} {E : Nat → Prop} {es : List E4} {cs : List CellM} (h : RowE4 w E es cs) {x : E4} {c : CellM} (h2 : CellE w E (.agg #[.int .i64 x.1, x.2.1, x.2.2.1, x.2.2.2]) c) : RowE4 w E (es ++ [x]) (cs ++ [c]) := by
  obtain ⟨hl, hk⟩ := h
  refine ⟨by simp [hl], fun k hk' => ?_⟩
  rw [List.length_append, List.length_singleton] at hk'
  rcases Nat.lt_or_ge k cs.length with h' | h'
  · have e1 : (es ++ [x]).getD k z4 = es.getD k z4 := by simp only [List.getD_eq_getElem?_getD]; rw [List.getElem?_append_left (by omega)]
    have e2 : (cs ++ [c]).getD k nilC = cs.getD k nilC := by simp only [List.getD_eq_getElem?_getD]; rw [List.getElem?_append_left (by omega)]
    rw [e1, e2]; exact hk k h'
  · obtain rfl : k = cs.length := by omega
    have e1 : (es ++ [x]).getD cs.length z4 = x := by simp only [List.getD_eq_getElem?_getD]; rw [← hl, List.getElem?_append_right (by omega)]; simp
    have e2 : (cs ++ [c]).getD cs.length nilC = c := by simp only [List.getD_eq_getElem?_getD]; rw [List.getElem?_append_right (by omega)]; simp
    rw [e1, e2]; exact h2
/-- A group's row. -/
def GRow (w : World) (E : Nat → Prop) (H : Nat) (v : Value) (cs : List CellM) : Prop := ∃ es, w.ownsRow H 25 4 v cs.length (flat4 es) ∧ RowE4 w E es cs
theorem GRow.kept {w w' : World} {E : Nat → Prop} {H : Nat} {v : Value} {cs : List CellM} (h : GRow w E H v cs) (k : Kept E w w') (k2 : ∀ g, v.ownBlock = some g → w'.heap[g]? = w.heap[g]?) : GRow w' E H v cs := by
  obtain ⟨es, h1, h2⟩ := h
  exact ⟨es, own_kept h1 k2, h2.kept k⟩
theorem GRow.lt {w : World} {E : Nat → Prop} {H : Nat} {v : Value} {cs : List CellM} (h : GRow w E H v cs) : ∀ g, v.ownBlock = some g → H ≤ g ∧ g < w.heap.size := by
  obtain ⟨es, h1, h2⟩ := h
  exact fun g hg => h1.lt g hg
/-- The map of groups: for each key the cells of its group. -/
def MapG (w : World) (E : Nat → Prop) (H mg W : Nat) (P : List KC) : Prop :=
  ∃ D : DataW Value, w.ownsMap Try.prog 99 heldR mg (Maps.size D) D ∧ Maps.size D ≤ P.length ∧ (∀ x ∈ P, Maps.has D (keyLk x.1) = true) ∧ (∀ kl, Maps.has D kl = true → ∃ x ∈ P, kl = keyLk x.1) ∧
    (∀ x ∈ P, ∃ v, (∀ z, D.atKey (keyLk x.1) z = .held v) ∧ GRow w E H v (gcells P x.1)) ∧
    ∀ x ∈ P, ∀ y ∈ P, x.1 ≠ y.1 → ∀ vx vy, (∀ z, D.atKey (keyLk x.1) z = .held vx) → (∀ z, D.atKey (keyLk y.1) z = .held vy) → ∀ g, vx.ownBlock = some g → vy.ownBlock ≠ some g
theorem MapG.new (w : World) (E : Nat → Prop) (H W : Nat) : MapG (w.alloc (.map #[] 0)) E H w.heap.size W [] :=
  ⟨.map [], World.ownsMap_made _ _ _ _, Nat.le_refl _, (fun x hx => by cases hx), (fun kl h => by simp [Maps.has] at h), (fun x hx => by cases hx), (fun x hx => by cases hx)⟩
theorem MapG.lt {w : World} {E : Nat → Prop} {H mg W : Nat} {P : List KC} (h : MapG w E H mg W P) : mg < w.heap.size := by
  obtain ⟨D, h1, -⟩ := h
  exact h1.lt
theorem MapG.kept {w w' : World} {E : Nat → Prop} {H mg W : Nat} {P : List KC} (h : MapG w E H mg W P) (hE : ∀ i, E i → i < w.heap.size) (hb : Below w.heap.size w w') : MapG w' E H mg W P := by
  have hlt := h.lt
  obtain ⟨D, ⟨es, clock, hbk, r⟩, h2, h3, h4, h5, h6⟩ := h
  refine ⟨D, ⟨es, clock, (hb.block mg hlt).trans hbk, r⟩, h2, h3, h4, fun x hx => ?_, h6⟩
  obtain ⟨v, a, b⟩ := h5 x hx
  exact ⟨v, a, b.kept (fun i hi => hb.block i (hE i hi)) (fun g hg => hb.block g (b.lt g hg).2)⟩
set_option maxHeartbeats 800000 in
theorem MapG.entry {w : World} {E : Nat → Prop} {H mg W : Nat} {P : List KC} {g : List Int} (h : MapG w E H mg W P) (hok : ∀ x ∈ P, okK W x.1) (hg : okK W g) (hW : W ≤ 3) (hP : P.length ≤ 100000) (hH : mg < H) (hHw : H ≤ w.heap.size) (hE : ∀ i, E i → i < H ∧ i ≠ mg) :
    ∃ (v0 : Value) (st : Nat) (w1 : World), (Instr.mapEntry 95 (.map (some mg)) (keyT g)).run Try.prog w = .ok (.tuple #[v0, .int .i64 st]) w1 ∧ Upd mg w w1 ∧ w1.heap.size = w.heap.size ∧ GRow w E H v0 (gcells P g) ∧
      ∀ (w2 : World) (v' : Value) (c : CellM), w2.heap[mg]? = w1.heap[mg]? → w.heap.size ≤ w2.heap.size → (∀ k, k < w.heap.size → k ≠ mg → v0.ownBlock ≠ some k → w2.heap[k]? = w.heap[k]?) → GRow w2 E H v' (gcells P g ++ [c]) →
        (v'.ownBlock = v0.ownBlock ∨ ∀ b, v'.ownBlock = some b → w.heap.size ≤ b) →
        ∃ w3, (Instr.entryStore 95 (.map (some mg)) (.int .i64 st) v').run Try.prog w2 = .ok () w3 ∧ MapG w3 E H mg W (P ++ [(g, c)]) ∧ Upd mg w2 w3 ∧ w3.heap.size = w2.heap.size := by
  obtain ⟨D, h1, h2, h3, h4, h5, h6⟩ := h
  obtain ⟨v0, st, w1, hrun, hu, hz, hv0, hst⟩ := entry_own h1 (by unfold maxLen; omega) (key_of_k hg)
  have hin : ∀ {x : KC}, x ∈ P → x.1 ≠ g → keyLk x.1 ≠ keyLk g := fun {x} hx hne e => hne (keyLk_inj (hok x hx) hg hW e)
  have hgrow : GRow w E H v0 (gcells P g) ∧ ∀ x ∈ P, x.1 ≠ g → ∀ vx, (∀ z, D.atKey (keyLk x.1) z = .held vx) → ∀ b, vx.ownBlock = some b → v0.ownBlock ≠ some b := by
    rcases hv0 with ⟨hh, hat⟩ | ⟨hh, rfl⟩
    · obtain ⟨y, hy, hky⟩ := h4 _ hh
      have hyg : g = y.1 := keyLk_inj hg (hok y hy) hW hky
      subst hyg
      obtain ⟨v, hv, hr⟩ := h5 y hy
      have e := (hv (.held undef)).symm.trans (hat (.held undef))
      have e := DataW.held.inj e
      subst e
      exact ⟨hr, fun x hx hne vx hvx b hb => h6 x hx y hy hne vx v hvx hat b hb⟩
    · have hno : ∀ x ∈ P, x.1 ≠ g := fun x hx e => by
        have := h3 x hx
        rw [e, hh] at this; cases this
      rw [gcells_none hno]
      exact ⟨⟨[], World.ownsRow_nil _ _ _ _, rfl, fun k hk => by simp at hk⟩, fun x hx hne vx hvx b hb => by simp [Value.ownBlock]⟩
  refine ⟨v0, st, w1, hrun, hu, hz, hgrow.1, fun w2 v' c hm hsz hkeep hrow hblk => ?_⟩
  obtain ⟨w3, hrun3, ho3, hu3, hz3⟩ := hst w2 v' hm
  have hm2 : mg < w2.heap.size := Nat.lt_of_lt_of_le (Nat.lt_of_lt_of_le hH hHw) hsz
  have hk23 : ∀ k, k < w2.heap.size → k ≠ mg → w3.heap[k]? = w2.heap[k]? := fun k hk hne => hu3.block k hk (fun e => hne (by injection e))
  have hE3 : Kept E w w3 := fun i hi => by
    obtain ⟨a, b⟩ := hE i hi
    rw [hk23 i (by omega) b]
    exact hkeep i (by omega) b (fun e => by have := (hgrow.1.lt i e).1; omega)
  have hE23 : Kept E w2 w3 := fun i hi => by
    obtain ⟨a, b⟩ := hE i hi
    exact hk23 i (by omega) b
  refine ⟨w3, hrun3, ⟨D.put (keyLk g) (.held v'), own_tight ho3, ?_, fun x hx => ?_, fun kl hkl => ?_, fun x hx => ?_, fun x hx y hy hne vx vy hvx hvy b hb => ?_⟩, hu3, hz3⟩
  · rw [Maps.size_put (h1.tidy key_law)]
    rw [List.length_append, List.length_singleton]
    split
    · exact Nat.le_succ_of_le h2
    · exact Nat.succ_le_succ h2
  · by_cases e : x.1 = g
    · rw [e, Maps.has_put_same h1.isMap (keyLk_is hg)]
    · rcases List.mem_append.1 hx with hx | hx
      · rw [Maps.has_put_other (hin hx e)]; exact h3 x hx
      · simp at hx; subst hx; exact absurd rfl e
  · by_cases e : kl = keyLk g
    · exact ⟨(g, c), by simp, e⟩
    · rw [Maps.has_put_other e] at hkl
      obtain ⟨x, hx, he⟩ := h4 kl hkl
      exact ⟨x, List.mem_append_left _ hx, he⟩
  · rw [gcells_snoc]
    by_cases e : x.1 = g
    · rw [if_pos e.symm, e]
      exact ⟨v', fun z => Maps.atKey_put_same h1.isMap (keyLk_is hg) _ _, hrow.kept hE23 (fun b hb => hk23 b (hrow.lt b hb).2 (fun e => by have := (hrow.lt b hb).1; omega))⟩
    · rcases List.mem_append.1 hx with hx | hx
      · rw [if_neg (fun e' => e e'.symm)]
        obtain ⟨v, hv, hr⟩ := h5 x hx
        refine ⟨v, fun z => by rw [Maps.atKey_put_other (hin hx e)]; exact hv z, hr.kept hE3 (fun b hb => ?_)⟩
        have hbl := hr.lt b hb
        rw [hk23 b (by omega) (by omega)]
        exact hkeep b hbl.2 (by omega) (hgrow.2 x hx e v hv b hb)
      · simp at hx; subst hx; exact absurd rfl e
  · have same : ∀ {x : KC} {vx : Value}, x.1 = g → (∀ z, (D.put (keyLk g) (.held v')).atKey (keyLk x.1) z = .held vx) → vx = v' := fun {x vx} e hv => by
      have := hv (.held undef)
      rw [e, Maps.atKey_put_same h1.isMap (keyLk_is hg)] at this
      exact (DataW.held.inj this).symm
    have old : ∀ {x : KC} {vx : Value}, x ∈ P ++ [(g, c)] → x.1 ≠ g → (∀ z, (D.put (keyLk g) (.held v')).atKey (keyLk x.1) z = .held vx) → x ∈ P ∧ ∀ z, D.atKey (keyLk x.1) z = .held vx := fun {x vx} hx e hv => by
      rcases List.mem_append.1 hx with hx | hx
      · exact ⟨hx, fun z => by have := hv z; rw [Maps.atKey_put_other (hin hx e)] at this; exact this⟩
      · simp at hx; subst hx; exact absurd rfl e
    have apart : ∀ {x : KC} {vx : Value}, x ∈ P → x.1 ≠ g → (∀ z, D.atKey (keyLk x.1) z = .held vx) → ∀ b, vx.ownBlock = some b → v'.ownBlock ≠ some b := fun {x vx} hx e hv b hb => by
      rcases hblk with hblk | hblk
      · rw [hblk]; exact hgrow.2 x hx e vx hv b hb
      · intro e'
        have h1 := hblk b e'
        obtain ⟨v, hv', hr⟩ := h5 x hx
        have e2 := (hv (.held undef)).symm.trans (hv' (.held undef))
        have e2 := DataW.held.inj e2
        subst e2
        have := (hr.lt b hb).2
        omega
    by_cases ex : x.1 = g
    · have e1 := same ex hvx
      subst e1
      obtain ⟨hyP, hyv⟩ := old hy (fun e => hne (ex.trans e.symm)) hvy
      intro hb2
      exact apart hyP (fun e => hne (ex.trans e.symm)) hyv b hb2 hb
    · obtain ⟨hxP, hxv⟩ := old hx ex hvx
      by_cases ey : y.1 = g
      · have e1 := same ey hvy
        subst e1
        exact apart hxP ex hxv b hb
      · obtain ⟨hyP, hyv⟩ := old hy ey hvy
        exact h6 x hxP y hyP hne vx vy hxv hyv b hb
end Go.Proofs.Ytclhnnidbhchnaa
/- A cuboid rolled up, plainly. -/
namespace Go.Proofs.Ytclhnnidbhchnaa
set_option linter.unusedVariables false
set_option linter.unusedSimpArgs false

theorem fullL_all {l : List CellM} (h : ∀ c ∈ l, c.n ≠ 0) : fullL l = l := by
  unfold fullL
  rw [List.filter_eq_self]
  intro c hc
  simpa using h c hc
/-- The sum of full cells is a full cell. -/
theorem sum_okC {l : List CellM} {M : Nat} (hne : l ≠ []) (hm : ∀ c ∈ l, MayP c) (hf : ∀ c ∈ l, c.n ≠ 0) (hl : ∀ c ∈ l, c.s.length = M) (h : (sumC l).2 = 0) :
    MayP (sumC l).1 ∧ (sumC l).1.n ≠ 0 ∧ (sumC l).1.s.length = M := by
  have hfull := fullL_all hf
  have hhd : (l.headD nilC).s.length = M := by
    cases l with
    | nil => exact absurd rfl hne
    | cons c l => exact hl c List.mem_cons_self
  have hall : l.all (argB M) = true := by
    rw [List.all_eq_true]
    intro c hc
    unfold argB
    rw [mayC_iff.2 (hm c hc), hl c hc]
    simp
  unfold sumC at h ⊢
  rw [hhd, if_neg hne, if_neg (by rw [hall]; decide), hfull, if_neg hne] at h ⊢
  by_cases h1 : CNT < cntL l
  · rw [if_pos h1] at h; cases h
  · rw [if_neg h1] at h ⊢
    by_cases h2 : ((List.range M).all fun i => inB (sCol l i).sum SUM) = false
    · rw [if_pos h2] at h; cases h
    · rw [if_neg h2]
      have h2' : ((List.range M).all fun i => inB (sCol l i).sum SUM) = true := by
        cases hb : ((List.range M).all fun i => inB (sCol l i).sum SUM)
        · exact absurd hb h2
        · rfl
      rw [List.all_eq_true] at h2'
      have hp := full_p ⟨hm, hl⟩
      rw [hfull] at hp
      have hpos := cntL_pos (fun c hc => (hp c hc).1.1)
      have hlen : 0 < l.length := List.length_pos_iff.2 hne
      have hM : M ≤ 2 := by
        obtain ⟨c, hc⟩ := List.exists_mem_of_ne_nil l hne
        rw [← hl c hc]; exact (hm c hc).1.1
      refine ⟨⟨⟨by simp [sumsOf, hM], by simp [sumsOf], by simp [sumsOf]⟩, .inr ⟨⟨by show 1 ≤ cntL l; omega, by show cntL l ≤ CNT; omega⟩, fun i hi => ?_⟩⟩, by show cntL l ≠ 0; omega, by simp [sumsOf]⟩
      have hi : i < M := by simpa [sumsOf] using hi
      have h2i := inB_iff.1 (h2' i (List.mem_range.2 hi))
      have ne1 : loCol l i ≠ [] := by unfold loCol; simpa using hne
      have ne2 : hiCol l i ≠ [] := by unfold hiCol; simpa using hne
      obtain ⟨a1, a2⟩ := minL_spec ne1
      obtain ⟨b1, b2⟩ := maxL_spec ne2
      obtain ⟨c1, hc1, e1⟩ := List.mem_map.1 a1
      obtain ⟨c2, hc2, e2⟩ := List.mem_map.1 b1
      have k1 := (hp c1 hc1).2.2.2.2 i hi
      have k2 := (hp c2 hc2).2.2.2.2 i hi
      unfold CellM.col colP at k1 k2 ⊢
      have e3 : (sumsOf M l).s.getD i 0 = (sCol l i).sum := getD_map_range hi
      have e4 : (sumsOf M l).lo.getD i 0 = minL (loCol l i) := getD_map_range hi
      have e5 : (sumsOf M l).hi.getD i 0 = maxL (hiCol l i) := getD_map_range hi
      have e6 : (sumsOf M l).n = cntL l := rfl
      rw [e3, e4, e5, e6, ← e1, ← e2]
      have k3 := a2 (c2.lo.getD i 0) (List.mem_map.2 ⟨c2, hc2, rfl⟩)
      rw [← e1] at k3
      refine ⟨by omega, by omega, by omega, h2i, fun hone => ?_⟩
      have hl1 : l.length = 1 := by omega
      obtain ⟨c, rfl⟩ := List.length_eq_one_iff.1 hl1
      have hc1 := List.mem_singleton.1 hc1
      have hc2 := List.mem_singleton.1 hc2
      subst hc1; subst hc2
      have hn : c2.n = 1 := by simpa [cntL] using hone
      have := k1.2.2.2.2 hn
      simp only [sCol, List.map_cons, List.map_nil, List.sum_cons, List.sum_nil, Int.add_zero]
      exact this
def rollP (ups : List (List Int)) (L : List KC) : List KC := L.map fun x => (upL ups x.1, x.2)
def rollF (P Q : List KC) : List KC := Q.foldl (fun acc x => setK x.1 (sumC (gcells P x.1)).1 acc) []
theorem rollF_snoc (P Q : List KC) (x : KC) : rollF P (Q ++ [x]) = setK x.1 (sumC (gcells P x.1)).1 (rollF P Q) := by unfold rollF; rw [List.foldl_append]; rfl
def rollL (P : List KC) : List KC := rollF P P
def rollE (W : Nat) (ups : List (List Int)) (L : List KC) : Int :=
  if ups.length ≠ W then 1 else if L.all (fun x => upAll ups x.1) = false then 1 else if (rollP ups L).all (fun x => decide ((sumC (gcells (rollP ups L) x.1)).2 = 0)) = false then 14 else 0
theorem rollF_sort (P Q : List KC) : SortK (rollF P Q) := by
  unfold rollF
  suffices h : ∀ (Q acc : List KC), SortK acc → SortK (Q.foldl (fun acc x => setK x.1 (sumC (gcells P x.1)).1 acc) acc) from h Q [] List.Pairwise.nil
  intro Q
  induction Q with
  | nil => exact fun acc h => h
  | cons x Q ih => exact fun acc h => ih _ (sortK_set h _ _)
theorem rollF_get (P : List KC) (g : List Int) (Q : List KC) : getK (rollF P Q) g = if Q.any (fun x => decide (x.1 = g)) = true then some (sumC (gcells P g)).1 else none := by
  unfold rollF
  suffices h : ∀ (Q acc : List KC), SortK acc → getK (Q.foldl (fun acc x => setK x.1 (sumC (gcells P x.1)).1 acc) acc) g = if Q.any (fun x => decide (x.1 = g)) = true then some (sumC (gcells P g)).1 else getK acc g from h Q [] List.Pairwise.nil
  intro Q
  induction Q with
  | nil => exact fun acc h => rfl
  | cons x Q ih =>
    intro acc h
    rw [List.foldl_cons, ih _ (sortK_set h _ _), getK_set h, List.any_cons]
    by_cases hq : Q.any (fun x => decide (x.1 = g)) = true
    · rw [if_pos hq, hq, Bool.or_true, if_pos rfl]
    · rw [if_neg hq]
      have hq' : Q.any (fun x => decide (x.1 = g)) = false := Bool.eq_false_iff.2 hq
      rw [hq', Bool.or_false]
      by_cases e : x.1 = g
      · rw [if_pos e, decide_eq_true e, if_pos rfl, e]
      · rw [if_neg e, decide_eq_false e, if_neg (by decide)]
theorem rollF_ok {W M : Nat} {P Q : List KC} (hQ : ∀ x ∈ Q, x ∈ P) (h1 : ∀ x ∈ P, okK W x.1) (h2 : ∀ x ∈ P, MayP x.2) (h3 : ∀ x ∈ P, x.2.n ≠ 0) (h4 : ∀ x ∈ P, x.2.s.length = M) (h5 : ∀ x ∈ Q, (sumC (gcells P x.1)).2 = 0) : OkL W M (rollF P Q) := by
  unfold rollF
  suffices h : ∀ (Q acc : List KC), (∀ x ∈ Q, x ∈ P) → (∀ x ∈ Q, (sumC (gcells P x.1)).2 = 0) → OkL W M acc → OkL W M (Q.foldl (fun acc x => setK x.1 (sumC (gcells P x.1)).1 acc) acc) from h Q [] hQ h5 (OkL.nil_ W M)
  intro Q
  induction Q with
  | nil => exact fun acc _ _ h => h
  | cons x Q ih =>
    intro acc hQ h5 h
    have hx := hQ x List.mem_cons_self
    have hg : ∀ {q : CellM → Prop}, (∀ y ∈ P, q y.2) → ∀ c ∈ gcells P x.1, q c := fun hq c hc => by
      obtain ⟨y, hy, -, rfl⟩ := gcells_mem hc
      exact hq y hy
    obtain ⟨a, b, c⟩ := sum_okC (M := M) (gcells_ne hx) (hg (q := fun c => MayP c) h2) (hg (q := fun c => c.n ≠ 0) h3) (hg (q := fun c => c.s.length = M) h4) (h5 x List.mem_cons_self)
    exact ih _ (fun y hy => hQ y (List.mem_cons_of_mem _ hy)) (fun y hy => h5 y (List.mem_cons_of_mem _ hy)) (h.set (h1 x hx) a b c)
theorem rollP_all {ups : List (List Int)} {L : List KC} {q : CellM → Prop} (h : ∀ x ∈ L, q x.2) : ∀ x ∈ rollP ups L, q x.2 := fun x hx => by
  obtain ⟨y, hy, rfl⟩ := List.mem_map.1 hx
  exact h y hy
theorem rollP_key {W : Nat} {ups : List (List Int)} {L : List KC} (hW : ups.length = W) (h : ∀ x ∈ L, upAll ups x.1 = true) : ∀ x ∈ rollP ups L, okK W x.1 := fun x hx => by
  obtain ⟨y, hy, rfl⟩ := List.mem_map.1 hx
  exact upL_ok (h y hy) hW
theorem rollF_len (P Q : List KC) : (rollF P Q).length ≤ Q.length := by
  suffices h : ∀ (Q acc : List KC), SortK acc → (Q.foldl (fun acc x => setK x.1 (sumC (gcells P x.1)).1 acc) acc).length ≤ acc.length + Q.length by
    have := h Q [] List.Pairwise.nil
    simpa [rollF] using this
  intro Q
  induction Q with
  | nil => exact fun acc h => by simp
  | cons x Q ih =>
    intro acc h
    have h1 := ih _ (sortK_set h x.1 (sumC (gcells P x.1)).1)
    have h2 := setK_len (k := x.1) (c := (sumC (gcells P x.1)).1) h
    rw [List.foldl_cons, List.length_cons]
    split at h2 <;> omega
end Go.Proofs.Ytclhnnidbhchnaa
/- A cell is put to its group. -/
namespace Go.Proofs.Ytclhnnidbhchnaa
open Go.ChangeShapes Go.WideShapes Go.ChangeAt Go.RowKit Go.Maps
open Go.ChangeMaps Go.MapKept
set_option linter.unusedVariables false
set_option linter.unusedSimpArgs false

theorem flat4_snoc (es : List E4) (x : E4) : flat4 (es ++ [x]) = flat4 es ++ e4 x := by simp [flat4]
theorem MapG.link {w : World} {E : Nat → Prop} {H mg W : Nat} {P : List KC} {g : List Int} (h : MapG w E H mg W P) (hok : ∀ x ∈ P, okK W x.1) (hg : okK W g) (hW : W ≤ 3) (hP : P.length ≤ 100000) (hH : mg < H) (hHw : H ≤ w.heap.size) (hE : ∀ i, E i → i < H ∧ i ≠ mg) :
    ∃ (v0 : Value) (st : Nat) (w1 : World) (es : List E4), (Instr.mapEntry 95 (.map (some mg)) (keyT g)).run Try.prog w = .ok (.tuple #[v0, .int .i64 st]) w1 ∧ Upd mg w w1 ∧ w1.heap.size = w.heap.size ∧
      ∀ X, Upd mg w X → X.heap[mg]? = w1.heap[mg]? → X.ownsRow H 25 4 v0 (gcells P g).length (flat4 es) ∧
        ∀ (x : E4) (c : CellM) (g' cap : Nat) (w' : World), CellE w E (.agg #[.int .i64 x.1, x.2.1, x.2.2.1, x.2.2.2]) c → w'.ownsRow H 25 4 (.slice (some ⟨g', 0, none⟩) ((gcells P g).length + 1) cap) ((gcells P g).length + 1) (flat4 es ++ e4 x) →
          X.grownBy w' v0.ownBlock → (v0.ownBlock = some g' ∨ g' = X.heap.size) →
          ∃ w3, (Instr.entryStore 95 (.map (some mg)) (.int .i64 st) (.slice (some ⟨g', 0, none⟩) ((gcells P g).length + 1) cap)).run Try.prog w' = .ok () w3 ∧ MapG w3 E H mg W (P ++ [(g, c)]) ∧ w3.heap.size = w'.heap.size ∧
            ∀ wo, Upd mg wo w → wo.heap.size = H → Upd mg wo w3 := by
  obtain ⟨v0, st, w1, hrun, hu, hz, ⟨es, hrow, hre⟩, hst⟩ := h.entry hok hg hW hP hH hHw hE
  refine ⟨v0, st, w1, es, hrun, hu, hz, fun X hX hXm => ⟨own_kept hrow (fun b hb => hX.block b (hrow.lt b hb).2 (fun e => by injection e with e; have := (hrow.lt b hb).1; omega)), fun x c g' cap w' hce hown hgr hblk => ?_⟩⟩
  have hmX : mg < X.heap.size := Nat.lt_of_lt_of_le (Nat.lt_of_lt_of_le hH hHw) hX.size
  have hXs := hX.size
  have hgs := hgr.size
  have hEk : Kept E w w' := fun i hi => by
    obtain ⟨a, b⟩ := hE i hi
    rw [hgr.block i (by omega) (fun e => by have := (hrow.lt i e.symm).1; omega)]
    exact hX.block i (by omega) (fun e => b (by injection e))
  have hm' : w'.heap[mg]? = w1.heap[mg]? := by
    rw [hgr.block mg hmX (fun e => by have := (hrow.lt mg e.symm).1; omega)]
    exact hXm
  obtain ⟨w3, hrun3, hG, hu3, hz3⟩ := hst w' (.slice (some ⟨g', 0, none⟩) ((gcells P g).length + 1) cap) c hm' (by omega)
    (fun k hk hne hb => by
      rw [hgr.block k (by omega) (fun e => hb e.symm)]
      exact hX.block k hk (fun e => hne (by injection e)))
    ⟨es ++ [x], by rw [List.length_append, List.length_singleton, flat4_snoc]; exact hown, (hre.kept hEk).snoc (hce.kept hEk)⟩
    (hblk.imp (fun e => by rw [e]; rfl) (fun e b hb => by
      have hb' : g' = b := by simpa [Value.ownBlock] using hb
      omega))
  refine ⟨w3, hrun3, hG, hz3, fun wo hwo hwz => ?_⟩
  have h1 := hwo.trans hX
  refine ⟨(hu3.os.trans hgr.os).trans h1.os, (hu3.tape.trans hgr.tape).trans h1.tape, (hu3.output.trans hgr.output).trans h1.output, Nat.le_trans h1.size (by omega), fun k hk hne => ?_⟩
  have hkX : k < X.heap.size := Nat.lt_of_lt_of_le hk h1.size
  rw [hu3.block k (by omega) hne, hgr.block k hkX (fun e => by have := (hrow.lt k e.symm).1; omega)]
  exact h1.block k hk hne
/-- `m[k]`, in all worlds with this map. -/
theorem MapK.look2 {w : World} {E : Nat → Prop} {m W : Nat} {L : List KC} (h : MapK w E m W L) {k : List Int} (hk : okK W k) :
    ∃ v, CellE w E v (getC L k) ∧ ∀ w', w'.heap[m]? = w.heap[m]? → (Instr.lookup 92 (.map (some m)) (keyT k) false).run Try.prog w' = .ok v w' := by
  obtain ⟨D, h1, h2, h3, h4, h5⟩ := h
  have q : ∀ w', w'.heap[m]? = w.heap[m]? → ∃ v, (Instr.lookup 92 (.map (some m)) (keyT k) false).run Try.prog w' = .ok v w' ∧ DataW.held v = D.atKey (keyLk k) (.held (.agg #[.int .i64 0, .slice none 0 0, .slice none 0 0, .slice none 0 0])) := fun w' e => by
    have h1' : w'.ownsMap Try.prog 99 heldR m L.length D := by
      obtain ⟨es, clock, hb, r⟩ := h1
      exact ⟨es, clock, e.trans hb, r⟩
    obtain ⟨v, ps, hrun, hR⟩ := h1'.lookup key_law Try.underlying92 (zero_cellM w') (show heldR _ = some (.held _, []) from rfl) (key_of_k hk)
    refine ⟨v, hrun, ?_⟩
    unfold heldR at hR
    simpa using congrArg Prod.fst (Option.some.inj hR)
  obtain ⟨v, hrun, hv⟩ := q w rfl
  refine ⟨v, ?_, fun w' e => ?_⟩
  · cases hg : getK L k with
    | none =>
      rw [Maps.atKey_of_not_has (by rw [h3 k hk, hg]; rfl)] at hv
      have hv := DataW.held.inj hv
      subst hv
      unfold getC; rw [hg]; exact CellE.nil_
    | some c =>
      obtain ⟨u, hu, hce⟩ := h4 _ (getK_mem hg)
      rw [hu] at hv
      have hv := DataW.held.inj hv
      subst hv
      unfold getC; rw [hg]; exact hce
  · obtain ⟨v', hrun', hv'⟩ := q w' e
    have := DataW.held.inj (hv'.trans hv.symm)
    subst this
    exact hrun'
end Go.Proofs.Ytclhnnidbhchnaa
