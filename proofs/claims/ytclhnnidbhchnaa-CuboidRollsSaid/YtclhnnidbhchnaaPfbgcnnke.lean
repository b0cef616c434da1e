/- 3 texts of this claim, in build order. -/
import Derived.Test.YtclhnnidbhchnaaPojkealok
import Derived.Test.YtclhnnidbhchnaaPgmjbppnd
import Derived.Test.YtclhnnidbhchnaaPhffoljof
import Derived.Test.YtclhnnidbhchnaaPnapdmgma
import Derived.Sort.Grow
import Derived.Sort.Statements
import Derived.Shelf.SlSortCmp.Insertion
/- A cuboid rolled up, plainly. -/
namespace Go.Proofs.Ytclhnnidbhchnaa
set_option linter.unusedVariables false
set_option linter.unusedSimpArgs false

theorem fullL_all {l : List CellM} (h : ∀ c ∈ l, c.n ≠ 0) : fullL l = l := by
  unfold fullL
  rw [List.filter_eq_self]
  intro c hc
  simpa using h c hc
/-- The sum of full cells is a full cell. -/
theorem sum_okC {l : List CellM} {M : Nat} (hne : l ≠ []) (hm : ∀ c ∈ l, MayP c) (hf : ∀ c ∈ l, c.n ≠ 0) (hl : ∀ c ∈ l, c.s.length = M) (h : (sumC l).2 = 0) :
    MayP (sumC l).1 ∧ (sumC l).1.n ≠ 0 ∧ (sumC l).1.s.length = M := by
  have hfull := fullL_all hf
  have hhd : (l.headD nilC).s.length = M := by
    cases l with
    | nil => exact absurd rfl hne
    | cons c l => exact hl c List.mem_cons_self
  have hall : l.all (argB M) = true := by
    rw [List.all_eq_true]
    intro c hc
    unfold argB
    rw [mayC_iff.2 (hm c hc), hl c hc]
    simp
  unfold sumC at h ⊢
  rw [hhd, if_neg hne, if_neg (by rw [hall]; decide), hfull, if_neg hne] at h ⊢
  by_cases h1 : CNT < cntL l
  · rw [if_pos h1] at h; cases h
  · rw [if_neg h1] at h ⊢
    by_cases h2 : ((List.range M).all fun i => inB (sCol l i).sum SUM) = false
    · rw [if_pos h2] at h; cases h
    · rw [if_neg h2]
      have h2' : ((List.range M).all fun i => inB (sCol l i).sum SUM) = true := by
        cases hb : ((List.range M).all fun i => inB (sCol l i).sum SUM)
        · exact absurd hb h2
        · rfl
      rw [List.all_eq_true] at h2'
      have hp := full_p ⟨hm, hl⟩
      rw [hfull] at hp
      have hpos := cntL_pos (fun c hc => (hp c hc).1.1)
      have hlen : 0 < l.length := List.length_pos_iff.2 hne
      have hM : M ≤ 2 := by
        obtain ⟨c, hc⟩ := List.exists_mem_of_ne_nil l hne
        rw [← hl c hc]; exact (hm c hc).1.1
      refine ⟨⟨⟨by simp [sumsOf, hM], by simp [sumsOf], by simp [sumsOf]⟩, .inr ⟨⟨by show 1 ≤ cntL l; omega, by show cntL l ≤ CNT; omega⟩, fun i hi => ?_⟩⟩, by show cntL l ≠ 0; omega, by simp [sumsOf]⟩
      have hi : i < M := by simpa [sumsOf] using hi
      have h2i := inB_iff.1 (h2' i (List.mem_range.2 hi))
      have ne1 : loCol l i ≠ [] := by unfold loCol; simpa using hne
      have ne2 : hiCol l i ≠ [] := by unfold hiCol; simpa using hne
      obtain ⟨a1, a2⟩ := minL_spec ne1
      obtain ⟨b1, b2⟩ := maxL_spec ne2
      obtain ⟨c1, hc1, e1⟩ := List.mem_map.1 a1
      obtain ⟨c2, hc2, e2⟩ := List.mem_map.1 b1
      have k1 := (hp c1 hc1).2.2.2.2 i hi
      have k2 := (hp c2 hc2).2.2.2.2 i hi
      unfold CellM.col colP at k1 k2 ⊢
      have e3 : (sumsOf M l).s.getD i 0 = (sCol l i).sum := getD_map_range hi
      have e4 : (sumsOf M l).lo.getD i 0 = minL (loCol l i) := getD_map_range hi
      have e5 : (sumsOf M l).hi.getD i 0 = maxL (hiCol l i) := getD_map_range hi
      have e6 : (sumsOf M l).n = cntL l := rfl
      rw [e3, e4, e5, e6, ← e1, ← e2]
      have k3 := a2 (c2.lo.getD i 0) (List.mem_map.2 ⟨c2, hc2, rfl⟩)
      rw [← e1] at k3
      refine ⟨by omega, by omega, by omega, h2i, fun hone => ?_⟩
      have hl1 : l.length = 1 := by omega
      obtain ⟨c, rfl⟩ := List.length_eq_one_iff.1 hl1
      have hc1 := List.mem_singleton.1 hc1
      have hc2 := List.mem_singleton.1 hc2
      subst hc1; subst hc2
      have hn : c2.n = 1 := by simpa [cntL] using hone
      have := k1.2.2.2.2 hn
      simp only [sCol, List.map_cons, List.map_nil, List.sum_cons, List.sum_nil, Int.add_zero]
      exact this
def rollP (ups : List (List Int)) (L : List KC) : List KC := L.map fun x => (upL ups x.1, x.2)
def rollF (P Q : List KC) : List KC := Q.foldl (fun acc x => setK x.1 (sumC (gcells P x.1)).1 acc) []
theorem rollF_snoc (P Q : List KC) (x : KC) : rollF P (Q ++ [x]) = setK x.1 (sumC (gcells P x.1)).1 (rollF P Q) := by unfold rollF; rw [List.foldl_append]; rfl
def rollL (P : List KC) : List KC := rollF P P
def rollE (W : Nat) (ups : List (List Int)) (L : List KC) : Int :=
  if ups.length ≠ W then 1 else if L.all (fun x => upAll ups x.1) = false then 1 else if (rollP ups L).all (fun x => decide ((sumC (gcells (rollP ups L) x.1)).2 = 0)) = false then 14 else 0
theorem rollF_sort (P Q : List KC) : SortK (rollF P Q) := by
  unfold rollF
  suffices h : ∀ (Q acc : List KC), SortK acc → SortK (Q.foldl (fun acc x => setK x.1 (sumC (gcells P x.1)).1 acc) acc) from h Q [] List.Pairwise.nil
  intro Q
  induction Q with
  | nil => exact fun acc h => h
  | cons x Q ih => exact fun acc h => ih _ (sortK_set h _ _)
theorem rollF_get (P : List KC) (g : List Int) (Q : List KC) : getK (rollF P Q) g = if Q.any (fun x => decide (x.1 = g)) = true then some (sumC (gcells P g)).1 else none := by
  unfold rollF
  suffices h : ∀ (Q acc : List KC), SortK acc → getK (Q.foldl (fun acc x => setK x.1 (sumC (gcells P x.1)).1 acc) acc) g = if Q.any (fun x => decide (x.1 = g)) = true then some (sumC (gcells P g)).1 else getK acc g from h Q [] List.Pairwise.nil
  intro Q
  induction Q with
  | nil => exact fun acc h => rfl
  | cons x Q ih =>
    intro acc h
    rw [List.foldl_cons, ih _ (sortK_set h _ _), getK_set h, List.any_cons]
    by_cases hq : Q.any (fun x => decide (x.1 = g)) = true
    · rw [if_pos hq, hq, Bool.or_true, if_pos rfl]
    · rw [if_neg hq]
      have hq' : Q.any (fun x => decide (x.1 = g)) = false := Bool.eq_false_iff.2 hq
      rw [hq', Bool.or_false]
      by_cases e : x.1 = g
      · rw [if_pos e, decide_eq_true e, if_pos rfl, e]
      · rw [if_neg e, decide_eq_false e, if_neg (by decide)]
theorem rollF_ok {W M : Nat} {P Q : List KC} (hQ : ∀ x ∈ Q, x ∈ P) (h1 : ∀ x ∈ P, okK W x.1) (h2 : ∀ x ∈ P, MayP x.2) (h3 : ∀ x ∈ P, x.2.n ≠ 0) (h4 : ∀ x ∈ P, x.2.s.length = M) (h5 : ∀ x ∈ Q, (sumC (gcells P x.1)).2 = 0) : OkL W M (rollF P Q) := by
  unfold rollF
  suffices h : ∀ (Q acc : List KC), (∀ x ∈ Q, x ∈ P) → (∀ x ∈ Q, (sumC (gcells P x.1)).2 = 0) → OkL W M acc → OkL W M (Q.foldl (fun acc x => setK x.1 (sumC (gcells P x.1)).1 acc) acc) from h Q [] hQ h5 (OkL.nil_ W M)
  intro Q
  induction Q with
  | nil => exact fun acc _ _ h => h
  | cons x Q ih =>
    intro acc hQ h5 h
    have hx := hQ x List.mem_cons_self
    have hg : ∀ {q : CellM → Prop}, (∀ y ∈ P, q y.2) → ∀ c ∈ gcells P x.1, q c := fun hq c hc => by
      obtain ⟨y, hy, -, rfl⟩ := gcells_mem hc
      exact hq y hy
    obtain ⟨a, b, c⟩ := sum_okC (M := M) (gcells_ne hx) (hg (q := fun c => MayP c) h2) (hg (q := fun c => c.n ≠ 0) h3) (hg (q := fun c => c.s.length = M) h4) (h5 x List.mem_cons_self)
    exact ih _ (fun y hy => hQ y (List.mem_cons_of_mem _ hy)) (fun y hy => h5 y (List.mem_cons_of_mem _ hy)) (h.set (h1 x hx) a b c)
theorem rollP_all {ups : List (List Int)} {L : List KC} {q : CellM → Prop} (h : ∀ x ∈ L, q x.2) : ∀ x ∈ rollP ups L, q x.2 := fun x hx => by
  obtain ⟨y, hy, rfl⟩ := List.mem_map.1 hx
  exact h y hy
theorem rollP_key {W : Nat} {ups : List (List Int)} {L : List KC} (hW : ups.length = W) (h : ∀ x ∈ L, upAll ups x.1 = true) : ∀ x ∈ rollP ups L, okK W x.1 := fun x hx => by
  obtain ⟨y, hy, rfl⟩ := List.mem_map.1 hx
  exact upL_ok (h y hy) hW
theorem rollF_len (P Q : List KC) : (rollF P Q).length ≤ Q.length := by
  suffices h : ∀ (Q acc : List KC), SortK acc → (Q.foldl (fun acc x => setK x.1 (sumC (gcells P x.1)).1 acc) acc).length ≤ acc.length + Q.length by
    have := h Q [] List.Pairwise.nil
    simpa [rollF] using this
  intro Q
  induction Q with
  | nil => exact fun acc h => by simp
  | cons x Q ih =>
    intro acc h
    have h1 := ih _ (sortK_set h x.1 (sumC (gcells P x.1)).1)
    have h2 := setK_len (k := x.1) (c := (sumC (gcells P x.1)).1) h
    rw [List.foldl_cons, List.length_cons]
    split at h2 <;> omega
end Go.Proofs.Ytclhnnidbhchnaa
/- A cell is put to its group. -/
namespace Go.Proofs.Ytclhnnidbhchnaa
open Go.ChangeShapes Go.WideShapes Go.ChangeAt Go.RowKit Go.Maps
open Go.ChangeMaps Go.MapKept
set_option linter.unusedVariables false
set_option linter.unusedSimpArgs false

theorem flat4_snoc (es : List E4) (x : E4) : flat4 (es ++ [x]) = flat4 es ++ e4 x := by simp [flat4]
theorem MapG.link {w : World} {E : Nat → Prop} {H mg W : Nat} {P : List KC} {g : List Int} (h : MapG w E H mg W P) (hok : ∀ x ∈ P, okK W x.1) (hg : okK W g) (hW : W ≤ 3) (hP : P.length ≤ 100000) (hH : mg < H) (hHw : H ≤ w.heap.size) (hE : ∀ i, E i → i < H ∧ i ≠ mg) :
    ∃ (v0 : Value) (st : Nat) (w1 : World) (es : List E4), (Instr.mapEntry 95 (.map (some mg)) (keyT g)).run Try.prog w = .ok (.tuple #[v0, .int .i64 st]) w1 ∧ Upd mg w w1 ∧ w1.heap.size = w.heap.size ∧
      ∀ X, Upd mg w X → X.heap[mg]? = w1.heap[mg]? → X.ownsRow H 25 4 v0 (gcells P g).length (flat4 es) ∧
        ∀ (x : E4) (c : CellM) (g' cap : Nat) (w' : World), CellE w E (.agg #[.int .i64 x.1, x.2.1, x.2.2.1, x.2.2.2]) c → w'.ownsRow H 25 4 (.slice (some ⟨g', 0, none⟩) ((gcells P g).length + 1) cap) ((gcells P g).length + 1) (flat4 es ++ e4 x) →
          X.grownBy w' v0.ownBlock → (v0.ownBlock = some g' ∨ g' = X.heap.size) →
          ∃ w3, (Instr.entryStore 95 (.map (some mg)) (.int .i64 st) (.slice (some ⟨g', 0, none⟩) ((gcells P g).length + 1) cap)).run Try.prog w' = .ok () w3 ∧ MapG w3 E H mg W (P ++ [(g, c)]) ∧ w3.heap.size = w'.heap.size ∧
            ∀ wo, Upd mg wo w → wo.heap.size = H → Upd mg wo w3 := by
  obtain ⟨v0, st, w1, hrun, hu, hz, ⟨es, hrow, hre⟩, hst⟩ := h.entry hok hg hW hP hH hHw hE
  refine ⟨v0, st, w1, es, hrun, hu, hz, fun X hX hXm => ⟨own_kept hrow (fun b hb => hX.block b (hrow.lt b hb).2 (fun e => by injection e with e; have := (hrow.lt b hb).1; omega)), fun x c g' cap w' hce hown hgr hblk => ?_⟩⟩
  have hmX : mg < X.heap.size := Nat.lt_of_lt_of_le (Nat.lt_of_lt_of_le hH hHw) hX.size
  have hXs := hX.size
  have hgs := hgr.size
  have hEk : Kept E w w' := fun i hi => by
    obtain ⟨a, b⟩ := hE i hi
    rw [hgr.block i (by omega) (fun e => by have := (hrow.lt i e.symm).1; omega)]
    exact hX.block i (by omega) (fun e => b (by injection e))
  have hm' : w'.heap[mg]? = w1.heap[mg]? := by
    rw [hgr.block mg hmX (fun e => by have := (hrow.lt mg e.symm).1; omega)]
    exact hXm
  obtain ⟨w3, hrun3, hG, hu3, hz3⟩ := hst w' (.slice (some ⟨g', 0, none⟩) ((gcells P g).length + 1) cap) c hm' (by omega)
    (fun k hk hne hb => by
      rw [hgr.block k (by omega) (fun e => hb e.symm)]
      exact hX.block k hk (fun e => hne (by injection e)))
    ⟨es ++ [x], by rw [List.length_append, List.length_singleton, flat4_snoc]; exact hown, (hre.kept hEk).snoc (hce.kept hEk)⟩
    (hblk.imp (fun e => by rw [e]; rfl) (fun e b hb => by
      have hb' : g' = b := by simpa [Value.ownBlock] using hb
      omega))
  refine ⟨w3, hrun3, hG, hz3, fun wo hwo hwz => ?_⟩
  have h1 := hwo.trans hX
  refine ⟨(hu3.os.trans hgr.os).trans h1.os, (hu3.tape.trans hgr.tape).trans h1.tape, (hu3.output.trans hgr.output).trans h1.output, Nat.le_trans h1.size (by omega), fun k hk hne => ?_⟩
  have hkX : k < X.heap.size := Nat.lt_of_lt_of_le hk h1.size
  rw [hu3.block k (by omega) hne, hgr.block k hkX (fun e => by have := (hrow.lt k e.symm).1; omega)]
  exact h1.block k hk hne
/-- `m[k]`, in all worlds with this map. -/
theorem MapK.look2 {w : World} {E : Nat → Prop} {m W : Nat} {L : List KC} (h : MapK w E m W L) {k : List Int} (hk : okK W k) :
    ∃ v, CellE w E v (getC L k) ∧ ∀ w', w'.heap[m]? = w.heap[m]? → (Instr.lookup 92 (.map (some m)) (keyT k) false).run Try.prog w' = .ok v w' := by
  obtain ⟨D, h1, h2, h3, h4, h5⟩ := h
  have q : ∀ w', w'.heap[m]? = w.heap[m]? → ∃ v, (Instr.lookup 92 (.map (some m)) (keyT k) false).run Try.prog w' = .ok v w' ∧ DataW.held v = D.atKey (keyLk k) (.held (.agg #[.int .i64 0, .slice none 0 0, .slice none 0 0, .slice none 0 0])) := fun w' e => by
    have h1' : w'.ownsMap Try.prog 99 heldR m L.length D := by
      obtain ⟨es, clock, hb, r⟩ := h1
      exact ⟨es, clock, e.trans hb, r⟩
    obtain ⟨v, ps, hrun, hR⟩ := h1'.lookup key_law Try.underlying92 (zero_cellM w') (show heldR _ = some (.held _, []) from rfl) (key_of_k hk)
    refine ⟨v, hrun, ?_⟩
    unfold heldR at hR
    simpa using congrArg Prod.fst (Option.some.inj hR)
  obtain ⟨v, hrun, hv⟩ := q w rfl
  refine ⟨v, ?_, fun w' e => ?_⟩
  · cases hg : getK L k with
    | none =>
      rw [Maps.atKey_of_not_has (by rw [h3 k hk, hg]; rfl)] at hv
      have hv := DataW.held.inj hv
      subst hv
      unfold getC; rw [hg]; exact CellE.nil_
    | some c =>
      obtain ⟨u, hu, hce⟩ := h4 _ (getK_mem hg)
      rw [hu] at hv
      have hv := DataW.held.inj hv
      subst hv
      unfold getC; rw [hg]; exact hce
  · obtain ⟨v', hrun', hv'⟩ := q w' e
    have := DataW.held.inj (hv'.trans hv.symm)
    subst this
    exact hrun'
end Go.Proofs.Ytclhnnidbhchnaa
/- The order of a cuboid's keys, as the program tells it: slices.Compare at []int; key.compare. -/
namespace Go.Proofs.Ytclhnnidbhchnaa
open Go.ChangeShapes Go.WideShapes Go.ChangeAt Go.RowKit Go.Sort
set_option linter.unusedVariables false
set_option linter.unusedSimpArgs false

def cmpL : List Int → List Int → Int
  | [], [] => 0
  | [], _ :: _ => -1
  | _ :: _, [] => 1
  | a :: ar, b :: br => if a = b then cmpL ar br else cmpI a b
theorem cmpI_zero {a b : Int} : cmpI a b = 0 ↔ a = b := by
  unfold cmpI
  split
  · constructor
    · intro h; cases h
    · omega
  · split
    · constructor
      · intro h; cases h
      · omega
    · constructor
      · intro _; omega
      · intro _; rfl
theorem cmpL_drop : ∀ {k : Nat} {a b : List Int}, k ≤ a.length → k ≤ b.length → a.take k = b.take k → cmpL a b = cmpL (a.drop k) (b.drop k)
  | 0, _, _, _, _, _ => rfl
  | k + 1, [], _, h, _, _ => by simp at h
  | k + 1, _ :: _, [], _, h, _ => by simp at h
  | k + 1, x :: a, y :: b, h1, h2, h => by
    simp only [List.take_succ_cons, List.cons.injEq] at h
    obtain ⟨rfl, h⟩ := h
    conv => lhs; unfold cmpL
    rw [if_pos rfl]
    exact cmpL_drop (by simpa using h1) (by simpa using h2) h
theorem cmpL_ne {k : Nat} {a b : List Int} (h1 : k < a.length) (h2 : k < b.length) (h : a.take k = b.take k) (hne : cmpI (a.getD k 0) (b.getD k 0) ≠ 0) : cmpL a b = cmpI (a.getD k 0) (b.getD k 0) := by
  rw [cmpL_drop (by omega) (by omega) h, List.drop_eq_getElem_cons h1, List.drop_eq_getElem_cons h2]
  simp only [List.getD_eq_getElem?_getD, List.getElem?_eq_getElem h1, List.getElem?_eq_getElem h2, Option.getD_some] at hne ⊢
  conv => lhs; unfold cmpL
  rw [if_neg (fun e => hne (cmpI_zero.2 e))]
theorem cmpL_long {k : Nat} {a b : List Int} (h1 : k < a.length) (h2 : b.length = k) (h : a.take k = b.take k) : cmpL a b = 1 := by
  have e : b.drop k = [] := List.drop_eq_nil_of_le (by omega)
  rw [cmpL_drop (by omega) (by omega) h, List.drop_eq_getElem_cons h1, e]
  rfl
theorem cmpL_end {k : Nat} {a b : List Int} (h1 : a.length = k) (h2 : k ≤ b.length) (h : a.take k = b.take k) : cmpL a b = if a.length < b.length then -1 else 0 := by
  rw [cmpL_drop (by omega) (by omega) h, List.drop_eq_nil_of_le (by omega)]
  by_cases hl : a.length < b.length
  · rw [if_pos hl, List.drop_eq_getElem_cons (show k < b.length by omega)]; rfl
  · rw [if_neg hl, List.drop_eq_nil_of_le (by omega)]; rfl
theorem cmpL_lex : ∀ {a b : List Int}, (decide (cmpL a b < 0)) = lexB a b
  | [], [] => rfl
  | [], _ :: _ => rfl
  | _ :: _, [] => rfl
  | a :: ar, b :: br => by
    unfold cmpL lexB
    by_cases h : a = b
    · rw [if_pos h, if_pos h]; exact cmpL_lex
    · rw [if_neg h, if_neg h]
      unfold cmpI
      by_cases h1 : a < b
      · rw [if_pos h1, decide_eq_true h1]; rfl
      · rw [if_neg h1, if_pos (by omega), decide_eq_false h1]; rfl
/-- Three codes. -/
abbrev T3 := Int × Int × Int
def l3 (x : T3) : List Int := [x.1, x.2.1, x.2.2]
def enc3 (x : T3) : List Value := [.int .i64 x.1, .int .i64 x.2.1, .int .i64 x.2.2]
def cmp3 (x y : T3) : Int := cmpL (l3 x) (l3 y)
theorem lt3 (x y : T3) : ltOf cmp3 x y = lexB (l3 x) (l3 y) := cmpL_lex
theorem l3_inj {x y : T3} (h : l3 x = l3 y) : x = y := by
  obtain ⟨a, b, c⟩ := x; obtain ⟨d, e, f⟩ := y
  simp [l3] at h
  obtain ⟨rfl, rfl, rfl⟩ := h
  rfl
theorem lex_ntrans {a b c : List Int} (h1 : lexB a b = false) (h2 : lexB b c = false) : lexB a c = false := by
  cases h : lexB a c
  · rfl
  · by_cases hab : a = b
    · subst hab; rw [h] at h2; cases h2
    · have := lex_trans (lex_total hab h1) h
      rw [this] at h2; cases h2
theorem swo3 : SWO (ltOf cmp3) where
  irrefl x := by rw [lt3]; exact lex_irrefl _
  trans x y z h1 h2 := by rw [lt3] at *; exact lex_trans h1 h2
  ntrans x y z h1 h2 := by rw [lt3] at *; exact lex_ntrans h1 h2
theorem tot3 (x y : T3) (h1 : ltOf cmp3 x y = false) (h2 : ltOf cmp3 y x = false) : x = y := by
  rw [lt3] at h1 h2
  by_cases h : l3 x = l3 y
  · exact l3_inj h
  · rw [lex_total h h1] at h2; cases h2
/-- Two lists in strict order with the same members are one. -/
theorem sorted_ext {α : Type} {r : α → α → Prop} (hi : ∀ a, ¬ r a a) (ht : ∀ a b c, r a b → r b c → r a c) : ∀ {A B : List α}, A.Pairwise r → B.Pairwise r → (∀ x, x ∈ A ↔ x ∈ B) → A = B
  | [], [], _, _, _ => rfl
  | [], y :: B, _, _, h => by have := (h y).2 List.mem_cons_self; cases this
  | x :: A, [], _, _, h => by have := (h x).1 List.mem_cons_self; cases this
  | x :: A, y :: B, hA, hB, h => by
    obtain ⟨a1, a2⟩ := List.pairwise_cons.1 hA
    obtain ⟨b1, b2⟩ := List.pairwise_cons.1 hB
    have hxy : x = y := by
      rcases List.mem_cons.1 ((h x).1 List.mem_cons_self) with e | hx
      · exact e
      · rcases List.mem_cons.1 ((h y).2 List.mem_cons_self) with e | hy
        · exact e.symm
        · exact absurd (ht _ _ _ (a1 _ hy) (b1 _ hx)) (hi _)
    subst hxy
    congr 1
    refine sorted_ext hi ht a2 b2 fun z => ?_
    constructor
    · intro hz
      rcases List.mem_cons.1 ((h z).1 (List.mem_cons_of_mem _ hz)) with e | h'
      · subst e; exact absurd (a1 _ hz) (hi _)
      · exact h'
    · intro hz
      rcases List.mem_cons.1 ((h z).2 (List.mem_cons_of_mem _ hz)) with e | h'
      · subst e; exact absurd (b1 _ hz) (hi _)
      · exact h'
/-- What sorting gives: the keys in order. -/
theorem sort3 {V S : List T3} (hS : S.Pairwise fun x y => lexB (l3 x) (l3 y) = true) (hn : V.Nodup) (hm : ∀ x, x ∈ V ↔ x ∈ S) : (V.mergeSort fun x y => !(ltOf cmp3) y x) = S := by
  have hp := List.mergeSort_perm V fun x y => !(ltOf cmp3) y x
  have hs := List.pairwise_mergeSort (le := fun x y => !(ltOf cmp3) y x) (fun a b c h1 h2 => by
      simp only [Bool.not_eq_true'] at h1 h2 ⊢
      exact swo3.ntrans _ _ _ h2 h1) (fun a b => by
      cases h : ltOf cmp3 b a
      · simp
      · rw [lt3] at h
        have : ltOf cmp3 a b = false := by rw [lt3]; exact lex_asymm h
        simp [this]) V
  have hn' := hp.nodup_iff.2 hn
  refine sorted_ext (r := fun x y => lexB (l3 x) (l3 y) = true) (fun a h => by rw [lex_irrefl] at h; cases h) (fun a b c h1 h2 => lex_trans h1 h2) ?_ hS (fun x => (hp.mem_iff).trans (hm x))
  refine List.Pairwise.imp₂ ?_ hs hn'
  intro a b h1 h2
  simp only [Bool.not_eq_true'] at h1
  rw [lt3] at h1
  exact lex_total (fun e => h2 (l3_inj e).symm) h1
end Go.Proofs.Ytclhnnidbhchnaa
