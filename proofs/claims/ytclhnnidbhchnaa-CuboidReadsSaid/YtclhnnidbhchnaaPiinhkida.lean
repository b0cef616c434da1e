/- 1 text of this claim, in build order. -/
import Derived.Test.YtclhnnidbhchnaaPcbddibjm
/- Lists of keys and cells, plainly: in the order of the keys; look-up, storing; the roll-up. -/
namespace Go.Proofs.Ytclhnnidbhchnaa
set_option linter.unusedVariables false
set_option linter.unusedSimpArgs false

/-- Is a list ahead of another one? -/
def lexB : List Int → List Int → Bool
  | [], [] => false
  | [], _ :: _ => true
  | _ :: _, [] => false
  | a :: aa, b :: bs => if a = b then lexB aa bs else decide (a < b)
theorem lex_irrefl : ∀ a : List Int, lexB a a = false
  | [] => rfl
  | a :: aa => by unfold lexB; rw [if_pos rfl]; exact lex_irrefl aa
theorem lex_trans : ∀ {a b c : List Int}, lexB a b = true → lexB b c = true → lexB a c = true
  | [], [], _, h, _ => by cases h
  | [], _ :: _, [], _, h => by cases h
  | [], _ :: _, _ :: _, _, _ => rfl
  | _ :: _, [], _, h, _ => by cases h
  | _ :: _, _ :: _, [], _, h => by cases h
  | a :: aa, b :: bs, c :: cs, h, k => by
    unfold lexB at h k ⊢
    by_cases h1 : a = b
    · rw [if_pos h1] at h
      by_cases h2 : b = c
      · rw [if_pos h2] at k; rw [if_pos (h1.trans h2)]; exact lex_trans h k
      · rw [if_neg h2] at k; rw [if_neg (by omega), h1]; exact k
    · rw [if_neg h1] at h
      by_cases h2 : b = c
      · rw [if_neg (by omega), ← h2]; exact h
      · rw [if_neg h2] at k
        rw [decide_eq_true_eq] at h k
        rw [if_neg (by omega), decide_eq_true_eq]
        omega
theorem lex_total : ∀ {a b : List Int}, a ≠ b → lexB a b = false → lexB b a = true
  | [], [], h, _ => absurd rfl h
  | [], _ :: _, _, h => by cases h
  | _ :: _, [], _, _ => rfl
  | a :: aa, b :: bs, hne, h => by
    unfold lexB at h ⊢
    by_cases h1 : a = b
    · rw [if_pos h1] at h
      rw [if_pos h1.symm]
      exact lex_total (fun e => hne (by rw [h1, e])) h
    · rw [if_neg h1] at h
      rw [if_neg (by omega)]
      rw [decide_eq_false_iff_not] at h
      rw [decide_eq_true_eq]
      omega
theorem lex_asymm {a b : List Int} (h : lexB a b = true) : lexB b a = false := by
  cases hb : lexB b a
  · rfl
  · have := lex_trans h hb
    rw [lex_irrefl] at this
    cases this
theorem lex_ne {a b : List Int} (h : lexB a b = true) : a ≠ b := fun e => by rw [e, lex_irrefl] at h; cases h

abbrev KC := List Int × CellM
def SortK (L : List KC) : Prop := L.Pairwise fun x y => lexB x.1 y.1 = true
def getK (L : List KC) (k : List Int) : Option CellM := (L.find? fun x => decide (x.1 = k)).map Prod.snd
def setK (k : List Int) (c : CellM) : List KC → List KC
  | [] => [(k, c)]
  | x :: L => if x.1 = k then (k, c) :: L else if lexB k x.1 = true then (k, c) :: x :: L else x :: setK k c L
theorem getK_nil (k : List Int) : getK [] k = none := rfl
theorem getK_cons (x : KC) (L : List KC) (k : List Int) : getK (x :: L) k = if x.1 = k then some x.2 else getK L k := by
  unfold getK
  rw [List.find?_cons]
  by_cases h : x.1 = k <;> simp [h]
theorem getK_none {L : List KC} {k : List Int} : getK L k = none ↔ ∀ x ∈ L, x.1 ≠ k := by
  unfold getK
  rw [Option.map_eq_none_iff, List.find?_eq_none]
  constructor
  · intro h x hx e; exact h x hx (by simpa using e)
  · intro h x hx e; exact h x hx (by simpa using e)
theorem getK_mem {L : List KC} {k : List Int} {c : CellM} (h : getK L k = some c) : (k, c) ∈ L := by
  unfold getK at h
  rw [Option.map_eq_some_iff] at h
  obtain ⟨x, hx, rfl⟩ := h
  have h1 := List.find?_some hx
  have h2 := List.mem_of_find?_eq_some hx
  have : x.1 = k := by simpa using h1
  rw [← this]
  exact h2
theorem getK_of_mem {L : List KC} (hs : SortK L) {x : KC} (hx : x ∈ L) : getK L x.1 = some x.2 := by
  induction L with
  | nil => cases hx
  | cons y L ih =>
    rw [getK_cons]
    obtain ⟨h1, h2⟩ := List.pairwise_cons.1 hs
    rcases List.mem_cons.1 hx with rfl | hx
    · rw [if_pos rfl]
    · rw [if_neg (lex_ne (h1 x hx))]
      exact ih h2 hx
theorem sortK_tail {x : KC} {L : List KC} (h : SortK (x :: L)) : SortK L := (List.pairwise_cons.1 h).2
theorem setK_mem {k : List Int} {c : CellM} : ∀ {L : List KC} {y : KC}, y ∈ setK k c L → y = (k, c) ∨ y ∈ L
  | [], y, h => by simp [setK] at h; exact .inl h
  | x :: L, y, h => by
    unfold setK at h
    split at h
    · rcases List.mem_cons.1 h with h | h
      · exact .inl h
      · exact .inr (List.mem_cons_of_mem _ h)
    · split at h
      · rcases List.mem_cons.1 h with h | h
        · exact .inl h
        · exact .inr h
      · rcases List.mem_cons.1 h with h | h
        · exact .inr (h ▸ List.mem_cons_self)
        · exact (setK_mem h).imp id (List.mem_cons_of_mem _)
theorem sortK_set {L : List KC} (h : SortK L) (k : List Int) (c : CellM) : SortK (setK k c L) := by
  induction L with
  | nil => exact List.pairwise_singleton _ _
  | cons x L ih =>
    obtain ⟨h1, h2⟩ := List.pairwise_cons.1 h
    unfold setK
    split
    · rename_i he
      exact List.pairwise_cons.2 ⟨fun y hy => by rw [← he]; exact h1 y hy, h2⟩
    · rename_i he
      split
      · rename_i hl
        refine List.pairwise_cons.2 ⟨fun y hy => ?_, h⟩
        rcases List.mem_cons.1 hy with rfl | hy
        · exact hl
        · exact lex_trans hl (h1 y hy)
      · rename_i hl
        refine List.pairwise_cons.2 ⟨fun y hy => ?_, ih h2⟩
        rcases setK_mem hy with rfl | hy
        · exact lex_total (fun e => he e.symm) (by simpa using hl)
        · exact h1 y hy
theorem getK_set {L : List KC} (h : SortK L) (k : List Int) (c : CellM) (k' : List Int) : getK (setK k c L) k' = if k = k' then some c else getK L k' := by
  induction L with
  | nil => unfold setK; rw [getK_cons]
  | cons x L ih =>
    obtain ⟨h1, h2⟩ := List.pairwise_cons.1 h
    unfold setK
    split
    · rename_i he
      rw [getK_cons, getK_cons]
      by_cases hk : k = k'
      · rw [if_pos hk, if_pos hk]
      · rw [if_neg hk, if_neg hk, if_neg (by rw [he]; exact hk)]
    · rename_i he
      split
      · rw [getK_cons]
      · rename_i hl
        rw [getK_cons, getK_cons, ih h2]
        by_cases hx : x.1 = k'
        · rw [if_pos hx, if_pos hx, if_neg (fun e => he (hx.trans e.symm))]
        · rw [if_neg hx, if_neg hx]
/-- Two lists in order that tell the same are one. -/
theorem sortK_ext : ∀ {L M : List KC}, SortK L → SortK M → (∀ k, getK L k = getK M k) → L = M
  | [], [], _, _, _ => rfl
  | [], y :: M, _, _, h => by have := h y.1; rw [getK_nil, getK_cons, if_pos rfl] at this; cases this
  | x :: L, [], _, _, h => by have := h x.1; rw [getK_nil, getK_cons, if_pos rfl] at this; cases this
  | x :: L, y :: M, hL, hM, h => by
    obtain ⟨h1, h2⟩ := List.pairwise_cons.1 hL
    obtain ⟨h3, h4⟩ := List.pairwise_cons.1 hM
    have key : x.1 = y.1 := by
      cases hlt : lexB x.1 y.1
      · cases hgt : lexB y.1 x.1
        · rcases (inferInstance : Decidable (x.1 = y.1)) with hne | he
          · have := lex_total hne hlt; rw [hgt] at this; cases this
          · exact he
        · have := h y.1
          rw [getK_cons, getK_cons, if_pos rfl, if_neg (fun e => by rw [e, lex_irrefl] at hgt; cases hgt)] at this
          have := h1 _ (getK_mem this)
          simp only at this
          rw [lex_asymm hgt] at this; cases this
      · have := h x.1
        rw [getK_cons, getK_cons, if_pos rfl, if_neg (fun e => by rw [e, lex_irrefl] at hlt; cases hlt)] at this
        have := h3 _ (getK_mem this.symm)
        simp only at this
        rw [lex_asymm hlt] at this; cases this
    have val : x.2 = y.2 := by
      have := h x.1
      rw [getK_cons, getK_cons, if_pos rfl, if_pos key.symm] at this
      exact Option.some.inj this
    have hxy : x = y := Prod.ext key val
    subst hxy
    congr 1
    refine sortK_ext h2 h4 fun k => ?_
    have hk := h k
    rw [getK_cons, getK_cons] at hk
    by_cases e : x.1 = k
    · have a1 : getK L k = none := getK_none.2 (fun z hz he => lex_ne (h1 z hz) (e.trans he.symm))
      have a2 : getK M k = none := getK_none.2 (fun z hz he => lex_ne (h3 z hz) (e.trans he.symm))
      rw [a1, a2]
    · rw [if_neg e, if_neg e] at hk
      exact hk
theorem setK_len {k : List Int} {c : CellM} : ∀ {L : List KC}, SortK L → (setK k c L).length = if (getK L k).isSome then L.length else L.length + 1
  | [], _ => rfl
  | x :: L, h => by
    obtain ⟨h1, h2⟩ := List.pairwise_cons.1 h
    unfold setK
    rw [getK_cons]
    by_cases he : x.1 = k
    · rw [if_pos he, if_pos he]; rfl
    · rw [if_neg he, if_neg he]
      by_cases hl : lexB k x.1 = true
      · rw [if_pos hl]
        have : getK L k = none := getK_none.2 (fun y hy e => by
          have := lex_trans hl (h1 y hy)
          rw [e, lex_irrefl] at this; cases this)
        rw [this]; simp
      · rw [if_neg hl, List.length_cons, setK_len h2, List.length_cons]
        split <;> rfl
/-- Behind all that is there. -/
theorem setK_last {k : List Int} {c : CellM} : ∀ {L : List KC}, (∀ x ∈ L, lexB x.1 k = true) → setK k c L = L ++ [(k, c)]
  | [], _ => rfl
  | x :: L, h => by
    have h1 := h x List.mem_cons_self
    unfold setK
    rw [if_neg (lex_ne h1), if_neg (by rw [lex_asymm h1]; decide), setK_last (fun y hy => h y (List.mem_cons_of_mem _ hy))]
    rfl
/-! ### The reference's way to store -/
def putB (k : List Int) (L : List KC) : Bool := L.any fun x => !lexB x.1 k
def setGo (k : List Int) (c : CellM) (L : List KC) : List KC := if putB k L = true then setK k c L else L
theorem setGo_nil (k : List Int) (c : CellM) : setGo k c [] = [] := rfl
theorem putB_nil (k : List Int) : putB k [] = false := rfl
theorem putB_snoc (k : List Int) (L : List KC) (x : KC) : putB k (L ++ [x]) = (putB k L || !lexB x.1 k) := by unfold putB; simp
theorem putB_no {k : List Int} {L : List KC} (h : putB k L = false) : ∀ x ∈ L, lexB x.1 k = true := by
  unfold putB at h
  rw [List.any_eq_false] at h
  intro x hx
  simpa using h x hx
theorem setK_snoc {k : List Int} {c : CellM} : ∀ {L : List KC}, putB k L = true → ∀ x : KC, setK k c (L ++ [x]) = setK k c L ++ [x]
  | [], h, _ => by cases h
  | y :: L, h, x => by
    rw [List.cons_append]
    unfold setK
    by_cases h1 : y.1 = k
    · rw [if_pos h1, if_pos h1]; rfl
    · rw [if_neg h1, if_neg h1]
      by_cases h2 : lexB k y.1 = true
      · rw [if_pos h2, if_pos h2]; rfl
      · rw [if_neg h2, if_neg h2, List.cons_append, setK_snoc]
        have : putB k (y :: L) = (!lexB y.1 k || putB k L) := rfl
        rw [this, lex_total (fun e => h1 e.symm) (by simpa using h2)] at h
        simpa using h
/-- A round of the reference's loop: what stands there is the same key; comes behind; or stands ahead. -/
theorem setGo_step {k : List Int} {c : CellM} {L : List KC} {x : KC} (hs : SortK (L ++ [x])) :
    setGo k c (L ++ [x]) = if putB k L = true then setGo k c L ++ [x] else if x.1 = k then setGo k c L ++ [(k, c)] else if lexB k x.1 = true then setGo k c L ++ [(k, c), x] else setGo k c L ++ [x] := by
  unfold setGo
  rw [putB_snoc]
  cases hp : putB k L
  · have hall := putB_no hp
    simp only [Bool.false_eq_true, if_false, Bool.false_or]
    have split : setK k c (L ++ [x]) = L ++ setK k c [x] := by
      clear hp hs
      induction L with
      | nil => rfl
      | cons y L ih =>
        have h1 := hall y List.mem_cons_self
        rw [List.cons_append, List.cons_append]
        conv => lhs; unfold setK
        rw [if_neg (lex_ne h1), if_neg (by rw [lex_asymm h1]; decide), ih (fun z hz => hall z (List.mem_cons_of_mem _ hz))]
    by_cases h1 : x.1 = k
    · rw [if_pos h1, if_pos (by rw [h1, lex_irrefl]; rfl), split]
      unfold setK
      rw [if_pos h1]
    · rw [if_neg h1]
      by_cases h2 : lexB k x.1 = true
      · rw [if_pos h2, if_pos (by rw [lex_asymm h2]; rfl), split]
        unfold setK
        rw [if_neg h1, if_pos h2]
      · rw [if_neg h2, if_neg]
        rw [lex_total (fun e => h1 e.symm) (by simpa using h2)]
        decide
  · rw [if_pos rfl, if_pos rfl, Bool.true_or, if_pos rfl, setK_snoc hp]
theorem putB_sorted {k : List Int} {L : List KC} {x : KC} (hs : SortK (L ++ [x])) (hp : putB k L = true) : x.1 ≠ k := by
  unfold putB at hp
  rw [List.any_eq_true] at hp
  obtain ⟨y, hy, h⟩ := hp
  have h1 := (List.pairwise_append.1 hs).2.2 y hy x (by simp)
  intro e
  rw [e] at h1
  rw [h1] at h
  cases h
theorem setGo_end {k : List Int} {c : CellM} (L : List KC) : setK k c L = if putB k L = true then setGo k c L else setGo k c L ++ [(k, c)] := by
  unfold setGo
  cases hp : putB k L
  · rw [if_neg (by decide), if_neg (by decide), setK_last (putB_no hp)]
  · rw [if_pos rfl, if_pos rfl]
/-! ### As a loop tells it -/
theorem lexB_same : ∀ {k : Nat} {a b : List Int}, k ≤ a.length → k ≤ b.length → a.take k = b.take k → lexB a b = lexB (a.drop k) (b.drop k)
  | 0, _, _, _, _, _ => rfl
  | k + 1, [], _, h, _, _ => by simp at h
  | k + 1, _ :: _, [], _, h, _ => by simp at h
  | k + 1, x :: a, y :: b, h1, h2, h => by
    simp only [List.take_succ_cons, List.cons.injEq] at h
    obtain ⟨rfl, h⟩ := h
    conv => lhs; unfold lexB
    rw [if_pos rfl]
    exact lexB_same (by simpa using h1) (by simpa using h2) h
theorem lexB_part {k : Nat} {a b : List Int} (h1 : k < a.length) (h2 : k < b.length) (h : a.take k = b.take k) (hne : a.getD k 0 ≠ b.getD k 0) : lexB a b = decide (a.getD k 0 < b.getD k 0) := by
  rw [lexB_same (by omega) (by omega) h, List.drop_eq_getElem_cons h1, List.drop_eq_getElem_cons h2]
  simp only [List.getD_eq_getElem?_getD, List.getElem?_eq_getElem h1, List.getElem?_eq_getElem h2, Option.getD_some] at hne ⊢
  unfold lexB
  rw [if_neg hne]
theorem lexB_end {k : Nat} {a b : List Int} (h1 : k ≤ a.length) (h2 : k ≤ b.length) (h : a.take k = b.take k) (he : k = a.length ∨ k = b.length) : lexB a b = decide (a.length < b.length) := by
  rw [lexB_same h1 h2 h]
  rcases he with rfl | rfl
  · rw [List.drop_length]
    rcases Nat.lt_or_ge a.length b.length with hlt | hge
    · rw [List.drop_eq_getElem_cons hlt, decide_eq_true hlt]; rfl
    · rw [List.drop_eq_nil_of_le (by omega), decide_eq_false (by omega)]; rfl
  · rw [List.drop_length, decide_eq_false (by omega)]
    cases a.drop b.length <;> rfl
theorem take_succ_same {k : Nat} {a b : List Int} (h1 : k < a.length) (h2 : k < b.length) (h : a.take k = b.take k) (he : a.getD k 0 = b.getD k 0) : a.take (k + 1) = b.take (k + 1) := by
  rw [List.take_succ_eq_append_getElem h1, List.take_succ_eq_append_getElem h2, h]
  simp only [List.getD_eq_getElem?_getD, List.getElem?_eq_getElem h1, List.getElem?_eq_getElem h2, Option.getD_some] at he
  rw [he]
/-- Is a list a key? -/
def okK (W : Nat) (k : List Int) : Prop := k.length = W ∧ ∀ x ∈ k, 0 ≤ x ∧ x ≤ 40
instance (W : Nat) (k : List Int) : Decidable (okK W k) := by unfold okK; infer_instance
def okB (W : Nat) (k : List Int) : Bool := decide (okK W k)
/-! ### A cell is added -/
def addK (W M : Nat) (L : List KC) (k : List Int) (c : CellM) : List KC × Int :=
  if okB W k = false ∨ mayC c = false ∨ c.n = 0 ∨ c.s.length ≠ M then (L, 1) else
  match getK L k with
  | none => (setK k c L, 0)
  | some y => if (mergeC y c).2 = 0 then (setK k (mergeC y c).1 L, 0) else (L, (mergeC y c).2)
/-- What is kept of a cuboid's list. -/
structure OkL (W M : Nat) (L : List KC) : Prop where
  sort : SortK L
  key : ∀ x ∈ L, okK W x.1
  may : ∀ x ∈ L, MayP x.2
  full : ∀ x ∈ L, x.2.n ≠ 0
  len : ∀ x ∈ L, x.2.s.length = M
theorem OkL.nil_ (W M : Nat) : OkL W M [] := ⟨List.Pairwise.nil, (fun _ h => (by cases h)), (fun _ h => (by cases h)), (fun _ h => (by cases h)), (fun _ h => (by cases h))⟩
theorem OkL.set {W M : Nat} {L : List KC} (h : OkL W M L) {k : List Int} {c : CellM} (h1 : okK W k) (h2 : MayP c) (h3 : c.n ≠ 0) (h4 : c.s.length = M) : OkL W M (setK k c L) := by
  have q : ∀ {p : KC → Prop}, (∀ x ∈ L, p x) → p (k, c) → ∀ x ∈ setK k c L, p x := fun ha hb x hx => by
    rcases setK_mem hx with rfl | hx
    · exact hb
    · exact ha x hx
  exact ⟨sortK_set h.sort k c, q (p := fun x => okK W x.1) h.key h1, q (p := fun x => MayP x.2) h.may h2, q (p := fun x => x.2.n ≠ 0) h.full h3, q (p := fun x => x.2.s.length = M) h.len h4⟩
theorem merge_ok {M : Nat} {a b : CellM} (ha : MayP a) (hb : MayP b) (ha0 : a.n ≠ 0) (hb0 : b.n ≠ 0) (hal : a.s.length = M) (h : (mergeC a b).2 = 0) : MayP (mergeC a b).1 ∧ (mergeC a b).1.n ≠ 0 ∧ (mergeC a b).1.s.length = M := by
  unfold mergeC at h ⊢
  by_cases h1 : mayC a = false ∨ mayC b = false ∨ a.s.length ≠ b.s.length
  · rw [if_pos h1] at h; cases h
  · rw [if_neg h1] at h ⊢
    rw [if_neg ha0, if_neg hb0] at h ⊢
    by_cases h2 : mayC (sumOf a b) = true
    · rw [if_pos h2]
      have hm := mayC_iff.1 h2
      have hbl : a.s.length = b.s.length := Decidable.byContradiction (fun e => h1 (.inr (.inr e)))
      refine ⟨hm, ?_, by simp [sumOf]; omega⟩
      have := (may_full ha ha0).1; have := (may_full hb hb0).1
      show a.n + b.n ≠ 0
      omega
    · rw [if_neg h2] at h; cases h
theorem addK_ok {W M : Nat} {L : List KC} (h : OkL W M L) (k : List Int) (c : CellM) : OkL W M (addK W M L k c).1 := by
  unfold addK
  by_cases h1 : okB W k = false ∨ mayC c = false ∨ c.n = 0 ∨ c.s.length ≠ M
  · rw [if_pos h1]; exact h
  · rw [if_neg h1]
    have hk : okK W k := Decidable.byContradiction (fun e => h1 (.inl (decide_eq_false e)))
    have hm : MayP c := by
      cases hm : mayC c
      · exact absurd (.inr (.inl hm)) h1
      · exact mayC_iff.1 hm
    have hn : c.n ≠ 0 := fun e => h1 (.inr (.inr (.inl e)))
    have hl : c.s.length = M := Decidable.byContradiction (fun e => h1 (.inr (.inr (.inr e))))
    cases hg : getK L k with
    | none => exact h.set hk hm hn hl
    | some y =>
      have hy := getK_mem hg
      simp only
      by_cases h2 : (mergeC y c).2 = 0
      · rw [if_pos h2]
        obtain ⟨a1, a2, a3⟩ := merge_ok (h.may _ hy) hm (h.full _ hy) hn (h.len _ hy) h2
        exact h.set hk a1 a2 a3
      · rw [if_neg h2]; exact h
theorem addK_len {W M : Nat} {L : List KC} (h : OkL W M L) (k : List Int) (c : CellM) : (addK W M L k c).1.length ≤ L.length + 1 := by
  have q : ∀ d, (setK k d L).length ≤ L.length + 1 := fun d => by rw [setK_len h.sort]; split <;> omega
  unfold addK
  split
  · exact Nat.le_succ _
  · split
    · exact q _
    · split
      · exact q _
      · exact Nat.le_succ _
/-- The ways of adding. -/
theorem add_ways (W M : Nat) (L : List KC) (k : List Int) (c : CellM) :
    (addK W M L k c = (L, 1) ∧ (okB W k = false ∨ (okB W k = true ∧ mayC c = false) ∨ (okB W k = true ∧ mayC c = true ∧ (c.n == 0) = true) ∨ (okB W k = true ∧ mayC c = true ∧ (c.n == 0) = false ∧ c.s.length ≠ M))) ∨
    (okB W k = true ∧ mayC c = true ∧ (c.n == 0) = false ∧ c.s.length = M ∧ ((getK L k = none ∧ addK W M L k c = (setK k c L, 0)) ∨
      (∃ y, getK L k = some y ∧ (((mergeC y c).2 = 0 ∧ addK W M L k c = (setK k (mergeC y c).1 L, 0)) ∨ ((mergeC y c).2 ≠ 0 ∧ addK W M L k c = (L, (mergeC y c).2)))))) := by
  unfold addK
  cases h1 : okB W k
  · exact .inl ⟨by simp, .inl rfl⟩
  cases h2 : mayC c
  · exact .inl ⟨by simp, .inr (.inl ⟨rfl, rfl⟩)⟩
  by_cases h3 : c.n = 0
  · exact .inl ⟨by simp [h3], .inr (.inr (.inl ⟨rfl, rfl, by simp [h3]⟩))⟩
  by_cases h4 : c.s.length = M
  · refine .inr ⟨rfl, rfl, by simpa using h3, h4, ?_⟩
    rw [if_neg (by simp [h3, h4])]
    cases hg : getK L k with
    | none => exact .inl ⟨rfl, rfl⟩
    | some y =>
      refine .inr ⟨y, rfl, ?_⟩
      by_cases h5 : (mergeC y c).2 = 0
      · exact .inl ⟨h5, by simp only [h5, if_pos]⟩
      · exact .inr ⟨h5, by simp only [h5, if_neg, not_false_eq_true]⟩
  · exact .inl ⟨by simp [h4], .inr (.inr (.inr ⟨rfl, rfl, by simpa using h3, h4⟩))⟩
end Go.Proofs.Ytclhnnidbhchnaa
