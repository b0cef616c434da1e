/- 3 texts of this claim, in build order. -/
import Derived.Test.YtgoapnkdcfcjgaaGreatPnlepmkbe
import Derived.Lib.SmallJoins
import Derived.Test.YtgoapnkdcfcjgaaGreatPacmmcljk
/- From a walk of a law's function to its statement: what every law's last step has in common. -/
namespace Go.Proofs.YtgoapnkdcfcjgaaGreat
open Go.ChangeShapes Go.WideShapes Go.ChangeAt Go.RowKit Go.WideMaps Go.WideElems Go.Joins
open Go.ChangeMaps (open_string shut_string)
set_option linter.unusedVariables false

theorem own : ownKnob Tryz.prog.godebug = none := by kernel_rfl
theorem laidOut : laidOutB Tryz.prog = true := by kernel_rfl
section
variable {H : Type} {enc : TypeId × Value → H} {P : Program}
/-- What was read of the arguments ahead of the call is read behind it. -/
theorem trodAll_stays (hl : laidOutB P = true) {W W' : World} {sp : Nat → Bool} (hb : Below W.heap.size W W') : ∀ {ts : List TypeId} {vs : List Value} {ds : List (DataW H)} {ps : List MemPlace},
    (ts.all fun t => P.readableRec t && decide (t < P.types.size)) = true → DataW.TrodAll enc P W 0 (fun _ => true) true ts vs ds ps → (∀ x ∈ ps, x.block < W.heap.size) → (∀ x ∈ ps, sp x.block = true) →
    DataW.TrodAll enc P W' 0 sp true ts vs ds ps
  | [], _, _, _, _, h, _, _ => by
    obtain ⟨rfl, rfl, rfl⟩ := trodAll_nil h
    exact trodAll_mk0
  | t :: ts, _, _, _, hr, h, hlt, hs => by
    obtain ⟨v, vs', d, ds', p, q, rfl, rfl, rfl, h0, h1⟩ := trodAll_cons h
    simp only [List.all_cons, Bool.and_eq_true, decide_eq_true_eq] at hr
    exact trodAll_cons_mk (Trod_stays hl hr.1.1 hr.1.2 h0 (fun x hx => hb.same (hlt x (by simp [hx]))) (fun x hx => hs x (by simp [hx])))
      (trodAll_stays hl hb hr.2 h1 (fun x hx => hlt x (by simp [hx])) (fun x hx => hs x (by simp [hx])))

theorem post_of_below {f : Func} {s : ChangeSpec} {apart fresh handsOn again : Bool} {W W' : World} {args : Array Value} {v : Value} {ds gs : List (DataW H)} {before pa pv : List MemPlace}
    (hW : DataW.Whole enc P f.params.toList s.vars apart W args.toList ds gs before)
    (hres : ∀ (b : Nat) (sp : Nat → Bool) (hd : Bool), DataW.TrodAll enc P W' b sp hd f.resultTypes.toList (v.resultList f.resultTypes.size) (s.fn H (ds ++ gs)).results [])
    (hargs : ∀ sp : Nat → Bool, (∀ p ∈ before, sp p.block = true) → DataW.TrodAll enc P W' 0 sp true f.params.toList args.toList (s.fn H (ds ++ gs)).args pa)
    (hvars : ∀ sp : Nat → Bool, (∀ p ∈ before, sp p.block = true) → DataW.TrodVars enc P W' sp s.vars (s.fn H (ds ++ gs)).vars pv)
    (hps : before = pa ++ pv) (hb : Below W.heap.size W W')
    (hok : ∀ (j : Nat) (t : TypeId) (r : Value), f.resultTypes[j]? = some t → (v.resultList f.resultTypes.size)[j]? = some r → Value.okWide P W' .any 0 t r) :
    s.post enc P f apart fresh handsOn again W args v W' := by
  have hlt : ∀ p ∈ before, p.block < W.heap.size := fun p hp => hW.lt p hp
  have hold : ∀ p ∈ before, (fun b => decide (b < W.heap.size)) p.block = true := fun p hp => by simpa using hlt p hp
  refine ⟨ds, gs, before, [], pa, pv, hW, hres _ _ _, hargs _ hold, hvars _ hold, World.keptBut_mono (fun p hp => ⟨hp, ?_⟩) (hb.frame (· ∈ before)), fun _ => ?_⟩
  · rw [hps, List.mem_append] at hp
    exact Or.inr hp
  · obtain ⟨_, _, _, _, _, hz, hn⟩ := hW
    refine ⟨hok, _, _, ([] ++ pa) ++ pv, ⟨[] ++ pa, pv, trodAll_append (hargs _ (fun _ _ => rfl)) (hres _ _ _), hvars _ (fun _ _ => rfl), rfl, ?_, ?_⟩, ?_⟩
    · intro b off hp
      have hin : MemPlace.cell b off ∈ before := by rw [hps]; simpa using hp
      rw [hb.frozen (hlt _ hin)]
      exact hz b off hin
    · intro ha
      have := hn ha
      rw [hps] at this
      simpa using this
    · intro p hp _
      rw [hps]
      simpa using hp

theorem addr_of_cell {w : World} {a : Addr} {v : Value} (h : w.cell? a = some v) : a = ⟨a.block, a.off, none⟩ := by
  obtain ⟨b, o, s⟩ := a
  cases s with
  | none => rfl
  | some s => simp [World.cell?] at h; split at h <;> simp_all
theorem add_eq (b o i : Nat) : (⟨b, o, none⟩ : Addr).add i = ⟨b, o + i, none⟩ := by unfold Addr.add; split <;> simp_all
end
end Go.Proofs.YtgoapnkdcfcjgaaGreat
/- Many cells together, plainly. -/
namespace Go.Proofs.YtgoapnkdcfcjgaaGreat
set_option linter.unusedVariables false
set_option linter.unusedSimpArgs false

def fullL (l : List CellM) : List CellM := l.filter fun c => c.n != 0
def cntL (l : List CellM) : Int := (l.map CellM.n).sum
def sCol (l : List CellM) (i : Nat) : List Int := l.map fun c => c.s.getD i 0
def loCol (l : List CellM) (i : Nat) : List Int := l.map fun c => c.lo.getD i 0
def hiCol (l : List CellM) (i : Nat) : List Int := l.map fun c => c.hi.getD i 0
def sumsOf (m : Nat) (l : List CellM) : CellM := ⟨cntL l, (List.range m).map fun i => (sCol l i).sum, (List.range m).map fun i => minL (loCol l i), (List.range m).map fun i => maxL (hiCol l i)⟩
def argB (m : Nat) (c : CellM) : Bool := mayC c && decide (c.s.length = m)
def sumC (l : List CellM) : CellM × Int :=
  if l = [] then (nilC, 1) else if l.all (argB (l.headD nilC).s.length) = false then (nilC, 1) else
  if fullL l = [] then (emptyC (l.headD nilC).s.length, 0) else
  if CNT < cntL (fullL l) then (nilC, 14) else
  if (List.range (l.headD nilC).s.length).all (fun i => inB (sCol (fullL l) i).sum SUM) = false then (nilC, 14) else (sumsOf (l.headD nilC).s.length (fullL l), 0)
/-- What is known of cells that may be put together. -/
structure ArgsP (m : Nat) (l : List CellM) : Prop where
  may : ∀ c ∈ l, MayP c
  len : ∀ c ∈ l, c.s.length = m
theorem argsP_of {m : Nat} {l : List CellM} (h : l.all (argB m) = true) : ArgsP m l := by
  rw [List.all_eq_true] at h
  refine ⟨fun c hc => ?_, fun c hc => ?_⟩
  · have := h c hc
    unfold argB at this
    rw [Bool.and_eq_true] at this
    exact mayC_iff.1 this.1
  · have := h c hc
    unfold argB at this
    rw [Bool.and_eq_true] at this
    exact of_decide_eq_true this.2
theorem fullL_mem {l : List CellM} {c : CellM} : c ∈ fullL l ↔ c ∈ l ∧ c.n ≠ 0 := by unfold fullL; simp
theorem cntL_snoc (l : List CellM) (c : CellM) : cntL (l ++ [c]) = cntL l + c.n := by unfold cntL; simp
/-- Sums of full cells' counts only grow. -/
theorem cntL_pos {l : List CellM} (h : ∀ c ∈ l, 1 ≤ c.n) : (l.length : Int) ≤ cntL l := by
  induction l with
  | nil => simp [cntL]
  | cons c l ih =>
    have h1 := h c List.mem_cons_self
    have h2 := ih (fun d hd => h d (List.mem_cons_of_mem _ hd))
    unfold cntL at *
    simp only [List.map_cons, List.sum_cons, List.length_cons]
    omega
theorem cntL_append (l k : List CellM) : cntL (l ++ k) = cntL l + cntL k := by unfold cntL; simp
theorem cntL_take_le {l : List CellM} (h : ∀ c ∈ l, 1 ≤ c.n) (k : Nat) : cntL (l.take k) ≤ cntL l := by
  have e : l = l.take k ++ l.drop k := (List.take_append_drop k l).symm
  have h2 := cntL_pos (l := l.drop k) (fun c hc => h c (List.mem_of_mem_drop hc))
  have h3 := cntL_append (l.take k) (l.drop k)
  rw [← e] at h3
  omega
theorem full_p {m : Nat} {l : List CellM} (h : ArgsP m l) : ∀ c ∈ fullL l, (1 ≤ c.n ∧ c.n ≤ CNT) ∧ c.s.length = m ∧ c.lo.length = m ∧ c.hi.length = m ∧ ∀ i, i < m → c.col i := by
  intro c hc
  obtain ⟨h1, h2⟩ := fullL_mem.1 hc
  have hm := h.may c h1
  have hl := h.len c h1
  obtain ⟨a, b⟩ := may_full hm h2
  exact ⟨a, hl, hm.1.2.1.trans hl, hm.1.2.2.trans hl, fun i hi => b i (by omega)⟩
theorem full_none {m : Nat} {l : List CellM} (h : ArgsP m l) (hf : fullL l = []) : ∀ c ∈ l, c = emptyC m := by
  intro c hc
  have h0 : c.n = 0 := by
    rcases Int.decEq c.n 0 with h1 | h1
    · have := fullL_mem.2 ⟨hc, h1⟩
      rw [hf] at this
      cases this
    · exact h1
  rw [may_zero (h.may c hc) h0, h.len c hc]
/-! ### The ways -/
theorem sumC_nil : sumC [] = (nilC, 1) := by unfold sumC; simp
theorem sumC_bad {l : List CellM} {k : Nat} (hk : k < l.length) (h : argB (l.headD nilC).s.length (l.getD k nilC) = false) : sumC l = (nilC, 1) := by
  have h0 : l ≠ [] := by intro e; subst e; simp at hk
  have h1 : l.all (argB (l.headD nilC).s.length) = false := by
    rw [List.all_eq_false]
    refine ⟨l[k], List.getElem_mem hk, ?_⟩
    rw [List.getD_eq_getElem?_getD, List.getElem?_eq_getElem hk] at h
    simpa using h
  unfold sumC
  rw [if_neg h0, if_pos h1]
theorem sumC_empty {l : List CellM} (h0 : l ≠ []) (h1 : l.all (argB (l.headD nilC).s.length) = true) (h2 : fullL l = []) : sumC l = (emptyC (l.headD nilC).s.length, 0) := by
  unfold sumC
  rw [if_neg h0, if_neg (by rw [h1]; decide), if_pos h2]
theorem sumC_many {l : List CellM} (h0 : l ≠ []) (h1 : l.all (argB (l.headD nilC).s.length) = true) (h2 : fullL l ≠ []) (h3 : CNT < cntL (fullL l)) : sumC l = (nilC, 14) := by
  unfold sumC
  rw [if_neg h0, if_neg (by rw [h1]; decide), if_neg h2, if_pos h3]
theorem sumC_far {l : List CellM} (h0 : l ≠ []) (h1 : l.all (argB (l.headD nilC).s.length) = true) (h2 : fullL l ≠ []) {i : Nat} (hi : i < (l.headD nilC).s.length) (h3 : inB (sCol (fullL l) i).sum SUM = false) : sumC l = (nilC, 14) := by
  unfold sumC
  rw [if_neg h0, if_neg (by rw [h1]; decide), if_neg h2]
  split
  · rfl
  · rw [if_pos]
    rw [List.all_eq_false]
    exact ⟨i, List.mem_range.2 hi, by simp [h3]⟩
theorem sumC_yes {l : List CellM} (h0 : l ≠ []) (h1 : l.all (argB (l.headD nilC).s.length) = true) (h2 : fullL l ≠ []) (h3 : cntL (fullL l) ≤ CNT) (h4 : ∀ i, i < (l.headD nilC).s.length → inB (sCol (fullL l) i).sum SUM = true) : sumC l = (sumsOf (l.headD nilC).s.length (fullL l), 0) := by
  unfold sumC
  rw [if_neg h0, if_neg (by rw [h1]; decide), if_neg h2, if_neg (by omega), if_neg]
  rw [Bool.not_eq_false, List.all_eq_true]
  exact fun i hi => h4 i (List.mem_range.1 hi)
end Go.Proofs.YtgoapnkdcfcjgaaGreat
/- Lists of keys and cells, plainly: in the order of the keys; look-up, storing; the roll-up. -/
namespace Go.Proofs.YtgoapnkdcfcjgaaGreat
set_option linter.unusedVariables false
set_option linter.unusedSimpArgs false

/-- Is a list ahead of another one? -/
def lexB : List Int → List Int → Bool
  | [], [] => false
  | [], _ :: _ => true
  | _ :: _, [] => false
  | a :: aa, b :: bs => if a = b then lexB aa bs else decide (a < b)
theorem lex_irrefl : ∀ a : List Int, lexB a a = false
  | [] => rfl
  | a :: aa => by unfold lexB; rw [if_pos rfl]; exact lex_irrefl aa
theorem lex_trans : ∀ {a b c : List Int}, lexB a b = true → lexB b c = true → lexB a c = true
  | [], [], _, h, _ => by cases h
  | [], _ :: _, [], _, h => by cases h
  | [], _ :: _, _ :: _, _, _ => rfl
  | _ :: _, [], _, h, _ => by cases h
  | _ :: _, _ :: _, [], _, h => by cases h
  | a :: aa, b :: bs, c :: cs, h, k => by
    unfold lexB at h k ⊢
    by_cases h1 : a = b
    · rw [if_pos h1] at h
      by_cases h2 : b = c
      · rw [if_pos h2] at k; rw [if_pos (h1.trans h2)]; exact lex_trans h k
      · rw [if_neg h2] at k; rw [if_neg (by omega), h1]; exact k
    · rw [if_neg h1] at h
      by_cases h2 : b = c
      · rw [if_neg (by omega), ← h2]; exact h
      · rw [if_neg h2] at k
        rw [decide_eq_true_eq] at h k
        rw [if_neg (by omega), decide_eq_true_eq]
        omega
theorem lex_total : ∀ {a b : List Int}, a ≠ b → lexB a b = false → lexB b a = true
  | [], [], h, _ => absurd rfl h
  | [], _ :: _, _, h => by cases h
  | _ :: _, [], _, _ => rfl
  | a :: aa, b :: bs, hne, h => by
    unfold lexB at h ⊢
    by_cases h1 : a = b
    · rw [if_pos h1] at h
      rw [if_pos h1.symm]
      exact lex_total (fun e => hne (by rw [h1, e])) h
    · rw [if_neg h1] at h
      rw [if_neg (by omega)]
      rw [decide_eq_false_iff_not] at h
      rw [decide_eq_true_eq]
      omega
theorem lex_asymm {a b : List Int} (h : lexB a b = true) : lexB b a = false := by
  cases hb : lexB b a
  · rfl
  · have := lex_trans h hb
    rw [lex_irrefl] at this
    cases this
theorem lex_ne {a b : List Int} (h : lexB a b = true) : a ≠ b := fun e => by rw [e, lex_irrefl] at h; cases h

abbrev KC := List Int × CellM
def SortK (L : List KC) : Prop := L.Pairwise fun x y => lexB x.1 y.1 = true
def getK (L : List KC) (k : List Int) : Option CellM := (L.find? fun x => decide (x.1 = k)).map Prod.snd
def setK (k : List Int) (c : CellM) : List KC → List KC
  | [] => [(k, c)]
  | x :: L => if x.1 = k then (k, c) :: L else if lexB k x.1 = true then (k, c) :: x :: L else x :: setK k c L
theorem getK_nil (k : List Int) : getK [] k = none := rfl
theorem getK_cons (x : KC) (L : List KC) (k : List Int) : getK (x :: L) k = if x.1 = k then some x.2 else getK L k := by
  unfold getK
  rw [List.find?_cons]
  by_cases h : x.1 = k <;> simp [h]
theorem getK_none {L : List KC} {k : List Int} : getK L k = none ↔ ∀ x ∈ L, x.1 ≠ k := by
  unfold getK
  rw [Option.map_eq_none_iff, List.find?_eq_none]
  constructor
  · intro h x hx e; exact h x hx (by simpa using e)
  · intro h x hx e; exact h x hx (by simpa using e)
theorem getK_mem {L : List KC} {k : List Int} {c : CellM} (h : getK L k = some c) : (k, c) ∈ L := by
  unfold getK at h
  rw [Option.map_eq_some_iff] at h
  obtain ⟨x, hx, rfl⟩ := h
  have h1 := List.find?_some hx
  have h2 := List.mem_of_find?_eq_some hx
  have : x.1 = k := by simpa using h1
  rw [← this]
  exact h2
theorem getK_of_mem {L : List KC} (hs : SortK L) {x : KC} (hx : x ∈ L) : getK L x.1 = some x.2 := by
  induction L with
  | nil => cases hx
  | cons y L ih =>
    rw [getK_cons]
    obtain ⟨h1, h2⟩ := List.pairwise_cons.1 hs
    rcases List.mem_cons.1 hx with rfl | hx
    · rw [if_pos rfl]
    · rw [if_neg (lex_ne (h1 x hx))]
      exact ih h2 hx
theorem setK_mem {k : List Int} {c : CellM} : ∀ {L : List KC} {y : KC}, y ∈ setK k c L → y = (k, c) ∨ y ∈ L
  | [], y, h => by simp [setK] at h; exact .inl h
  | x :: L, y, h => by
    unfold setK at h
    split at h
    · rcases List.mem_cons.1 h with h | h
      · exact .inl h
      · exact .inr (List.mem_cons_of_mem _ h)
    · split at h
      · rcases List.mem_cons.1 h with h | h
        · exact .inl h
        · exact .inr h
      · rcases List.mem_cons.1 h with h | h
        · exact .inr (h ▸ List.mem_cons_self)
        · exact (setK_mem h).imp id (List.mem_cons_of_mem _)
theorem sortK_set {L : List KC} (h : SortK L) (k : List Int) (c : CellM) : SortK (setK k c L) := by
  induction L with
  | nil => exact List.pairwise_singleton _ _
  | cons x L ih =>
    obtain ⟨h1, h2⟩ := List.pairwise_cons.1 h
    unfold setK
    split
    · rename_i he
      exact List.pairwise_cons.2 ⟨fun y hy => by rw [← he]; exact h1 y hy, h2⟩
    · rename_i he
      split
      · rename_i hl
        refine List.pairwise_cons.2 ⟨fun y hy => ?_, h⟩
        rcases List.mem_cons.1 hy with rfl | hy
        · exact hl
        · exact lex_trans hl (h1 y hy)
      · rename_i hl
        refine List.pairwise_cons.2 ⟨fun y hy => ?_, ih h2⟩
        rcases setK_mem hy with rfl | hy
        · exact lex_total (fun e => he e.symm) (by simpa using hl)
        · exact h1 y hy
theorem getK_set {L : List KC} (h : SortK L) (k : List Int) (c : CellM) (k' : List Int) : getK (setK k c L) k' = if k = k' then some c else getK L k' := by
  induction L with
  | nil => unfold setK; rw [getK_cons]
  | cons x L ih =>
    obtain ⟨h1, h2⟩ := List.pairwise_cons.1 h
    unfold setK
    split
    · rename_i he
      rw [getK_cons, getK_cons]
      by_cases hk : k = k'
      · rw [if_pos hk, if_pos hk]
      · rw [if_neg hk, if_neg hk, if_neg (by rw [he]; exact hk)]
    · rename_i he
      split
      · rw [getK_cons]
      · rename_i hl
        rw [getK_cons, getK_cons, ih h2]
        by_cases hx : x.1 = k'
        · rw [if_pos hx, if_pos hx, if_neg (fun e => he (hx.trans e.symm))]
        · rw [if_neg hx, if_neg hx]
/-- Two lists in order that tell the same are one. -/
theorem sortK_ext : ∀ {L M : List KC}, SortK L → SortK M → (∀ k, getK L k = getK M k) → L = M
  | [], [], _, _, _ => rfl
  | [], y :: M, _, _, h => by have := h y.1; rw [getK_nil, getK_cons, if_pos rfl] at this; cases this
  | x :: L, [], _, _, h => by have := h x.1; rw [getK_nil, getK_cons, if_pos rfl] at this; cases this
  | x :: L, y :: M, hL, hM, h => by
    obtain ⟨h1, h2⟩ := List.pairwise_cons.1 hL
    obtain ⟨h3, h4⟩ := List.pairwise_cons.1 hM
    have key : x.1 = y.1 := by
      cases hlt : lexB x.1 y.1
      · cases hgt : lexB y.1 x.1
        · rcases (inferInstance : Decidable (x.1 = y.1)) with hne | he
          · have := lex_total hne hlt; rw [hgt] at this; cases this
          · exact he
        · have := h y.1
          rw [getK_cons, getK_cons, if_pos rfl, if_neg (fun e => by rw [e, lex_irrefl] at hgt; cases hgt)] at this
          have := h1 _ (getK_mem this)
          simp only at this
          rw [lex_asymm hgt] at this; cases this
      · have := h x.1
        rw [getK_cons, getK_cons, if_pos rfl, if_neg (fun e => by rw [e, lex_irrefl] at hlt; cases hlt)] at this
        have := h3 _ (getK_mem this.symm)
        simp only at this
        rw [lex_asymm hlt] at this; cases this
    have val : x.2 = y.2 := by
      have := h x.1
      rw [getK_cons, getK_cons, if_pos rfl, if_pos key.symm] at this
      exact Option.some.inj this
    have hxy : x = y := Prod.ext key val
    subst hxy
    congr 1
    refine sortK_ext h2 h4 fun k => ?_
    have hk := h k
    rw [getK_cons, getK_cons] at hk
    by_cases e : x.1 = k
    · have a1 : getK L k = none := getK_none.2 (fun z hz he => lex_ne (h1 z hz) (e.trans he.symm))
      have a2 : getK M k = none := getK_none.2 (fun z hz he => lex_ne (h3 z hz) (e.trans he.symm))
      rw [a1, a2]
    · rw [if_neg e, if_neg e] at hk
      exact hk
theorem setK_len {k : List Int} {c : CellM} : ∀ {L : List KC}, SortK L → (setK k c L).length = if (getK L k).isSome then L.length else L.length + 1
  | [], _ => rfl
  | x :: L, h => by
    obtain ⟨h1, h2⟩ := List.pairwise_cons.1 h
    unfold setK
    rw [getK_cons]
    by_cases he : x.1 = k
    · rw [if_pos he, if_pos he]; rfl
    · rw [if_neg he, if_neg he]
      by_cases hl : lexB k x.1 = true
      · rw [if_pos hl]
        have : getK L k = none := getK_none.2 (fun y hy e => by
          have := lex_trans hl (h1 y hy)
          rw [e, lex_irrefl] at this; cases this)
        rw [this]; simp
      · rw [if_neg hl, List.length_cons, setK_len h2, List.length_cons]
        split <;> rfl
/-! ### The reference's way to store -/
/-! ### As a loop tells it -/
theorem take_succ_same {k : Nat} {a b : List Int} (h1 : k < a.length) (h2 : k < b.length) (h : a.take k = b.take k) (he : a.getD k 0 = b.getD k 0) : a.take (k + 1) = b.take (k + 1) := by
  rw [List.take_succ_eq_append_getElem h1, List.take_succ_eq_append_getElem h2, h]
  simp only [List.getD_eq_getElem?_getD, List.getElem?_eq_getElem h1, List.getElem?_eq_getElem h2, Option.getD_some] at he
  rw [he]
/-- Is a list a key? -/
def okK (W : Nat) (k : List Int) : Prop := k.length = W ∧ ∀ x ∈ k, 0 ≤ x ∧ x ≤ 40
instance (W : Nat) (k : List Int) : Decidable (okK W k) := by unfold okK; infer_instance
def okB (W : Nat) (k : List Int) : Bool := decide (okK W k)
/-! ### A cell is added -/
def addK (W M : Nat) (L : List KC) (k : List Int) (c : CellM) : List KC × Int :=
  if okB W k = false ∨ mayC c = false ∨ c.n = 0 ∨ c.s.length ≠ M then (L, 1) else
  match getK L k with
  | none => (setK k c L, 0)
  | some y => if (mergeC y c).2 = 0 then (setK k (mergeC y c).1 L, 0) else (L, (mergeC y c).2)
/-- What is kept of a cuboid's list. -/
structure OkL (W M : Nat) (L : List KC) : Prop where
  sort : SortK L
  key : ∀ x ∈ L, okK W x.1
  may : ∀ x ∈ L, MayP x.2
  full : ∀ x ∈ L, x.2.n ≠ 0
  len : ∀ x ∈ L, x.2.s.length = M
theorem OkL.nil_ (W M : Nat) : OkL W M [] := ⟨List.Pairwise.nil, (fun _ h => (by cases h)), (fun _ h => (by cases h)), (fun _ h => (by cases h)), (fun _ h => (by cases h))⟩
theorem OkL.set {W M : Nat} {L : List KC} (h : OkL W M L) {k : List Int} {c : CellM} (h1 : okK W k) (h2 : MayP c) (h3 : c.n ≠ 0) (h4 : c.s.length = M) : OkL W M (setK k c L) := by
  have q : ∀ {p : KC → Prop}, (∀ x ∈ L, p x) → p (k, c) → ∀ x ∈ setK k c L, p x := fun ha hb x hx => by
    rcases setK_mem hx with rfl | hx
    · exact hb
    · exact ha x hx
  exact ⟨sortK_set h.sort k c, q (p := fun x => okK W x.1) h.key h1, q (p := fun x => MayP x.2) h.may h2, q (p := fun x => x.2.n ≠ 0) h.full h3, q (p := fun x => x.2.s.length = M) h.len h4⟩
theorem merge_ok {M : Nat} {a b : CellM} (ha : MayP a) (hb : MayP b) (ha0 : a.n ≠ 0) (hb0 : b.n ≠ 0) (hal : a.s.length = M) (h : (mergeC a b).2 = 0) : MayP (mergeC a b).1 ∧ (mergeC a b).1.n ≠ 0 ∧ (mergeC a b).1.s.length = M := by
  unfold mergeC at h ⊢
  by_cases h1 : mayC a = false ∨ mayC b = false ∨ a.s.length ≠ b.s.length
  · rw [if_pos h1] at h; cases h
  · rw [if_neg h1] at h ⊢
    rw [if_neg ha0, if_neg hb0] at h ⊢
    by_cases h2 : mayC (sumOf a b) = true
    · rw [if_pos h2]
      have hm := mayC_iff.1 h2
      have hbl : a.s.length = b.s.length := Decidable.byContradiction (fun e => h1 (.inr (.inr e)))
      refine ⟨hm, ?_, by simp [sumOf]; omega⟩
      have := (may_full ha ha0).1; have := (may_full hb hb0).1
      show a.n + b.n ≠ 0
      omega
    · rw [if_neg h2] at h; cases h
theorem addK_ok {W M : Nat} {L : List KC} (h : OkL W M L) (k : List Int) (c : CellM) : OkL W M (addK W M L k c).1 := by
  unfold addK
  by_cases h1 : okB W k = false ∨ mayC c = false ∨ c.n = 0 ∨ c.s.length ≠ M
  · rw [if_pos h1]; exact h
  · rw [if_neg h1]
    have hk : okK W k := Decidable.byContradiction (fun e => h1 (.inl (decide_eq_false e)))
    have hm : MayP c := by
      cases hm : mayC c
      · exact absurd (.inr (.inl hm)) h1
      · exact mayC_iff.1 hm
    have hn : c.n ≠ 0 := fun e => h1 (.inr (.inr (.inl e)))
    have hl : c.s.length = M := Decidable.byContradiction (fun e => h1 (.inr (.inr (.inr e))))
    cases hg : getK L k with
    | none => exact h.set hk hm hn hl
    | some y =>
      have hy := getK_mem hg
      simp only
      by_cases h2 : (mergeC y c).2 = 0
      · rw [if_pos h2]
        obtain ⟨a1, a2, a3⟩ := merge_ok (h.may _ hy) hm (h.full _ hy) hn (h.len _ hy) h2
        exact h.set hk a1 a2 a3
      · rw [if_neg h2]; exact h
theorem addK_len {W M : Nat} {L : List KC} (h : OkL W M L) (k : List Int) (c : CellM) : (addK W M L k c).1.length ≤ L.length + 1 := by
  have q : ∀ d, (setK k d L).length ≤ L.length + 1 := fun d => by rw [setK_len h.sort]; split <;> omega
  unfold addK
  split
  · exact Nat.le_succ _
  · split
    · exact q _
    · split
      · exact q _
      · exact Nat.le_succ _
/-- The ways of adding. -/
theorem add_ways (W M : Nat) (L : List KC) (k : List Int) (c : CellM) :
    (addK W M L k c = (L, 1) ∧ (okB W k = false ∨ (okB W k = true ∧ mayC c = false) ∨ (okB W k = true ∧ mayC c = true ∧ (c.n == 0) = true) ∨ (okB W k = true ∧ mayC c = true ∧ (c.n == 0) = false ∧ c.s.length ≠ M))) ∨
    (okB W k = true ∧ mayC c = true ∧ (c.n == 0) = false ∧ c.s.length = M ∧ ((getK L k = none ∧ addK W M L k c = (setK k c L, 0)) ∨
      (∃ y, getK L k = some y ∧ (((mergeC y c).2 = 0 ∧ addK W M L k c = (setK k (mergeC y c).1 L, 0)) ∨ ((mergeC y c).2 ≠ 0 ∧ addK W M L k c = (L, (mergeC y c).2)))))) := by
  unfold addK
  cases h1 : okB W k
  · exact .inl ⟨by simp, .inl rfl⟩
  cases h2 : mayC c
  · exact .inl ⟨by simp, .inr (.inl ⟨rfl, rfl⟩)⟩
  by_cases h3 : c.n = 0
  · exact .inl ⟨by simp [h3], .inr (.inr (.inl ⟨rfl, rfl, by simp [h3]⟩))⟩
  by_cases h4 : c.s.length = M
  · refine .inr ⟨rfl, rfl, by simpa using h3, h4, ?_⟩
    rw [if_neg (by simp [h3, h4])]
    cases hg : getK L k with
    | none => exact .inl ⟨rfl, rfl⟩
    | some y =>
      refine .inr ⟨y, rfl, ?_⟩
      by_cases h5 : (mergeC y c).2 = 0
      · exact .inl ⟨h5, by simp only [h5, if_pos]⟩
      · exact .inr ⟨h5, by simp only [h5, if_neg, not_false_eq_true]⟩
  · exact .inl ⟨by simp [h4], .inr (.inr (.inr ⟨rfl, rfl, by simpa using h3, h4⟩))⟩
end Go.Proofs.YtgoapnkdcfcjgaaGreat
