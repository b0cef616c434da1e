/- 4 texts of this claim, in build order. -/
import Derived.Test.YtgoapnkdcfcjgaaGreatPkkdpconn
import Derived.Lib.SmallJoins
import Derived.Test.YtgoapnkdcfcjgaaGreatPfhgfjgme
import Derived.Deep.Slices
import Derived.Deep.Fields
import Derived.ChangeSame
set_option linter.unusedVariables false
set_option linter.unusedSimpArgs false
namespace Go.Proofs.YtgoapnkdcfcjgaaGreat
open Go.ChangeShapes Go.WideShapes Go.ChangeAt Go.RowKit Go.WideMaps Go.WideElems Go.Joins
open Go.ChangeMaps (open_string shut_string)
theorem own : ownKnob Tryz.prog.godebug = none := by kernel_rfl
theorem zjf : laidOutB Tryz.prog = true := by kernel_rfl
section
variable {H : Type} {enc : TypeId × Value -> H} {P : Program}
theorem zdE (hl : laidOutB P = true) {W W' : World} {sp : Nat -> Bool} (hb : Below W.heap.size W W') : ∀ {ts : List TypeId} {vs : List Value} {ds : List (DataW H)} {ps : List MemPlace},
  (ts.all fun t => P.readableRec t && decide (t < P.types.size)) = true -> DataW.TrodAll enc P W 0 (fun _ => true) true ts vs ds ps -> (∀ x ∈ ps, x.block < W.heap.size) -> (∀ x ∈ ps, sp x.block = true) ->
  DataW.TrodAll enc P W' 0 sp true ts vs ds ps
 | [], _, _, _, _, h, _, _ => by
   obtain ⟨rfl, rfl, rfl⟩ := trodAll_nil h
   exact trodAll_mk0
 | t :: ts, _, _, _, hr, h, hlt, hs => by
   obtain ⟨v, vs', d, ds', p, q, rfl, rfl, rfl, h0, h1⟩ := trodAll_cons h
   simp only [List.all_cons, Bool.and_eq_true, decide_eq_true_eq] at hr
   exact trodAll_cons_mk (Trod_stays hl hr.1.1 hr.1.2 h0 (fun x hx => hb.same (hlt x (by simp [hx]))) (fun x hx => hs x (by simp [hx])))
    (zdE hl hb hr.2 h1 (fun x hx => hlt x (by simp [hx])) (fun x hx => hs x (by simp [hx])))
theorem zhp {f : Func} {s : ChangeSpec} {apart fresh handsOn again : Bool} {W W' : World} {args : Array Value} {v : Value} {ds gs : List (DataW H)} {before pa pv : List MemPlace}
  (hW : DataW.Whole enc P f.params.toList s.vars apart W args.toList ds gs before)
  (hres : ∀ (b : Nat) (sp : Nat -> Bool) (hd : Bool), DataW.TrodAll enc P W' b sp hd f.resultTypes.toList (v.resultList f.resultTypes.size) (s.fn H (ds ++ gs)).results [])
  (hargs : ∀ sp : Nat -> Bool, (∀ p ∈ before, sp p.block = true) -> DataW.TrodAll enc P W' 0 sp true f.params.toList args.toList (s.fn H (ds ++ gs)).args pa)
  (hvars : ∀ sp : Nat -> Bool, (∀ p ∈ before, sp p.block = true) -> DataW.TrodVars enc P W' sp s.vars (s.fn H (ds ++ gs)).vars pv)
  (hps : before = pa ++ pv) (hb : Below W.heap.size W W')
  (hok : ∀ (j : Nat) (t : TypeId) (r : Value), f.resultTypes[j]? = some t -> (v.resultList f.resultTypes.size)[j]? = some r -> Value.okWide P W' .any 0 t r) :
  s.post enc P f apart fresh handsOn again W args v W' := by
 have hlt : ∀ p ∈ before, p.block < W.heap.size := fun p hp => hW.lt p hp
 have hold : ∀ p ∈ before, (fun b => decide (b < W.heap.size)) p.block = true := fun p hp => by simpa using hlt p hp
 refine ⟨ds, gs, before, [], pa, pv, hW, hres _ _ _, hargs _ hold, hvars _ hold, World.keptBut_mono (fun p hp => ⟨hp, ?_⟩) (hb.frame (· ∈ before)), fun _ => ?_⟩
 ·rw [hps, List.mem_append] at hp
  exact Or.inr hp
 ·obtain ⟨_, _, _, _, _, hz, hn⟩ := hW
  refine ⟨hok, _, _, ([] ++ pa) ++ pv, ⟨[] ++ pa, pv, trodAll_append (hargs _ (fun _ _ => rfl)) (hres _ _ _), hvars _ (fun _ _ => rfl), rfl, ?_, ?_⟩, ?_⟩
  ·intro b off hp
   have hin : MemPlace.cell b off ∈ before := by rw [hps]; simpa using hp
   rw [hb.frozen (hlt _ hin)]
   exact hz b off hin
  ·intro ha
   have := hn ha
   rw [hps] at this
   simpa using this
  ·intro p hp _
   rw [hps]
   simpa using hp
theorem ziB {w : World} {a : Addr} {v : Value} (h : w.cell? a = some v) : a = ⟨a.block, a.off, none⟩ := by
 obtain ⟨b, o, s⟩ := a
 cases s with
 | none => rfl
 | some s => simp [World.cell?] at h; split at h <;> simp_all
theorem zqb (b o i : Nat) : (⟨b, o, none⟩ : Addr).add i = ⟨b, o + i, none⟩ := by unfold Addr.add; split <;> simp_all
end
end Go.Proofs.YtgoapnkdcfcjgaaGreat
namespace Go.Proofs.YtgoapnkdcfcjgaaGreat
def zaI (l : List zp) : List zp := l.filter fun c => c.n != 0
def cntL (l : List zp) : Int := (l.map zp.n).sum
def sCol (l : List zp) (i : Nat) : List Int := l.map fun c => c.s.getD i 0
def zbO (l : List zp) (i : Nat) : List Int := l.map fun c => c.lo.getD i 0
def zbM (l : List zp) (i : Nat) : List Int := l.map fun c => c.hi.getD i 0
def zJ (m : Nat) (l : List zp) : zp := ⟨cntL l, (List.range m).map fun i => (sCol l i).sum, (List.range m).map fun i => minL (zbO l i), (List.range m).map fun i => maxL (zbM l i)⟩
def argB (m : Nat) (c : zp) : Bool := mayC c && decide (c.s.length = m)
def sumC (l : List zp) : zp × Int :=
 if l = [] then (nilC, 1) else if l.all (argB (l.headD nilC).s.length) = false then (nilC, 1) else
 if zaI l = [] then (zz (l.headD nilC).s.length, 0) else
 if CNT < cntL (zaI l) then (nilC, 14) else
 if (List.range (l.headD nilC).s.length).all (fun i => inB (sCol (zaI l) i).sum SUM) = false then (nilC, 14) else (zJ (l.headD nilC).s.length (zaI l), 0)
structure zoI (m : Nat) (l : List zp) : Prop where
 may : ∀ c ∈ l, MayP c
 len : ∀ c ∈ l, c.s.length = m
theorem zpr {m : Nat} {l : List zp} (h : l.all (argB m) = true) : zoI m l := by
 rw [List.all_eq_true] at h
 refine ⟨fun c hc => ?_, fun c hc => ?_⟩
 ·have := h c hc
  unfold argB at this
  rw [Bool.and_eq_true] at this
  exact zaO.1 this.1
 ·have := h c hc
  unfold argB at this
  rw [Bool.and_eq_true] at this
  exact of_decide_eq_true this.2
theorem ziA {l : List zp} {c : zp} : c ∈ zaI l ↔ c ∈ l /\ c.n ≠ 0 := by unfold zaI; simp
theorem zog (l : List zp) (c : zp) : cntL (l ++ [c]) = cntL l + c.n := by unfold cntL; simp
theorem zkh {l : List zp} (h : ∀ c ∈ l, 1 <= c.n) : (l.length : Int) <= cntL l := by
 induction l with
 | nil => simp [cntL]
 | cons c l ih =>
   have h1 := h c List.mem_cons_self
   have h2 := ih (fun d hd => h d (List.mem_cons_of_mem _ hd))
   unfold cntL at *
   simp only [List.map_cons, List.sum_cons, List.length_cons]
   omega
theorem zje (l k : List zp) : cntL (l ++ k) = cntL l + cntL k := by unfold cntL; simp
theorem ziD {l : List zp} (h : ∀ c ∈ l, 1 <= c.n) (k : Nat) : cntL (l.take k) <= cntL l := by
 have e : l = l.take k ++ l.drop k := (List.take_append_drop k l).symm
 have h2 := zkh (l := l.drop k) (fun c hc => h c (List.mem_of_mem_drop hc))
 have h3 := zje (l.take k) (l.drop k)
 rw [<- e] at h3
 omega
theorem full_p {m : Nat} {l : List zp} (h : zoI m l) : ∀ c ∈ zaI l, (1 <= c.n /\ c.n <= CNT) /\ c.s.length = m /\ c.lo.length = m /\ c.hi.length = m /\ ∀ i, i < m -> c.col i := by
 intro c hc
 obtain ⟨h1, h2⟩ := ziA.1 hc
 have hm := h.may c h1
 have hl := h.len c h1
 obtain ⟨a, b⟩ := zeR hm h2
 exact ⟨a, hl, hm.1.2.1.trans hl, hm.1.2.2.trans hl, fun i hi => b i (by omega)⟩
theorem znX {m : Nat} {l : List zp} (h : zoI m l) (hf : zaI l = []) : ∀ c ∈ l, c = zz m := by
 intro c hc
 have h0 : c.n = 0 := by
  rcases Int.decEq c.n 0 with h1 | h1
  ·have := ziA.2 ⟨hc, h1⟩
   rw [hf] at this
   cases this
  ·exact h1
 rw [zpl (h.may c hc) h0, h.len c hc]
theorem zpz : sumC [] = (nilC, 1) := by unfold sumC; simp
theorem zpY {l : List zp} {k : Nat} (hk : k < l.length) (h : argB (l.headD nilC).s.length (l.getD k nilC) = false) : sumC l = (nilC, 1) := by
 have h0 : l ≠ [] := by intro e; subst e; simp at hk
 have h1 : l.all (argB (l.headD nilC).s.length) = false := by
  rw [List.all_eq_false]
  refine ⟨l[k], List.getElem_mem hk, ?_⟩
  rw [List.getD_eq_getElem?_getD, List.getElem?_eq_getElem hk] at h
  simpa using h
 unfold sumC
 rw [if_neg h0, if_pos h1]
theorem zmj {l : List zp} (h0 : l ≠ []) (h1 : l.all (argB (l.headD nilC).s.length) = true) (h2 : zaI l = []) : sumC l = (zz (l.headD nilC).s.length, 0) := by
 unfold sumC
 rw [if_neg h0, if_neg (by rw [h1]; decide), if_pos h2]
theorem zmP {l : List zp} (h0 : l ≠ []) (h1 : l.all (argB (l.headD nilC).s.length) = true) (h2 : zaI l ≠ []) (h3 : CNT < cntL (zaI l)) : sumC l = (nilC, 14) := by
 unfold sumC
 rw [if_neg h0, if_neg (by rw [h1]; decide), if_neg h2, if_pos h3]
theorem zoW {l : List zp} (h0 : l ≠ []) (h1 : l.all (argB (l.headD nilC).s.length) = true) (h2 : zaI l ≠ []) {i : Nat} (hi : i < (l.headD nilC).s.length) (h3 : inB (sCol (zaI l) i).sum SUM = false) : sumC l = (nilC, 14) := by
 unfold sumC
 rw [if_neg h0, if_neg (by rw [h1]; decide), if_neg h2]
 split
 ·rfl
 ·rw [if_pos]
  rw [List.all_eq_false]
  exact ⟨i, List.mem_range.2 hi, by simp [h3]⟩
theorem zoQ {l : List zp} (h0 : l ≠ []) (h1 : l.all (argB (l.headD nilC).s.length) = true) (h2 : zaI l ≠ []) (h3 : cntL (zaI l) <= CNT) (h4 : ∀ i, i < (l.headD nilC).s.length -> inB (sCol (zaI l) i).sum SUM = true) : sumC l = (zJ (l.headD nilC).s.length (zaI l), 0) := by
 unfold sumC
 rw [if_neg h0, if_neg (by rw [h1]; decide), if_neg h2, if_neg (by omega), if_neg]
 rw [Bool.not_eq_false, List.all_eq_true]
 exact fun i hi => h4 i (List.mem_range.1 hi)
def lexB : List Int -> List Int -> Bool
 | [], [] => false
 | [], _ :: _ => true
 | _ :: _, [] => false
 | a :: aa, b :: bs => if a = b then lexB aa bs else decide (a < b)
theorem za6 : ∀ a : List Int, lexB a a = false
 | [] => rfl
 | a :: aa => by unfold lexB; rw [if_pos rfl]; exact za6 aa
theorem zbN : ∀ {a b c : List Int}, lexB a b = true -> lexB b c = true -> lexB a c = true
 | [], [], _, h, _ => by cases h
 | [], _ :: _, [], _, h => by cases h
 | [], _ :: _, _ :: _, _, _ => rfl
 | _ :: _, [], _, h, _ => by cases h
 | _ :: _, _ :: _, [], _, h => by cases h
 | a :: aa, b :: bs, c :: cs, h, k => by
   unfold lexB at h k ⊢
   by_cases h1 : a = b
   ·rw [if_pos h1] at h
    by_cases h2 : b = c
    ·rw [if_pos h2] at k; rw [if_pos (h1.trans h2)]; exact zbN h k
    ·rw [if_neg h2] at k; rw [if_neg (by omega), h1]; exact k
   ·rw [if_neg h1] at h
    by_cases h2 : b = c
    ·rw [if_neg (by omega), <- h2]; exact h
    ·rw [if_neg h2] at k
     rw [decide_eq_true_eq] at h k
     rw [if_neg (by omega), decide_eq_true_eq]
     omega
theorem zca : ∀ {a b : List Int}, a ≠ b -> lexB a b = false -> lexB b a = true
 | [], [], h, _ => absurd rfl h
 | [], _ :: _, _, h => by cases h
 | _ :: _, [], _, _ => rfl
 | a :: aa, b :: bs, hne, h => by
   unfold lexB at h ⊢
   by_cases h1 : a = b
   ·rw [if_pos h1] at h
    rw [if_pos h1.symm]
    exact zca (fun e => hne (by rw [h1, e])) h
   ·rw [if_neg h1] at h
    rw [if_neg (by omega)]
    rw [decide_eq_false_iff_not] at h
    rw [decide_eq_true_eq]
    omega
theorem zfa {a b : List Int} (h : lexB a b = true) : lexB b a = false := by
 cases hb : lexB b a
 ·rfl
 ·have := zbN h hb
  rw [za6] at this
  cases this
theorem zkc {a b : List Int} (h : lexB a b = true) : a ≠ b := fun e => by rw [e, za6] at h; cases h
abbrev KC := List Int × zp
def ze5 (L : List KC) : Prop := L.Pairwise fun x y => lexB x.1 y.1 = true
def getK (L : List KC) (k : List Int) : Option zp := (L.find? fun x => decide (x.1 = k)).map Prod.snd
def setK (k : List Int) (c : zp) : List KC -> List KC
 | [] => [(k, c)]
 | x :: L => if x.1 = k then (k, c) :: L else if lexB k x.1 = true then (k, c) :: x :: L else x :: setK k c L
theorem zgY (k : List Int) : getK [] k = none := rfl
theorem zai (x : KC) (L : List KC) (k : List Int) : getK (x :: L) k = if x.1 = k then some x.2 else getK L k := by
 unfold getK
 rw [List.find?_cons]
 by_cases h : x.1 = k <;> simp [h]
theorem zbH {L : List KC} {k : List Int} : getK L k = none ↔ ∀ x ∈ L, x.1 ≠ k := by
 unfold getK
 rw [Option.map_eq_none_iff, List.find?_eq_none]
 constructor
 ·intro h x hx e; exact h x hx (by simpa using e)
 ·intro h x hx e; exact h x hx (by simpa using e)
theorem zbh {L : List KC} {k : List Int} {c : zp} (h : getK L k = some c) : (k, c) ∈ L := by
 unfold getK at h
 rw [Option.map_eq_some_iff] at h
 obtain ⟨x, hx, rfl⟩ := h
 have h1 := List.find?_some hx
 have h2 := List.mem_of_find?_eq_some hx
 have : x.1 = k := by simpa using h1
 rw [<- this]
 exact h2
theorem zba {L : List KC} (hs : ze5 L) {x : KC} (hx : x ∈ L) : getK L x.1 = some x.2 := by
 induction L with
 | nil => cases hx
 | cons y L ih =>
   rw [zai]
   obtain ⟨h1, h2⟩ := List.pairwise_cons.1 hs
   rcases List.mem_cons.1 hx with rfl | hx
   ·rw [if_pos rfl]
   ·rw [if_neg (zkc (h1 x hx))]
    exact ih h2 hx
theorem zeK {k : List Int} {c : zp} : ∀ {L : List KC} {y : KC}, y ∈ setK k c L -> y = (k, c) \/ y ∈ L
 | [], y, h => by simp [setK] at h; exact .inl h
 | x :: L, y, h => by
   unfold setK at h
   split at h
   ·rcases List.mem_cons.1 h with h | h
    ·exact .inl h
    ·exact .inr (List.mem_cons_of_mem _ h)
   ·split at h
    ·rcases List.mem_cons.1 h with h | h
     ·exact .inl h
     ·exact .inr h
    ·rcases List.mem_cons.1 h with h | h
     ·exact .inr (h ▸ List.mem_cons_self)
     ·exact (zeK h).imp id (List.mem_cons_of_mem _)
theorem zii {L : List KC} (h : ze5 L) (k : List Int) (c : zp) : ze5 (setK k c L) := by
 induction L with
 | nil => exact List.pairwise_singleton _ _
 | cons x L ih =>
   obtain ⟨h1, h2⟩ := List.pairwise_cons.1 h
   unfold setK
   split
   ·rename_i he
    exact List.pairwise_cons.2 ⟨fun y hy => by rw [<- he]; exact h1 y hy, h2⟩
   ·rename_i he
    split
    ·rename_i hl
     refine List.pairwise_cons.2 ⟨fun y hy => ?_, h⟩
     rcases List.mem_cons.1 hy with rfl | hy
     ·exact hl
     ·exact zbN hl (h1 y hy)
    ·rename_i hl
     refine List.pairwise_cons.2 ⟨fun y hy => ?_, ih h2⟩
     rcases zeK hy with rfl | hy
     ·exact zca (fun e => he e.symm) (by simpa using hl)
     ·exact h1 y hy
theorem zbX {L : List KC} (h : ze5 L) (k : List Int) (c : zp) (k' : List Int) : getK (setK k c L) k' = if k = k' then some c else getK L k' := by
 induction L with
 | nil => unfold setK; rw [zai]
 | cons x L ih =>
   obtain ⟨h1, h2⟩ := List.pairwise_cons.1 h
   unfold setK
   split
   ·rename_i he
    rw [zai, zai]
    by_cases hk : k = k'
    ·rw [if_pos hk, if_pos hk]
    ·rw [if_neg hk, if_neg hk, if_neg (by rw [he]; exact hk)]
   ·rename_i he
    split
    ·rw [zai]
    ·rename_i hl
     rw [zai, zai, ih h2]
     by_cases hx : x.1 = k'
     ·rw [if_pos hx, if_pos hx, if_neg (fun e => he (hx.trans e.symm))]
     ·rw [if_neg hx, if_neg hx]
theorem zhS : ∀ {L M : List KC}, ze5 L -> ze5 M -> (∀ k, getK L k = getK M k) -> L = M
 | [], [], _, _, _ => rfl
 | [], y :: M, _, _, h => by have := h y.1; rw [zgY, zai, if_pos rfl] at this; cases this
 | x :: L, [], _, _, h => by have := h x.1; rw [zgY, zai, if_pos rfl] at this; cases this
 | x :: L, y :: M, hL, hM, h => by
   obtain ⟨h1, h2⟩ := List.pairwise_cons.1 hL
   obtain ⟨h3, h4⟩ := List.pairwise_cons.1 hM
   have key : x.1 = y.1 := by
    cases hlt : lexB x.1 y.1
    ·cases hgt : lexB y.1 x.1
     ·rcases (inferInstance : Decidable (x.1 = y.1)) with hne | he
      ·have := zca hne hlt; rw [hgt] at this; cases this
      ·exact he
     ·have := h y.1
      rw [zai, zai, if_pos rfl, if_neg (fun e => by rw [e, za6] at hgt; cases hgt)] at this
      have := h1 _ (zbh this)
      simp only at this
      rw [zfa hgt] at this; cases this
    ·have := h x.1
     rw [zai, zai, if_pos rfl, if_neg (fun e => by rw [e, za6] at hlt; cases hlt)] at this
     have := h3 _ (zbh this.symm)
     simp only at this
     rw [zfa hlt] at this; cases this
   have val : x.2 = y.2 := by
    have := h x.1
    rw [zai, zai, if_pos rfl, if_pos key.symm] at this
    exact Option.some.inj this
   have hxy : x = y := Prod.ext key val
   subst hxy
   congr 1
   refine zhS h2 h4 fun k => ?_
   have hk := h k
   rw [zai, zai] at hk
   by_cases e : x.1 = k
   ·have a1 : getK L k = none := zbH.2 (fun z hz he => zkc (h1 z hz) (e.trans he.symm))
    have a2 : getK M k = none := zbH.2 (fun z hz he => zkc (h3 z hz) (e.trans he.symm))
    rw [a1, a2]
   ·rw [if_neg e, if_neg e] at hk
    exact hk
theorem zeM {k : List Int} {c : zp} : ∀ {L : List KC}, ze5 L -> (setK k c L).length = if (getK L k).isSome then L.length else L.length + 1
 | [], _ => rfl
 | x :: L, h => by
   obtain ⟨h1, h2⟩ := List.pairwise_cons.1 h
   unfold setK
   rw [zai]
   by_cases he : x.1 = k
   ·rw [if_pos he, if_pos he]; rfl
   ·rw [if_neg he, if_neg he]
    by_cases hl : lexB k x.1 = true
    ·rw [if_pos hl]
     have : getK L k = none := zbH.2 (fun y hy e => by
      have := zbN hl (h1 y hy)
      rw [e, za6] at this; cases this)
     rw [this]; simp
    ·rw [if_neg hl, List.length_cons, zeM h2, List.length_cons]
     split <;> rfl
theorem zf5 {k : Nat} {a b : List Int} (h1 : k < a.length) (h2 : k < b.length) (h : a.take k = b.take k) (he : a.getD k 0 = b.getD k 0) : a.take (k + 1) = b.take (k + 1) := by
 rw [List.take_succ_eq_append_getElem h1, List.take_succ_eq_append_getElem h2, h]
 simp only [List.getD_eq_getElem?_getD, List.getElem?_eq_getElem h1, List.getElem?_eq_getElem h2, Option.getD_some] at he
 rw [he]
def okK (W : Nat) (k : List Int) : Prop := k.length = W /\ ∀ x ∈ k, 0 <= x /\ x <= 40
instance (W : Nat) (k : List Int) : Decidable (okK W k) := by unfold okK; infer_instance
def okB (W : Nat) (k : List Int) : Bool := decide (okK W k)
def addK (W M : Nat) (L : List KC) (k : List Int) (c : zp) : List KC × Int :=
 if okB W k = false \/ mayC c = false \/ c.n = 0 \/ c.s.length ≠ M then (L, 1) else
 match getK L k with
 | none => (setK k c L, 0)
 | some y => if (zbU y c).2 = 0 then (setK k (zbU y c).1 L, 0) else (L, (zbU y c).2)
structure OkL (W M : Nat) (L : List KC) : Prop where
 sort : ze5 L
 key : ∀ x ∈ L, okK W x.1
 may : ∀ x ∈ L, MayP x.2
 full : ∀ x ∈ L, x.2.n ≠ 0
 len : ∀ x ∈ L, x.2.s.length = M
theorem OkL.nil_ (W M : Nat) : OkL W M [] := ⟨List.Pairwise.nil, (fun _ h => (by cases h)), (fun _ h => (by cases h)), (fun _ h => (by cases h)), (fun _ h => (by cases h))⟩
theorem OkL.set {W M : Nat} {L : List KC} (h : OkL W M L) {k : List Int} {c : zp} (h1 : okK W k) (h2 : MayP c) (h3 : c.n ≠ 0) (h4 : c.s.length = M) : OkL W M (setK k c L) := by
 have q : ∀ {p : KC -> Prop}, (∀ x ∈ L, p x) -> p (k, c) -> ∀ x ∈ setK k c L, p x := fun ha hb x hx => by
  rcases zeK hx with rfl | hx
  ·exact hb
  ·exact ha x hx
 exact ⟨zii h.sort k c, q (p := fun x => okK W x.1) h.key h1, q (p := fun x => MayP x.2) h.may h2, q (p := fun x => x.2.n ≠ 0) h.full h3, q (p := fun x => x.2.s.length = M) h.len h4⟩
theorem zoJ {M : Nat} {a b : zp} (ha : MayP a) (hb : MayP b) (ha0 : a.n ≠ 0) (hb0 : b.n ≠ 0) (hal : a.s.length = M) (h : (zbU a b).2 = 0) : MayP (zbU a b).1 /\ (zbU a b).1.n ≠ 0 /\ (zbU a b).1.s.length = M := by
 unfold zbU at h ⊢
 by_cases h1 : mayC a = false \/ mayC b = false \/ a.s.length ≠ b.s.length
 ·rw [if_pos h1] at h; cases h
 ·rw [if_neg h1] at h ⊢
  rw [if_neg ha0, if_neg hb0] at h ⊢
  by_cases h2 : mayC (zoP a b) = true
  ·rw [if_pos h2]
   have hm := zaO.1 h2
   have hbl : a.s.length = b.s.length := Decidable.byContradiction (fun e => h1 (.inr (.inr e)))
   refine ⟨hm, ?_, by simp [zoP]; omega⟩
   have := (zeR ha ha0).1; have := (zeR hb hb0).1
   show a.n + b.n ≠ 0
   omega
  ·rw [if_neg h2] at h; cases h
theorem znn {W M : Nat} {L : List KC} (h : OkL W M L) (k : List Int) (c : zp) : OkL W M (addK W M L k c).1 := by
 unfold addK
 by_cases h1 : okB W k = false \/ mayC c = false \/ c.n = 0 \/ c.s.length ≠ M
 ·rw [if_pos h1]; exact h
 ·rw [if_neg h1]
  have hk : okK W k := Decidable.byContradiction (fun e => h1 (.inl (decide_eq_false e)))
  have hm : MayP c := by
   cases hm : mayC c
   ·exact absurd (.inr (.inl hm)) h1
   ·exact zaO.1 hm
  have hn : c.n ≠ 0 := fun e => h1 (.inr (.inr (.inl e)))
  have hl : c.s.length = M := Decidable.byContradiction (fun e => h1 (.inr (.inr (.inr e))))
  cases hg : getK L k with
  | none => exact h.set hk hm hn hl
  | some y =>
    have hy := zbh hg
    simp only
    by_cases h2 : (zbU y c).2 = 0
    ·rw [if_pos h2]
     obtain ⟨a1, a2, a3⟩ := zoJ (h.may _ hy) hm (h.full _ hy) hn (h.len _ hy) h2
     exact h.set hk a1 a2 a3
    ·rw [if_neg h2]; exact h
theorem zke {W M : Nat} {L : List KC} (h : OkL W M L) (k : List Int) (c : zp) : (addK W M L k c).1.length <= L.length + 1 := by
 have q : ∀ d, (setK k d L).length <= L.length + 1 := fun d => by rw [zeM h.sort]; split <;> omega
 unfold addK
 split
 ·exact Nat.le_succ _
 ·split
  ·exact q _
  ·split
   ·exact q _
   ·exact Nat.le_succ _
theorem zkj (W M : Nat) (L : List KC) (k : List Int) (c : zp) :
  (addK W M L k c = (L, 1) /\ (okB W k = false \/ (okB W k = true /\ mayC c = false) \/ (okB W k = true /\ mayC c = true /\ (c.n == 0) = true) \/ (okB W k = true /\ mayC c = true /\ (c.n == 0) = false /\ c.s.length ≠ M))) \/
  (okB W k = true /\ mayC c = true /\ (c.n == 0) = false /\ c.s.length = M /\ ((getK L k = none /\ addK W M L k c = (setK k c L, 0)) \/
   (∃ y, getK L k = some y /\ (((zbU y c).2 = 0 /\ addK W M L k c = (setK k (zbU y c).1 L, 0)) \/ ((zbU y c).2 ≠ 0 /\ addK W M L k c = (L, (zbU y c).2)))))) := by
 unfold addK
 cases h1 : okB W k
 ·exact .inl ⟨by simp, .inl rfl⟩
 cases h2 : mayC c
 ·exact .inl ⟨by simp, .inr (.inl ⟨rfl, rfl⟩)⟩
 by_cases h3 : c.n = 0
 ·exact .inl ⟨by simp [h3], .inr (.inr (.inl ⟨rfl, rfl, by simp [h3]⟩))⟩
 by_cases h4 : c.s.length = M
 ·refine .inr ⟨rfl, rfl, by simpa using h3, h4, ?_⟩
  rw [if_neg (by simp [h3, h4])]
  cases hg : getK L k with
  | none => exact .inl ⟨rfl, rfl⟩
  | some y =>
    refine .inr ⟨y, rfl, ?_⟩
    by_cases h5 : (zbU y c).2 = 0
    ·exact .inl ⟨h5, by simp only [h5, if_pos]⟩
    ·exact .inr ⟨h5, by simp only [h5, if_neg, not_false_eq_true]⟩
 ·exact .inl ⟨by simp [h4], .inr (.inr (.inr ⟨rfl, rfl, by simpa using h3, h4⟩))⟩
end Go.Proofs.YtgoapnkdcfcjgaaGreat
namespace Go.Proofs.YtgoapnkdcfcjgaaGreat
open Go.ChangeShapes Go.WideShapes Go.ChangeAt Go.RowKit Go.WideMaps Go.WideElems Go.Joins Go.Deep
abbrev Rd (α : Type) := World -> Nat -> List Value -> α -> Prop
structure Good {α : Type} (R : Rd α) : Prop where
 stays : ∀ {w w' : World} {B : Nat} {cs : List Value} {x : α}, R w B cs x -> Below B w w' -> R w' B cs x
 more : ∀ {w : World} {B B' : Nat} {cs : List Value} {x : α}, R w B cs x -> B <= B' -> R w B' cs x
def za4 (n : Int) : Prop := -9223372036854775808 <= n /\ n <= 9223372036854775807
def zcG : Rd Int := fun _ _ cs n => cs = [.int .i64 n] /\ za4 n
def zc7 : Rd ByteArray := fun _ _ cs s => cs = [.string s] /\ s.size <= maxLen
def zj {α : Type} (k : Nat) (R : Rd α) : Rd (List α) := fun w B cs l =>
 ∃ A c, cs = [.slice A l.length c] /\ l.length <= c /\ c <= maxLen /\
  (0 < l.length -> ∃ b off, A = some ⟨b, off, none⟩ /\ b < B /\ ∀ i x, l[i]? = some x -> ∃ es : List Value, es.length = k /\ (∀ j u, es[j]? = some u -> w.cell? ⟨b, off + i * k + j, none⟩ = some u) /\ R w B es x)
def zdQ {α β : Type} (k : Nat) (R : Rd α) (S : Rd β) : Rd (α × β) := fun w B cs x => (cs.take k).length = k /\ R w B (cs.take k) x.1 /\ S w B (cs.drop k) x.2
theorem zcW : Good zcG := ⟨fun h _ => h, fun h _ => h⟩
theorem zdO : Good zc7 := ⟨fun h _ => h, fun h _ => h⟩
theorem zdY {α β : Type} {k : Nat} {R : Rd α} {S : Rd β} (h1 : Good R) (h2 : Good S) : Good (zdQ k R S) :=
 ⟨fun h hb => ⟨h.1, h1.stays h.2.1 hb, h2.stays h.2.2 hb⟩, fun h hb => ⟨h.1, h1.more h.2.1 hb, h2.more h.2.2 hb⟩⟩
theorem zas {α : Type} {k : Nat} {R : Rd α} (h1 : Good R) : Good (zj k R) := by
 constructor
 ·rintro w w' B cs l ⟨A, c, e1, e2, e3, e4⟩ hb
  refine ⟨A, c, e1, e2, e3, fun h0 => ?_⟩
  obtain ⟨b, off, e5, e6, e7⟩ := e4 h0
  refine ⟨b, off, e5, e6, fun i x hx => ?_⟩
  obtain ⟨es, g1, g2, g3⟩ := e7 i x hx
  exact ⟨es, g1, fun j u hj => zc hb e6 (g2 j u hj), h1.stays g3 hb⟩
 ·rintro w B B' cs l ⟨A, c, e1, e2, e3, e4⟩ hb
  refine ⟨A, c, e1, e2, e3, fun h0 => ?_⟩
  obtain ⟨b, off, e5, e6, e7⟩ := e4 h0
  refine ⟨b, off, e5, by omega, fun i x hx => ?_⟩
  obtain ⟨es, g1, g2, g3⟩ := e7 i x hx
  exact ⟨es, g1, g2, h1.more g3 hb⟩
section
variable {P : Program}
def zbR {α : Type} (P : Program) (t : TypeId) (k : Nat) (R : Rd α) : Prop :=
 P.cellsOf t = k /\ ∀ (H : Type) (enc : TypeId × Value -> H) (W : World) (fuel : Nat) (cs : List Value) (x : DataW H × List MemPlace), DataW.trod enc P W 0 (fun _ => true) true fuel t cs = some x -> ∃ d : α, R W W.heap.size cs d
theorem ze7 {t : TypeId} (ht : P.underlying t = some (.int .i64)) (hk : P.cellsOf t = 1) : zbR P t 1 zcG := by
 refine ⟨hk, fun H enc W fuel cs x h => ?_⟩
 obtain ⟨n, e1, -, e2⟩ := DataW.trod_int ht h
 exact ⟨n, e1, bounds_i64 e2⟩
theorem zhP {t : TypeId} (ht : P.underlying t = some .string) (hk : P.cellsOf t = 1) : zbR P t 1 zc7 := by
 refine ⟨hk, fun H enc W fuel cs x h => ?_⟩
 obtain ⟨s, e1, -, e2⟩ := DataW.trod_string ht h
 exact ⟨s, e1, e2⟩
theorem zjk {α : Type} (Q : Nat -> α -> Prop) (n : Nat) (h : ∀ i, i < n -> ∃ x, Q i x) : ∃ l : List α, l.length = n /\ ∀ i x, l[i]? = some x -> Q i x := by
 induction n with
 | zero => exact ⟨[], rfl, by simp⟩
 | succ n ih =>
   obtain ⟨l, e1, e2⟩ := ih (fun i hi => h i (by omega))
   obtain ⟨x, hx⟩ := h n (by omega)
   refine ⟨l ++ [x], by simp [e1], fun i y hy => ?_⟩
   rcases Nat.lt_or_ge i n with hi | hi
   ·rw [List.getElem?_append_left (by omega)] at hy; exact e2 i y hy
   ·rw [List.getElem?_append_right (by omega)] at hy
    have : i - l.length = 0 := by
     rcases Nat.eq_zero_or_pos (i - l.length) with h | h
     ·exact h
     ·rw [List.getElem?_eq_none (by simp; omega)] at hy; cases hy
    rw [this] at hy
    simp at hy
    obtain rfl : i = n := by omega
    exact hy ▸ hx
theorem zaW {α : Type} {k : Nat} {R : Rd α} {t e : TypeId} (hg : Good R) (ht : P.underlying t = some (.slice e)) (he : zbR P e k R) (hk : P.cellsOf t = 1) (hk0 : 0 < k) : zbR P t 1 (zj k R) := by
 refine ⟨hk, fun H enc W fuel cs x h => ?_⟩
 obtain ⟨hke, he⟩ := he
 rcases open_slice ht h with ⟨rfl, _⟩ | ⟨a, len, cap, m, n, D, Pl, rfl, hb, hl, hm, hmm, hx, hi⟩
 ·exact ⟨[], none, 0, rfl, by simp, by simp [maxLen], by simp⟩
 ·simp only [if_true] at hmm
  subst hmm
  rw [hke] at hi
  obtain ⟨l, e1, e2⟩ := zjk (fun i (x : α) => ∃ es : List Value, es.length = k /\ (∀ j u, es[j]? = some u -> W.cell? (a.add (i * k + j)) = some u) /\ R W W.heap.size es x) len (fun i hil => by
   obtain ⟨cs', g1, g2⟩ := hi i (by omega)
   obtain ⟨_, g3, g4⟩ := World.cells?_some g1
   obtain ⟨d, hd⟩ := he _ _ _ _ _ _ g2
   refine ⟨d, cs', g3, fun j u hj => ?_, hd⟩
   have hj' : j < k := by have := (List.getElem?_eq_some_iff.1 hj).1; omega
   rw [<- add_add, g4 j hj', hj])
  refine ⟨l, some a, m, by rw [e1], by omega, hm, fun h0 => ?_⟩
  obtain ⟨es0, q1, q2, q3⟩ := e2 0 (l[0]'h0) (List.getElem?_eq_getElem h0)
  have h00 := q2 0 (es0[0]'(by omega)) (List.getElem?_eq_getElem (by omega))
  simp only [Nat.zero_mul, Nat.zero_add] at h00
  have ha0 : a.add 0 = a := by simp [Addr.add]
  rw [ha0] at h00
  have ha := ziB h00
  refine ⟨a.block, a.off, congrArg some ha, World.block_lt_of_cell? W a h00, fun i x hx => ?_⟩
  obtain ⟨es, q1, q2, q3⟩ := e2 i x hx
  refine ⟨es, q1, fun j u hj => ?_, q3⟩
  have := q2 j u hj
  rw [ha, zqb, <- Nat.add_assoc] at this
  exact this
def zkN {α : Type} (P : Program) (fs : List Field) (o k : Nat) (R : Rd α) : Prop :=
 ∀ (H : Type) (enc : TypeId × Value -> H) (W : World) (n : Nat) (cs : List Value) (xs : List (DataW H × List MemPlace)), xs.length = fs.length ->
  (∀ (i : Nat) (f : Field), fs[i]? = some f -> DataW.trod enc P W 0 (fun _ => true) true n f.type ((cs.drop f.offset).take (P.cellsOf f.type)) = xs[i]?) -> cs.length = o + k -> ∃ d : α, R W W.heap.size (cs.drop o) d
theorem zb9 {α : Type} {f : Field} {o k : Nat} {R : Rd α} (ho : f.offset = o) (h : zbR P f.type k R) : zkN P [f] o k R := by
 intro H enc W n cs xs hl hx hcs
 match xs, hl with
 | [x], _ =>
   have := hx 0 f rfl
   rw [ho, h.1, List.take_of_length_le (by rw [List.length_drop]; omega)] at this
   exact h.2 _ _ _ _ _ _ this
theorem zbb {α β : Type} {f : Field} {fs : List Field} {o k1 k2 : Nat} {R : Rd α} {S : Rd β} (ho : f.offset = o) (h : zbR P f.type k1 R) (hs : zkN P fs (o + k1) k2 S) : zkN P (f :: fs) o (k1 + k2) (zdQ k1 R S) := by
 intro H enc W n cs xs hl hx hcs
 match xs, hl with
 | x :: xs, hl =>
   have h0 := hx 0 f rfl
   rw [ho, h.1] at h0
   obtain ⟨d, hd⟩ := h.2 _ _ _ _ _ _ h0
   obtain ⟨e, he⟩ := hs H enc W n cs xs (by simpa using hl) (fun i g hg => hx (i + 1) g (by simpa using hg)) (by omega)
   refine ⟨(d, e), ?_, hd, ?_⟩
   ·rw [List.length_take, List.length_drop]; omega
   ·rw [List.drop_drop]; exact he
theorem zbw {α : Type} {t : TypeId} {fs : Array Field} {k : Nat} {R : Rd α} (ht : P.underlying t = some (.struct fs)) (hk : P.cellsOf t = k) (h : zkN P fs.toList 0 k R) : zbR P t k R := by
 refine ⟨hk, fun H enc W fuel cs x hx => ?_⟩
 obtain ⟨xs, n, _, _, hc, hl, hf⟩ := DataW.trod_struct ht hx
 have := h H enc W n cs xs (by simpa using hl) (fun i f hi => hf i f (by simpa using hi)) (by omega)
 simpa using this
variable {H : Type} {enc : TypeId × Value -> H}
theorem zfr {α : Type} {k : Nat} {R : Rd α} {W : World} {t e : TypeId} {v : Value} {d : DataW H} {ps : List MemPlace} (ht : P.underlying t = some (.slice e)) (ho : zbR P t 1 (zj k R))
  (hv : Value.okWide P W .any 0 t v) (h : DataW.Trod enc P W 0 (fun _ => true) true t v d ps) : ∃ l : List α, zj k R W W.heap.size [v] l := by
 obtain ⟨a0, len, cap, rfl⟩ := okWide_slice ht hv
 obtain ⟨fuel, hf⟩ := h
 exact ho.2 _ _ _ _ _ _ hf
theorem zcv {α : Type} {k : Nat} {R : Rd α} {W : World} {t : TypeId} {fs : Array Field} {v : Value} {d : DataW H} {ps : List MemPlace} (ht : P.underlying t = some (.struct fs)) (ho : zbR P t k R)
  (hv : Value.okWide P W .any 0 t v) (h : DataW.Trod enc P W 0 (fun _ => true) true t v d ps) : ∃ (cs : Array Value) (x : α), v = .agg cs /\ cs.size = k /\ R W W.heap.size cs.toList x := by
 obtain ⟨cs, rfl, hsz⟩ := okWide_struct ht hv
 obtain ⟨fuel, hf⟩ := h
 obtain ⟨x, hx⟩ := ho.2 _ _ _ _ _ _ hf
 exact ⟨cs, x, rfl, hsz.trans ho.1, hx⟩
end
theorem zj.at_ {α : Type} {k : Nat} {R : Rd α} {w : World} {B n c : Nat} {A : Option Addr} {l : List α} (h : zj k R w B [.slice A n c] l) {i : Nat} (hi : i < l.length) :
  ∃ b off, A = some ⟨b, off, none⟩ /\ b < B /\ ∃ es : List Value, es.length = k /\ (∀ j u, es[j]? = some u -> w.cell? ⟨b, off + i * k + j, none⟩ = some u) /\ R w B es l[i] := by
 obtain ⟨A', c', e1, e2, e3, e4⟩ := h
 injection e1 with e1 _
 injection e1 with e1 _ _
 subst e1
 obtain ⟨b, off, e5, e6, e7⟩ := e4 (by omega)
 obtain ⟨es, g1, g2, g3⟩ := e7 i l[i] (List.getElem?_eq_getElem hi)
 exact ⟨b, off, e5, e6, es, g1, g2, g3⟩
theorem zj.sl {α : Type} {R : Rd α} {w : World} {B : Nat} {v : Value} {l : List α} (f : α -> Value) (hf : ∀ es x, R w B es x -> es = [f x]) (h : zj 1 R w B [v] l) : Sl w B v (l.map f) := by
 obtain ⟨A, c, e1, e2, e3, e4⟩ := h
 injection e1 with e1 _
 refine ⟨A, c, by rw [List.length_map]; exact e1, by rw [List.length_map]; exact e2, e3, fun h0 => ?_⟩
 rw [List.length_map] at h0
 obtain ⟨b, off, e5, e6, e7⟩ := e4 h0
 refine ⟨b, off, e5, e6, fun j u hu => ?_⟩
 rw [List.getElem?_map, Option.map_eq_some_iff] at hu
 obtain ⟨x, hx, rfl⟩ := hu
 obtain ⟨es, g1, g2, g3⟩ := e7 j x hx
 rw [hf es x g3] at g2
 have := g2 0 _ rfl
 simpa using this
end Go.Proofs.YtgoapnkdcfcjgaaGreat
