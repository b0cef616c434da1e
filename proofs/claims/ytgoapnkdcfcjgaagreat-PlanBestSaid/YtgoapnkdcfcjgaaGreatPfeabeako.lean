/- 5 texts of this claim, in build order. -/
import Derived.Test.YtgoapnkdcfcjgaaGreatPlmbjmicf
import Derived.Test.YtgoapnkdcfcjgaaGreatPmlmbikan
import Derived.Test.YtgoapnkdcfcjgaaGreatPnijlenna
import Derived.Test.YtgoapnkdcfcjgaaGreatPblfppnpp
import Derived.Sort.Grow
import Derived.Sort.Statements
import Derived.Shelf.SlSortCmp.Insertion
import Derived.Shelf.SlSortCmp.NoneTotal
import Derived.Test.YtgoapnkdcfcjgaaGreatProg
namespace Go.Proofs.YtgoapnkdcfcjgaaGreat
open Go.ChangeShapes Go.WideShapes Go.ChangeAt Go.RowKit
set_option linter.unusedVariables false
set_option linter.unusedSimpArgs false
def intsN (l : List Nat) : List Int := l.map (fun n : Nat => (n : Int))
theorem nvals_ints (l : List Nat) : nvals l = ivals (intsN l) := by unfold nvals ivals intsN; rw [List.map_map]; rfl
theorem intsN_len (l : List Nat) : (intsN l).length = l.length := by simp [intsN]
def codesJ (s : SchemaX) (ds : List (List DNode)) (ps : List (List ByteArray)) : Nat → List (List DNode) × List (List Int) × Int
 | 0 => (ds, [], 0)
 | i + 1 =>
   let r := codesJ s ds ps i
   if r.2.2 ≠ 0 then r else
   let a := addDR (r.1.getD i []) (dimL s i) (ps.getD i [])
   (r.1.set i a.1, r.2.1 ++ [intsN a.2.1], a.2.2)
def factsJ (s : SchemaX) (ds : List (List DNode)) (fs : List FactX) : Nat → List (List DNode) × List (List (List Int)) × Int
 | 0 => (ds, [], 0)
 | j + 1 =>
   let r := factsJ s ds fs j
   if r.2.2 ≠ 0 then r else
   let c := codesJ s r.1 (fs.getD j ([], [])).1 (fs.getD j ([], [])).1.length
   (c.1, r.2.1 ++ [c.2.1], c.2.2)
def keyJ (view : List Int) (codes : List (List Int)) (k : Nat) : List Int :=
 (List.range k).map fun i => if 0 < view.getD i 0 then (codes.getD i []).getD (view.getD i 0 - 1).toNat 0 else 0
theorem keyJ_len (view : List Int) (codes : List (List Int)) (k : Nat) : (keyJ view codes k).length = k := by simp [keyJ]
theorem keyJ_succ (view : List Int) (codes : List (List Int)) (k : Nat) : keyJ view codes (k + 1) = keyJ view codes k ++ [if 0 < view.getD k 0 then (codes.getD k []).getD (view.getD k 0 - 1).toNat 0 else 0] := by
 unfold keyJ; rw [List.range_succ, List.map_append]; rfl
def keyF (view : List Int) (codes : List (List Int)) : List Int := keyJ view codes view.length
def allJ (M : Nat) (L : List KC) (ks vs : List (List Int)) (i j : Nat) : List CellM :=
 (getK L (ks.getD i [])).toList ++ (((List.range j).filter fun j => decide (i ≤ j ∧ ks.getD j [] = ks.getD i [])).map fun j => (foldC M [vs.getD j []]).1)
theorem allJ_succ (M : Nat) (L : List KC) (ks vs : List (List Int)) (i j : Nat) : allJ M L ks vs i (j + 1) = if i ≤ j ∧ ks.getD j [] = ks.getD i [] then allJ M L ks vs i j ++ [(foldC M [vs.getD j []]).1] else allJ M L ks vs i j := by
 unfold allJ
 rw [List.range_succ, List.filter_append, List.map_append]
 by_cases h : i ≤ j ∧ ks.getD j [] = ks.getD i []
 ·rw [if_pos h, List.filter_cons, if_pos (by simpa using h), List.append_assoc]; rfl
 ·rw [if_neg h, List.filter_cons, if_neg (by simpa using h)]; simp
theorem allJ_start (M : Nat) (L : List KC) (ks vs : List (List Int)) (i : Nat) : allJ M L ks vs i i = (getK L (ks.getD i [])).toList := by
 unfold allJ
 rw [List.filter_eq_nil_iff.2 (fun j hj => by have := List.mem_range.1 hj; simp; omega)]
 simp
theorem allJ_len (M : Nat) (L : List KC) (ks vs : List (List Int)) (i j : Nat) : (allJ M L ks vs i j).length ≤ 1 + j := by
 unfold allJ
 rw [List.length_append, List.length_map]
 have h1 := List.length_filter_le (fun j => decide (i ≤ j ∧ ks.getD j [] = ks.getD i [])) (List.range j)
 rw [List.length_range] at h1
 have h2 : (getK L (ks.getD i [])).toList.length ≤ 1 := by cases getK L (ks.getD i []) <;> simp
 omega
def hadJ (ks : List (List Int)) (i : Nat) : Bool := (List.range i).any fun j => decide (ks.getD j [] = ks.getD i [])
def fillJ (W M : Nat) (L : List KC) (ks vs : List (List Int)) : Nat → List KC × Int
 | 0 => ([], 0)
 | i + 1 =>
   let r := fillJ W M L ks vs i
   if r.2 ≠ 0 ∨ hadJ ks i = true then r else
   let x := sumC (allJ M L ks vs i ks.length)
   if x.2 ≠ 0 then (r.1, x.2) else ((addK W M r.1 (ks.getD i []) x.1).1, 0)
def restJ (W M : Nat) (L c : List KC) : Nat → List KC
 | 0 => c
 | j + 1 =>
   let r := restJ W M L c j
   if (getK r (L.getD j ([], nilC)).1).isSome then r else (addK W M r (L.getD j ([], nilC)).1 (getC L (L.getD j ([], nilC)).1)).1
def fillF (W M : Nat) (L : List KC) (ks vs : List (List Int)) : List KC × Int :=
 let r := fillJ W M L ks vs ks.length
 if r.2 ≠ 0 then (L, r.2) else (restJ W M L r.1 L.length, 0)
def viewsJ (s : SchemaX) (cs : List (List KC)) (codes : List (List (List Int))) (vs : List (List Int)) : Nat → List (List KC) × Int
 | 0 => (cs, 0)
 | v + 1 =>
   let r := viewsJ s cs codes vs v
   if r.2 ≠ 0 then r else
   let f := fillF s.1.length s.2.1.length (r.1.getD v []) (codes.map (keyF ((viewsX s).getD v []))) vs
   if f.2 ≠ 0 then (r.1, f.2) else (r.1.set v f.1, 0)
def applyJ (l : LatX) (fs : List FactX) : LatX × Int :=
 if mayBt l.s fs ≠ 0 then (l, mayBt l.s fs) else
 let c := factsJ l.s l.ds fs fs.length
 if c.2.2 ≠ 0 then (l, c.2.2) else
 if NUM < l.n + fs.length then (l, 14) else
 let r := viewsJ l.s l.cs c.2.1 (fs.map Prod.snd) (viewsX l.s).length
 if r.2 ≠ 0 then (l, r.2) else (⟨l.s, c.1, r.1, l.n + fs.length⟩, 0)
end Go.Proofs.YtgoapnkdcfcjgaaGreat
namespace Go.Proofs.YtgoapnkdcfcjgaaGreat
open Go.ChangeShapes Go.WideShapes Go.ChangeAt Go.RowKit Go.Sort
set_option linter.unusedVariables false
set_option linter.unusedSimpArgs false
def cmpL : List Int → List Int → Int
 | [], [] => 0
 | [], _ :: _ => -1
 | _ :: _, [] => 1
 | a :: ar, b :: br => if a = b then cmpL ar br else cmpI a b
theorem cmpI_zero {a b : Int} : cmpI a b = 0 ↔ a = b := by
 unfold cmpI
 split
 ·constructor
  ·intro h; cases h
  ·omega
 ·split
  ·constructor
   ·intro h; cases h
   ·omega
  ·constructor
   ·intro _; omega
   ·intro _; rfl
theorem cmpL_drop : ∀ {k : Nat} {a b : List Int}, k ≤ a.length → k ≤ b.length → a.take k = b.take k → cmpL a b = cmpL (a.drop k) (b.drop k)
 | 0, _, _, _, _, _ => rfl
 | k + 1, [], _, h, _, _ => by simp at h
 | k + 1, _ :: _, [], _, h, _ => by simp at h
 | k + 1, x :: a, y :: b, h1, h2, h => by
   simp only [List.take_succ_cons, List.cons.injEq] at h
   obtain ⟨rfl, h⟩ := h
   conv => lhs; unfold cmpL
   rw [if_pos rfl]
   exact cmpL_drop (by simpa using h1) (by simpa using h2) h
theorem cmpL_ne {k : Nat} {a b : List Int} (h1 : k < a.length) (h2 : k < b.length) (h : a.take k = b.take k) (hne : cmpI (a.getD k 0) (b.getD k 0) ≠ 0) : cmpL a b = cmpI (a.getD k 0) (b.getD k 0) := by
 rw [cmpL_drop (by omega) (by omega) h, List.drop_eq_getElem_cons h1, List.drop_eq_getElem_cons h2]
 simp only [List.getD_eq_getElem?_getD, List.getElem?_eq_getElem h1, List.getElem?_eq_getElem h2, Option.getD_some] at hne ⊢
 conv => lhs; unfold cmpL
 rw [if_neg (fun e => hne (cmpI_zero.2 e))]
theorem cmpL_long {k : Nat} {a b : List Int} (h1 : k < a.length) (h2 : b.length = k) (h : a.take k = b.take k) : cmpL a b = 1 := by
 have e : b.drop k = [] := List.drop_eq_nil_of_le (by omega)
 rw [cmpL_drop (by omega) (by omega) h, List.drop_eq_getElem_cons h1, e]
 rfl
theorem cmpL_end {k : Nat} {a b : List Int} (h1 : a.length = k) (h2 : k ≤ b.length) (h : a.take k = b.take k) : cmpL a b = if a.length < b.length then -1 else 0 := by
 rw [cmpL_drop (by omega) (by omega) h, List.drop_eq_nil_of_le (by omega)]
 by_cases hl : a.length < b.length
 ·rw [if_pos hl, List.drop_eq_getElem_cons (show k < b.length by omega)]; rfl
 ·rw [if_neg hl, List.drop_eq_nil_of_le (by omega)]; rfl
theorem cmpL_lex : ∀ {a b : List Int}, (decide (cmpL a b < 0)) = lexB a b
 | [], [] => rfl
 | [], _ :: _ => rfl
 | _ :: _, [] => rfl
 | a :: ar, b :: br => by
   unfold cmpL lexB
   by_cases h : a = b
   ·rw [if_pos h, if_pos h]; exact cmpL_lex
   ·rw [if_neg h, if_neg h]
    unfold cmpI
    by_cases h1 : a < b
    ·rw [if_pos h1, decide_eq_true h1]; rfl
    ·rw [if_neg h1, if_pos (by omega), decide_eq_false h1]; rfl
abbrev T3 := Int × Int × Int
def l3 (x : T3) : List Int := [x.1, x.2.1, x.2.2]
def enc3 (x : T3) : List Value := [.int .i64 x.1, .int .i64 x.2.1, .int .i64 x.2.2]
def cmp3 (x y : T3) : Int := cmpL (l3 x) (l3 y)
theorem lt3 (x y : T3) : ltOf cmp3 x y = lexB (l3 x) (l3 y) := cmpL_lex
theorem l3_inj {x y : T3} (h : l3 x = l3 y) : x = y := by
 obtain ⟨a, b, c⟩ := x; obtain ⟨d, e, f⟩ := y
 simp [l3] at h
 obtain ⟨rfl, rfl, rfl⟩ := h
 rfl
theorem lex_ntrans {a b c : List Int} (h1 : lexB a b = false) (h2 : lexB b c = false) : lexB a c = false := by
 cases h : lexB a c
 ·rfl
 ·by_cases hab : a = b
  ·subst hab; rw [h] at h2; cases h2
  ·have := lex_trans (lex_total hab h1) h
   rw [this] at h2; cases h2
theorem swo3 : SWO (ltOf cmp3) where
 irrefl x := by rw [lt3]; exact lex_irrefl _
 trans x y z h1 h2 := by rw [lt3] at *; exact lex_trans h1 h2
 ntrans x y z h1 h2 := by rw [lt3] at *; exact lex_ntrans h1 h2
theorem tot3 (x y : T3) (h1 : ltOf cmp3 x y = false) (h2 : ltOf cmp3 y x = false) : x = y := by
 rw [lt3] at h1 h2
 by_cases h : l3 x = l3 y
 ·exact l3_inj h
 ·rw [lex_total h h1] at h2; cases h2
theorem sorted_ext {α : Type} {r : α → α → Prop} (hi : ∀ a, ¬ r a a) (ht : ∀ a b c, r a b → r b c → r a c) : ∀ {A B : List α}, A.Pairwise r → B.Pairwise r → (∀ x, x ∈ A ↔ x ∈ B) → A = B
 | [], [], _, _, _ => rfl
 | [], y :: B, _, _, h => by have := (h y).2 List.mem_cons_self; cases this
 | x :: A, [], _, _, h => by have := (h x).1 List.mem_cons_self; cases this
 | x :: A, y :: B, hA, hB, h => by
   obtain ⟨a1, a2⟩ := List.pairwise_cons.1 hA
   obtain ⟨b1, b2⟩ := List.pairwise_cons.1 hB
   have hxy : x = y := by
    rcases List.mem_cons.1 ((h x).1 List.mem_cons_self) with e | hx
    ·exact e
    ·rcases List.mem_cons.1 ((h y).2 List.mem_cons_self) with e | hy
     ·exact e.symm
     ·exact absurd (ht _ _ _ (a1 _ hy) (b1 _ hx)) (hi _)
   subst hxy
   congr 1
   refine sorted_ext hi ht a2 b2 fun z => ?_
   constructor
   ·intro hz
    rcases List.mem_cons.1 ((h z).1 (List.mem_cons_of_mem _ hz)) with e | h'
    ·subst e; exact absurd (a1 _ hz) (hi _)
    ·exact h'
   ·intro hz
    rcases List.mem_cons.1 ((h z).2 (List.mem_cons_of_mem _ hz)) with e | h'
    ·subst e; exact absurd (b1 _ hz) (hi _)
    ·exact h'
theorem sort3 {V S : List T3} (hS : S.Pairwise fun x y => lexB (l3 x) (l3 y) = true) (hn : V.Nodup) (hm : ∀ x, x ∈ V ↔ x ∈ S) : (V.mergeSort fun x y => !(ltOf cmp3) y x) = S := by
 have hp := List.mergeSort_perm V fun x y => !(ltOf cmp3) y x
 have hs := List.pairwise_mergeSort (le := fun x y => !(ltOf cmp3) y x) (fun a b c h1 h2 => by
   simp only [Bool.not_eq_true'] at h1 h2 ⊢
   exact swo3.ntrans _ _ _ h2 h1) (fun a b => by
   cases h : ltOf cmp3 b a
   ·simp
   ·rw [lt3] at h
    have : ltOf cmp3 a b = false := by rw [lt3]; exact lex_asymm h
    simp [this]) V
 have hn' := hp.nodup_iff.2 hn
 refine sorted_ext (r := fun x y => lexB (l3 x) (l3 y) = true) (fun a h => by rw [lex_irrefl] at h; cases h) (fun a b c h1 h2 => lex_trans h1 h2) ?_ hS (fun x => (hp.mem_iff).trans (hm x))
 refine List.Pairwise.imp₂ ?_ hs hn'
 intro a b h1 h2
 simp only [Bool.not_eq_true'] at h1
 rw [lt3] at h1
 exact lex_total (fun e => h2 (l3_inj e).symm) h1
def CmRel (a b : List Int) (w : World) (i : Value) (wr : World) : Prop := ∃ k : Nat, k ≤ a.length ∧ k ≤ b.length ∧ i = .int .i64 k ∧ a.take k = b.take k ∧ Qu w wr
set_option maxRecDepth 100000 in
set_option maxHeartbeats 800000 in
theorem cmpS_any (v u : Value) (a b : List Int) (w : World) (B : Nat) (hv : Sl w B v (ivals a)) (hu : Sl w B u (ivals b)) :
  Calls Tryz.prog 141 #[v, u] w (Stays (.int .i64 (cmpL a b)) w) := by
 obtain ⟨A1, c1, rfl, hc1, hm1⟩ := hv.formI
 obtain ⟨A2, c2, rfl, hc2, hm2⟩ := hu.formI
 unfold maxLen at hm1 hm2
 have S1 := hid hv; have S2 := hid hu; clear hv hu
 go_enter Tryz.func141, Tryz.ntmps141
 go_wp2
 go_loopw [11] (fun i wr => CmRel a b w i wr) (fun i _ => a.length - (intOf i).toNat)
 case atStart => exact ⟨0, by omega, by omega, rfl, rfl, Qu.refl _⟩
 case round =>
  obtain ⟨k, hk, hk2, rfl, htk, hq⟩ := hrel
  have HT := hid htk; clear htk
  by_cases hlt : k < a.length
  ·obtain ⟨b1, o1, rfl, hb1, hx1⟩ := S1.out.int hlt
   have g1 : wr.cell? ⟨b1, o1 + k, none⟩ = _ := (hq.cell _).trans hx1
   clear hx1
   by_cases hlt2 : k < b.length
   ·obtain ⟨b2, o2, rfl, hb2, hx2⟩ := S2.out.int hlt2
    have g2 : wr.cell? ⟨b2, o2 + k, none⟩ = _ := (hq.cell _).trans hx2
    clear hx2
    have hne := cmpL_ne hlt hlt2 HT.out
    have heq := fun h => take_succ_same hlt hlt2 HT.out (cmpI_zero.1 h)
    generalize a.getD k 0 = x at *
    generalize b.getD k 0 = y at *
    have HNE := hid hne; have HEQ := hid heq; clear hne heq
    have HF := hid (fun W => compare_any x y W)
    generalize cmpI x y = r at *
    by_cases hr : r = 0
    ·subst hr
     have HN := hid (HEQ.out rfl)
     clear HNE HEQ
     go_wp2_with fail
     refine (HF.out _).mono ?_
     rintro e w1 ⟨rfl, rfl⟩
     go_wp2
     go_roundw
     case rel => exact ⟨k + 1, by omega, by omega, by go_num, HN.out, hq⟩
     case measure => simp [intOf]; omega
    ·have t1 : (r != 0) = true := by simpa using hr
     have HR := hid (HNE.out hr)
     clear HNE HEQ
     go_wp2_with fail
     refine (HF.out _).mono ?_
     rintro e w1 ⟨rfl, rfl⟩
     go_wp2
     go_ret
     exact ⟨by rw [HR.out]; rfl, hq⟩
   ·have HR := hid (cmpL_long hlt (by omega) HT.out)
    have hge : ((b.length : Int) ≤ (k : Int)) := by omega
    go_wp2
    go_ret
    exact ⟨by rw [HR.out]; rfl, hq⟩
  ·have HR := hid (cmpL_end (show a.length = k by omega) hk2 HT.out)
   by_cases hl : a.length < b.length
   ·have hr := HR.out
    rw [if_pos hl] at hr
    have HR := hid hr; clear hr
    go_wp2
    go_ret
    exact ⟨by rw [HR.out]; rfl, hq⟩
   ·have hr := HR.out
    rw [if_neg hl] at hr
    have HR := hid hr; clear hr
    go_wp2
    go_ret
    exact ⟨by rw [HR.out]; rfl, hq⟩
theorem sl3 {w : World} {B b : Nat} (x : T3) (hb : b < B) (h0 : w.cell? ⟨b, 0, none⟩ = some (.int .i64 x.1)) (h1 : w.cell? ⟨b, 1, none⟩ = some (.int .i64 x.2.1)) (h2 : w.cell? ⟨b, 2, none⟩ = some (.int .i64 x.2.2)) : Sl w B (.slice (some ⟨b, 0, none⟩) 3 3) (ivals (l3 x)) := by
 refine ⟨_, _, rfl, by simp [ivals, l3], by unfold maxLen; omega, fun _ => ⟨b, 0, rfl, hb, fun j u hu => ?_⟩⟩
 simp only [ivals, l3, List.map_cons, List.map_nil] at hu
 match j, hu with
 | 0, hu => simp at hu; subst hu; simpa using h0
 | 1, hu => simp at hu; subst hu; simpa using h1
 | 2, hu => simp at hu; subst hu; simpa using h2
 | j + 3, hu => simp at hu
theorem grow_two (W : World) (a b : Obj) (q : Nat) : ((W.alloc a).alloc b).drewN q = grow (W.drewN q) #[a, b] := by
 rw [alloc_eq_grow, alloc_eq_grow, grow_grow]; rfl
set_option maxRecDepth 100000 in
set_option maxHeartbeats 800000 in
theorem cmpK_any (x y : T3) (W : World) : Calls Tryz.prog 135 #[keyV x.1 x.2.1 x.2.2, keyV y.1 y.2.1 y.2.2] W fun e w' => e = .returned (.int .i64 (cmp3 x y)) ∧ ∃ q os', w' = grow (W.drewN q) os' := by
 obtain ⟨W2, hW2⟩ : ∃ W2, W2 = (W.alloc (.cells #[.int .i64 x.1, .int .i64 x.2.1, .int .i64 x.2.2] 149)).alloc (.cells #[.int .i64 y.1, .int .i64 y.2.1, .int .i64 y.2.2] 149) := ⟨_, rfl⟩
 have s1 : Sl W2 W2.heap.size (.slice (some ⟨W.heap.size, 0, none⟩) 3 3) (ivals (l3 x)) := by
  subst hW2
  exact sl3 x (by simp; omega) (by simp [go_sem]) (by simp [go_sem]) (by simp [go_sem])
 have s2 : Sl W2 W2.heap.size (.slice (some ⟨W.heap.size + 1, 0, none⟩) 3 3) (ivals (l3 y)) := by
  subst hW2
  exact sl3 y (by simp) (by simp [go_sem]) (by simp [go_sem]) (by simp [go_sem])
 have HC := hid (fun W' (hq : Qu W2 W') => cmpS_any _ _ (l3 x) (l3 y) W' W2.heap.size (s1.qu' hq) (s2.qu' hq))
 unfold keyV
 have hcmp : cmpL (l3 x) (l3 y) = cmp3 x y := rfl
 rw [hcmp] at HC
 generalize cmp3 x y = r at *
 have HW2 := hid hW2
 clear hcmp s1 s2 hW2
 go_enter Tryz.func135, Tryz.ntmps135
 go_wp2
 rw [← HW2.out]
 go_quiet (first | (go_at_call 141; exact Calls.quiet_of (HC.out _ ⟨_, rfl⟩)))
 go_wp2
 go_ret
 exact ⟨rfl, nq, _, by rw [HW2.out]; exact grow_two _ _ _ _⟩
end Go.Proofs.YtgoapnkdcfcjgaaGreat
namespace Go.Proofs.YtgoapnkdcfcjgaaGreat
open Go.Shelf
def laysK_ren : Go.Shelf.Ren := ⟨fun | 6 => 136 | 15 => 143 | 14 => 142 | 28 => 155 | 29 => 156 | 20 => 147 | 21 => 148 | 22 => 149 | 23 => 150 | 24 => 151 | 25 => 152 | 26 => 153 | 27 => 154 | 46 => 157 | 47 => 158 | 48 => 159 | 49 => 160 | 50 => 161 | 57 => 162 | n => n, fun | 22 => 166 | 24 => 149 | 25 => 186 | 3 => 3 | 39 => 181 | 0 => 0 | 53 => 206 | 55 => 208 | 4 => 4 | 46 => 200 | 45 => 199 | 50 => 151 | 5 => 5 | 9 => 9 | 66 => 209 | 70 => 213 | 76 => 215 | 77 => 216 | n => n, fun | n => n⟩
theorem laysK : Go.Proofs.SlLaysF0.n6 Tryz.prog laysK_ren := {
 mixed := by kernel_rfl
 f6 := ⟨Tryz.f136.name, by decide, Tryz.func136.trans (congrArg some (by kernel_rfl))⟩
 f14 := ⟨Tryz.f142.name, by decide, Tryz.func142.trans (congrArg some (by kernel_rfl))⟩
 f15 := Tryz.func143.trans (congrArg some (by kernel_rfl))
 f20 := ⟨Tryz.f147.name, by decide, Tryz.func147.trans (congrArg some (by kernel_rfl))⟩
 f21 := ⟨Tryz.f148.name, by decide, Tryz.func148.trans (congrArg some (by kernel_rfl))⟩
 f22 := ⟨Tryz.f149.name, by decide, Tryz.func149.trans (congrArg some (by kernel_rfl))⟩
 f23 := ⟨Tryz.f150.name, by decide, Tryz.func150.trans (congrArg some (by kernel_rfl))⟩
 f24 := ⟨Tryz.f151.name, by decide, Tryz.func151.trans (congrArg some (by kernel_rfl))⟩
 f25 := ⟨Tryz.f152.name, by decide, Tryz.func152.trans (congrArg some (by kernel_rfl))⟩
 f26 := ⟨Tryz.f153.name, by decide, Tryz.func153.trans (congrArg some (by kernel_rfl))⟩
 f27 := ⟨Tryz.f154.name, by decide, Tryz.func154.trans (congrArg some (by kernel_rfl))⟩
 f28 := Tryz.func155.trans (congrArg some (by kernel_rfl))
 f29 := Tryz.func156.trans (congrArg some (by kernel_rfl))
 f46 := ⟨Tryz.f157.name, by decide, Tryz.func157.trans (congrArg some (by kernel_rfl))⟩
 f47 := Tryz.func158.trans (congrArg some (by kernel_rfl))
 f48 := Tryz.func159.trans (congrArg some (by kernel_rfl))
 f49 := ⟨Tryz.f160.name, by decide, Tryz.func160.trans (congrArg some (by kernel_rfl))⟩
 f50 := ⟨Tryz.f161.name, by decide, Tryz.func161.trans (congrArg some (by kernel_rfl))⟩
 f57 := ⟨Tryz.f162.name, by decide, Tryz.func162.trans (congrArg some (by kernel_rfl))⟩
 t0 := Tryz.underlying0
 a0 := Tryz.isAgg0
 z0 := Tryz.sizeOf0
 v0 := Tryz.zeroValue0
 t3 := Tryz.underlying3
 a3 := Tryz.isAgg3
 z3 := Tryz.sizeOf3
 v3 := Tryz.zeroValue3
 t4 := Tryz.underlying4
 a4 := Tryz.isAgg4
 z4 := Tryz.sizeOf4
 v4 := Tryz.zeroValue4
 t5 := Tryz.underlying5
 a5 := Tryz.isAgg5
 z5 := Tryz.sizeOf5
 v5 := Tryz.zeroValue5
 t9 := Tryz.underlying9
 a9 := Tryz.isAgg9
 z9 := Tryz.sizeOf9
 v9 := Tryz.zeroValue9
 t22 := Tryz.underlying166
 a22 := Tryz.isAgg166
 z22 := Tryz.sizeOf166
 v22 := Tryz.zeroValue166
 t25 := Tryz.underlying186
 a25 := Tryz.isAgg186
 z25 := Tryz.sizeOf186
 v25 := Tryz.zeroValue186
 t39 := Tryz.underlying181
 a39 := Tryz.isAgg181
 z39 := Tryz.sizeOf181
 v39 := Tryz.zeroValue181
 t45 := Tryz.underlying199
 a45 := Tryz.isAgg199
 z45 := Tryz.sizeOf199
 v45 := Tryz.zeroValue199
 t46 := Tryz.underlying200
 a46 := Tryz.isAgg200
 z46 := Tryz.sizeOf200
 v46 := Tryz.zeroValue200
 t50 := Tryz.underlying151
 a50 := Tryz.isAgg151
 z50 := Tryz.sizeOf151
 v50 := Tryz.zeroValue151
 t53 := Tryz.underlying206
 a53 := Tryz.isAgg206
 z53 := Tryz.sizeOf206
 v53 := Tryz.zeroValue206
 t55 := Tryz.underlying208
 a55 := Tryz.isAgg208
 z55 := Tryz.sizeOf208
 v55 := Tryz.zeroValue208
 t66 := Tryz.underlying209
 a66 := Tryz.isAgg209
 z66 := Tryz.sizeOf209
 v66 := Tryz.zeroValue209
 t70 := Tryz.underlying213
 a70 := Tryz.isAgg213
 z70 := Tryz.sizeOf213
 v70 := Tryz.zeroValue213
 t76 := Tryz.underlying215
 a76 := Tryz.isAgg215
 z76 := Tryz.sizeOf215
 v76 := Tryz.zeroValue215
 t77 := Tryz.underlying216
 a77 := Tryz.isAgg216
 z77 := Tryz.sizeOf216
 v77 := Tryz.zeroValue216 }
end Go.Proofs.YtgoapnkdcfcjgaaGreat
namespace Go.Proofs.YtgoapnkdcfcjgaaGreat
open Go.ChangeShapes Go.WideShapes Go.ChangeAt Go.RowKit Go.Sort Go.Shelf
set_option linter.unusedVariables false
set_option linter.unusedSimpArgs false
def flat3 (V : List T3) : List Value := V.flatMap enc3
def z3 : T3 := (0, 0, 0)
theorem flat3_snoc (es : List T3) (x : T3) : flat3 (es ++ [x]) = flat3 es ++ enc3 x := by simp [flat3]
theorem flat3_at : ∀ {es : List T3} {k j : Nat}, k < es.length → j < 3 → (flat3 es)[k * 3 + j]? = (enc3 (es.getD k z3))[j]? := by
 intro es
 induction es with
 | nil => intro k j hk; simp at hk
 | cons x es ih =>
   intro k j hk hj
   unfold flat3
   rw [List.flatMap_cons]
   cases k with
   | zero => rw [List.getElem?_append_left (by simp [enc3]; omega)]; simp
   | succ k =>
     rw [List.getElem?_append_right (by simp [enc3]; omega), show (k + 1) * 3 + j - (enc3 x).length = k * 3 + j by simp [enc3]; omega]
     have := ih (k := k) (j := j) (by simpa using hk) hj
     unfold flat3 at this
     rw [this]
     simp
theorem getK3 {V : List T3} {i : Nat} (h : i < V.length) : V.toArray[i]! = V.getD i z3 := by
 simp [List.getD_eq_getElem?_getD, h]
theorem enc3_at (x : T3) {j : Nat} (h : j < 3) : (enc3 x)[j]? = some (enc3 x)[j]! := by
 obtain rfl | rfl | rfl : j = 0 ∨ j = 1 ∨ j = 2 := by omega
 ·rfl
 ·rfl
 ·rfl
theorem holds3 {w : World} {base g cap n : Nat} {V : List T3} (h : w.ownsRow base 149 3 (.slice (some ⟨g, 0, none⟩) n cap) n (flat3 V)) (hn : V.length = n) : HoldsK enc3 3 w g 0 V.toArray := by
 intro j hj
 rw [size_flatK] at hj
 have hj' : j < V.length * 3 := by simpa using hj
 refine ⟨?_, ?_⟩
 ·rw [Nat.zero_add, h.cellAt j (by omega), get_flatK _ _ _ _ hj]
  have h3 : j % 3 < 3 := Nat.mod_lt _ (by omega)
  have hd : j / 3 < V.length := by omega
  have e : j / 3 * 3 + j % 3 = j := by omega
  have := flat3_at hd h3
  rw [e] at this
  rw [this, getK3 hd, enc3_at _ h3]
  rfl
 ·rcases h.2 with ⟨e, _⟩ | ⟨g', cap', cur, e, _, hg, _⟩
  ·cases e
  ·injection e with e1 _ _
   injection e1 with e1
   injection e1 with e1 _ _
   subst e1
   simp [World.frozen?, hg]
theorem upd_sorted {w : World} {g n : Nat} {os : Array Obj} (d : Array T3) : Upd g w (sortWorldK enc3 3 w g 0 n d os) := by
 unfold sortWorldK putRowK
 refine ⟨rfl, rfl, rfl, by simp, fun k hk hne => ?_⟩
 rw [heap_grow_old _ _ (by simpa using hk)]
 have : g ≠ k := fun e => hne (by rw [e])
 simp [putRow, mapBlock, Sort.ahead, Array.getElem?_modify, this]
def SortP (g : Nat) (S : List T3) (w : World) (e : Ending) (w' : World) : Prop := e = .returned (.tuple #[]) ∧ HoldsK enc3 3 w' g 0 S.toArray ∧ Upd g w w'
theorem sort_any (g cap n : Nat) (V S : List T3) (w : World) (hH : HoldsK enc3 3 w g 0 V.toArray) (hg : g < w.heap.size) (hn : V.length = n) (hsz : n < 4611686018427387904)
  (hS : S.Pairwise fun x y => lexB (l3 x) (l3 y) = true) (hd : V.Nodup) (hm : ∀ x, x ∈ V ↔ x ∈ S) :
  Calls Tryz.prog 136 #[.slice (some ⟨g, 0, none⟩) n cap, .func (.func 135) #[] #[]] w (SortP g S w) := by
 subst hn
 have eg : ∀ args w, (callFunc 135 args).run Tryz.prog w = .ok (.enter 135 args) w := enters_of Tryz.func135 (by kernel_rfl) rfl
 have hV := sort3 hS hd hm
 have hlen : S.length = V.length := by rw [← hV]; exact List.length_mergeSort V
 have hcmp : CmpLays Tryz.prog 135 #[] enc3 3 cmp3 g 0 V.toArray.size w := fun _ _ _ _ x y => cmpK_any x y _
 have h := AnyQ.slices_SortFunc_total laysK 3 Tryz.isAgg149 Tryz.sizeOf149 enc3 (fun _ => rfl) (fun x v hv => by simp [enc3] at hv; rcases hv with rfl | rfl | rfl <;> rfl) cmp3 swo3 135 #[] g 0 cap V.toArray w eg hcmp hH hg (by simpa using hsz) tot3
 refine h.mono ?_
 rintro e w' ⟨rfl, m, os, rfl⟩
 have e1 : V.toArray.toList = V := rfl
 rw [e1, hV]
 exact ⟨rfl, holdsK_sortWorldK_c enc3 3 w g 0 V.toArray S.toArray m os hH hg (by simpa using hlen), upd_sorted _⟩
theorem sort_none (w : World) : Calls Tryz.prog 136 #[.slice none 0 0, .func (.func 135) #[] #[]] w fun e w' => e = .returned (.tuple #[]) ∧ w' = w :=
 AnyF.slices_SortFunc_none laysK none 0 _ w
def t3 (k : List Int) : T3 := (k.getD 0 0, k.getD 1 0, k.getD 2 0)
def kl3 (x : T3) : Lit := keyL x.1 x.2.1 x.2.2
theorem kl3_t3 (k : List Int) : kl3 (t3 k) = keyLk k := rfl
theorem lex_t3 {W : Nat} : ∀ {k k' : List Int}, okK W k → okK W k' → W ≤ 3 → lexB (l3 (t3 k)) (l3 (t3 k')) = lexB k k'
 | [], [], _, _, _ => by decide
 | [a], [b], _, _, _ => by simp [l3, t3, lexB]
 | [a, b], [c, d], _, _, _ => by simp [l3, t3, lexB]
 | [a, b, c], [d, e, f], _, _, _ => by simp [l3, t3, lexB]
 | [], _ :: _, h, h', _ => by have := h.1; have := h'.1; simp at *; omega
 | [_], [], h, h', _ => by have := h.1; have := h'.1; simp at *; omega
 | [_], _ :: _ :: _, h, h', _ => by have := h.1; have := h'.1; simp at *; omega
 | [_, _], [], h, h', _ => by have := h.1; have := h'.1; simp at *; omega
 | [_, _], [_], h, h', _ => by have := h.1; have := h'.1; simp at *; omega
 | [_, _], _ :: _ :: _ :: _, h, h', _ => by have := h.1; have := h'.1; simp at *; omega
 | [_, _, _], [], h, h', _ => by have := h.1; have := h'.1; simp at *; omega
 | [_, _, _], [_], h, h', _ => by have := h.1; have := h'.1; simp at *; omega
 | [_, _, _], [_, _], h, h', _ => by have := h.1; have := h'.1; simp at *; omega
 | [_, _, _], _ :: _ :: _ :: _ :: _, h, h', _ => by have := h.1; have := h'.1; simp at *; omega
 | _ :: _ :: _ :: _ :: _, _, h, _, h3 => by have := h.1; simp at *; omega
def keys3 (L : List KC) : List T3 := L.map fun x => t3 x.1
theorem keys3_sorted {W M : Nat} {L : List KC} (h : OkL W M L) (hW : W ≤ 3) : (keys3 L).Pairwise fun x y => lexB (l3 x) (l3 y) = true := by
 unfold keys3
 rw [List.pairwise_map]
 refine List.Pairwise.imp_of_mem ?_ h.sort
 intro a b ha hb hab
 rw [lex_t3 (h.key a ha) (h.key b hb) hW]
 exact hab
def KeysAt (w : World) (v : Value) (L : List KC) : Prop :=
 ∃ A cap, v = .slice A L.length cap ∧ L.length ≤ cap ∧ cap ≤ maxLen ∧ (0 < L.length → ∃ g, A = some ⟨g, 0, none⟩ ∧ g < w.heap.size ∧ ∀ i, i < L.length → w.cell? ⟨g, i * 3, none⟩ = some (.int .i64 ((L.getD i zK).1.getD 0 0)) ∧
  w.cell? ⟨g, i * 3 + 1, none⟩ = some (.int .i64 ((L.getD i zK).1.getD 1 0)) ∧ w.cell? ⟨g, i * 3 + 2, none⟩ = some (.int .i64 ((L.getD i zK).1.getD 2 0)))
theorem keys_at {w : World} {g cap : Nat} {L : List KC} (h : HoldsK enc3 3 w g 0 (keys3 L).toArray) (hg : g < w.heap.size) (h1 : L.length ≤ cap) (h2 : cap ≤ maxLen) : KeysAt w (.slice (some ⟨g, 0, none⟩) L.length cap) L := by
 refine ⟨_, _, rfl, h1, h2, fun _ => ⟨g, rfl, hg, fun i hi => ?_⟩⟩
 have hi' : i < (keys3 L).length := by simpa [keys3] using hi
 have e : (keys3 L).toArray[i]! = t3 (L.getD i zK).1 := by
  rw [getK3 hi']
  simp [keys3, List.getD_eq_getElem?_getD, hi]
 have q : ∀ c, c < 3 → w.cell? ⟨g, i * 3 + c, none⟩ = some (enc3 (t3 (L.getD i zK).1))[c]! := fun c hc => by
  have := (h.cell (i := i) (c := c) (by simpa using hi') hc).1
  rw [Nat.zero_add, e] at this
  exact this
 exact ⟨q 0 (by omega), q 1 (by omega), q 2 (by omega)⟩
end Go.Proofs.YtgoapnkdcfcjgaaGreat
