/- 2 texts of this claim, in build order. -/
import Derived.Test.YtgoapnkdcfcjgaaGreatPhbmnikng
set_option linter.unusedVariables false
set_option linter.unusedSimpArgs false
namespace Go.Proofs.YtgoapnkdcfcjgaaGreat
open Go.ChangeShapes Go.WideShapes Go.ChangeAt Go.RowKit
def zbr (ks vs : List (List Int)) (k : List Int) : List (List Int) := ((List.range ks.length).filter fun j => decide (ks.getD j [] = k)).map fun j => vs.getD j []
theorem zeT {ks vs : List (List Int)} {k : List Int} : zbr ks vs k ≠ [] ↔ ∃ j, j < ks.length /\ ks.getD j [] = k := by
 unfold zbr
 constructor
 ·intro h
  obtain ⟨v, hv⟩ := List.exists_mem_of_ne_nil _ h
  obtain ⟨j, hj, -⟩ := List.mem_map.1 hv
  rw [List.mem_filter] at hj
  exact ⟨j, List.mem_range.1 hj.1, by simpa using hj.2⟩
 ·rintro ⟨j, hj, hk⟩ h
  have : vs.getD j [] ∈ ([] : List (List Int)) := h ▸ List.mem_map.2 ⟨j, List.mem_filter.2 ⟨List.mem_range.2 hj, by simpa using hk⟩, rfl⟩
  cases this
theorem znm (ks vs : List (List Int)) (k : List Int) : (zbr ks vs k).length <= ks.length := by
 unfold zbr
 rw [List.length_map]
 refine Nat.le_trans (List.length_filter_le _ _) ?_
 rw [List.length_range]; exact Nat.le_refl _
theorem znx {ks vs : List (List Int)} {k v : List Int} (h : v ∈ zbr ks vs k) : ∃ j, j < ks.length /\ vs.getD j [] = v := by
 unfold zbr at h
 obtain ⟨j, hj, e⟩ := List.mem_map.1 h
 exact ⟨j, List.mem_range.1 (List.mem_filter.1 hj).1, e⟩
theorem zgV {α : Type} {l k : List α} (h : k ≠ []) : l ++ k ≠ [] := fun e => h (List.append_eq_nil_iff.1 e).2
theorem zki {W M : Nat} {L : List KC} {k : List Int} {c : zp} (h1 : okK W k) (h2 : MayP c) (h3 : c.n ≠ 0) (h4 : c.s.length = M) (h5 : getK L k = none) : addK W M L k c = (setK k c L, 0) := by
 unfold addK
 rw [if_neg (by simp [okB, h1, zaO.2 h2, h3, h4]), h5]
theorem zjb {M : Nat} {l : List (List Int)} (h : l ≠ []) : (zi M l).n ≠ 0 /\ (zi M l).s.length = M := by
 refine ⟨?_, by simp [zi]⟩
 show (l.length : Int) ≠ 0
 have := List.length_pos_iff.2 h; omega
structure zek (W M : Nat) (L : List KC) (old : List Int -> List (List Int)) (ks vs : List (List Int)) : Prop where
 m : M <= 2
 l : OkL W M L
 o : ∀ k, getK L k = if old k = [] then none else some (zi M (old k))
 ov : ∀ k, ∀ v ∈ old k, zaU M v = true
 om : ∀ k, old k ≠ [] -> MayP (zi M (old k))
 on : ∀ k, (old k).length <= 1000
 n : ks.length <= 1000
 k : ∀ j, j < ks.length -> okK W (ks.getD j [])
 v : ∀ j, j < ks.length -> zaU M (vs.getD j []) = true
def zeE (old : List Int -> List (List Int)) (ks vs : List (List Int)) (k : List Int) : List (List (List Int)) := (if old k = [] then [] else [old k]) ++ (zbr ks vs k).map fun v => [v]
theorem zhD {α : Type} (l : List α) : (l.map fun v => [v]).flatten = l := by
 induction l with
 | nil => rfl
 | cons x l ih => rw [List.map_cons, List.flatten_cons, ih]; rfl
theorem zfS (old : List Int -> List (List Int)) (ks vs : List (List Int)) (k : List Int) : (zeE old ks vs k).flatten = old k ++ zbr ks vs k := by
 unfold zeE
 rw [List.flatten_append, zhD]
 by_cases h : old k = []
 ·rw [if_pos h, h]; rfl
 ·rw [if_neg h]; simp
section
variable {W M : Nat} {L : List KC} {old : List Int -> List (List Int)} {ks vs : List (List Int)}
theorem zek.tot_val (h : zek W M L old ks vs) (k : List Int) : ∀ v ∈ old k ++ zbr ks vs k, zaU M v = true := by
 intro v hv
 rcases List.mem_append.1 hv with hv | hv
 ·exact h.ov k v hv
 ·obtain ⟨j, hj, rfl⟩ := znx hv
  exact h.v j hj
theorem zek.parts (h : zek W M L old ks vs) (k : List Int) : zqi M (zeE old ks vs k) := by
 have hm : ∀ p ∈ zeE old ks vs k, (p = old k /\ old k ≠ []) \/ ∃ v ∈ zbr ks vs k, p = [v] := fun p hp => by
  unfold zeE at hp
  rcases List.mem_append.1 hp with hp | hp
  ·split at hp
   ·cases hp
   ·rename_i hne; exact .inl ⟨List.mem_singleton.1 hp, hne⟩
  ·obtain ⟨v, hv, rfl⟩ := List.mem_map.1 hp
   exact .inr ⟨v, hv, rfl⟩
 refine ⟨fun p hp => ?_, fun p hp v hv => ?_, fun p hp => ?_⟩
 ·rcases hm p hp with ⟨rfl, h1⟩ | ⟨v, -, rfl⟩
  ·exact h1
  ·simp
 ·rcases hm p hp with ⟨rfl, -⟩ | ⟨u, hu, rfl⟩
  ·exact h.ov k v hv
  ·rw [List.mem_singleton.1 hv]; exact h.tot_val k u (List.mem_append_right _ hu)
 ·rcases hm p hp with ⟨rfl, h1⟩ | ⟨v, hv, rfl⟩
  ·exact h.om k h1
  ·exact (znN h.m (h.tot_val k v (List.mem_append_right _ hv))).1
theorem zek.all (h : zek W M L old ks vs) {i : Nat} (hi : i < ks.length) (hh : hadJ ks i = false) : allJ M L ks vs i ks.length = (zeE old ks vs (ks.getD i [])).map (zi M) := by
 unfold allJ zeE
 rw [List.map_append]
 congr 1
 ·rw [h.o]
  by_cases h0 : old (ks.getD i []) = []
  ·rw [if_pos h0, if_pos h0]; rfl
  ·rw [if_neg h0, if_neg h0]; rfl
 ·unfold zbr
  rw [List.map_map, List.map_map]
  have e : (List.range ks.length).filter (fun j => decide (i <= j /\ ks.getD j [] = ks.getD i [])) = (List.range ks.length).filter (fun j => decide (ks.getD j [] = ks.getD i [])) := by
   refine List.filter_congr (fun j hj => ?_)
   rw [decide_eq_decide]
   refine ⟨fun h => h.2, fun e => ⟨?_, e⟩⟩
   rcases Nat.lt_or_ge j i with hlt | hge
   ·exfalso
    unfold hadJ at hh
    rw [List.any_eq_false] at hh
    exact hh j (List.mem_range.2 hlt) (decide_eq_true e)
   ·exact hge
  rw [e]
  refine List.map_congr_left (fun j hj => ?_)
  have hj := List.mem_range.1 (List.mem_filter.1 hj).1
  show (zaQ M [vs.getD j []]).1 = zi M [vs.getD j []]
  rw [(znN h.m (h.v j hj)).2]
theorem zek.sum (h : zek W M L old ks vs) {i : Nat} (hi : i < ks.length) (hh : hadJ ks i = false) :
  ((sumC (allJ M L ks vs i ks.length)).2 = 0 ↔ MayP (zi M (old (ks.getD i []) ++ zbr ks vs (ks.getD i [])))) /\ ((sumC (allJ M L ks vs i ks.length)).2 = 0 -> (sumC (allJ M L ks vs i ks.length)).1 = zi M (old (ks.getD i []) ++ zbr ks vs (ks.getD i []))) := by
 have hv : zbr ks vs (ks.getD i []) ≠ [] := zeT.2 ⟨i, hi, rfl⟩
 have hne : zeE old ks vs (ks.getD i []) ≠ [] := zgV (fun e => hv (List.map_eq_nil_iff.1 e))
 have hlen := znm ks vs (ks.getD i [])
 have ho := h.on (ks.getD i [])
 have hk := h.n
 have e := zjv h.m hne (h.parts _) (by rw [zfS, List.length_append]; omega)
 rw [h.all hi hh, e, zfS]
 have hf := zih h.m (l := old (ks.getD i []) ++ zbr ks vs (ks.getD i [])) (zgV hv) (h.tot_val _)
 exact ⟨hf.1, fun h0 => by rw [hf.2 (hf.1.1 h0)]⟩
theorem zk9 (W M : Nat) (L : List KC) (ks vs : List (List Int)) (i : Nat) : zaG W M L ks vs (i + 1) = if (zaG W M L ks vs i).2 ≠ 0 \/ hadJ ks i = true then zaG W M L ks vs i else
  if (sumC (allJ M L ks vs i ks.length)).2 ≠ 0 then ((zaG W M L ks vs i).1, (sumC (allJ M L ks vs i ks.length)).2) else ((addK W M (zaG W M L ks vs i).1 (ks.getD i []) (sumC (allJ M L ks vs i ks.length)).1).1, 0) := rfl
theorem zek.fill1 (h : zek W M L old ks vs) (i : Nat) (hi : i <= ks.length) :
  ((zaG W M L ks vs i).2 = 0 ↔ ∀ j, j < i -> MayP (zi M (old (ks.getD j []) ++ zbr ks vs (ks.getD j [])))) /\
  ((zaG W M L ks vs i).2 = 0 -> OkL W M (zaG W M L ks vs i).1 /\ ∀ k, ((∃ j, j < i /\ ks.getD j [] = k) -> getK (zaG W M L ks vs i).1 k = some (zi M (old k ++ zbr ks vs k))) /\ ((¬ ∃ j, j < i /\ ks.getD j [] = k) -> getK (zaG W M L ks vs i).1 k = none)) := by
 induction i with
 | zero => exact ⟨⟨fun _ j hj => absurd hj (by omega), fun _ => rfl⟩, fun _ => ⟨OkL.nil_ W M, fun k => ⟨fun ⟨j, hj, _⟩ => absurd hj (by omega), fun _ => rfl⟩⟩⟩
 | succ i ih =>
   obtain ⟨a1, a2⟩ := ih (by omega)
   rw [zk9]
   by_cases h0 : (zaG W M L ks vs i).2 = 0
   ·obtain ⟨b1, b2⟩ := a2 h0
    cases hh : hadJ ks i
    ·rw [if_neg (by simp [h0])]
     obtain ⟨s1, s2⟩ := h.sum (by omega) hh
     have hno : ¬ ∃ j, j < i /\ ks.getD j [] = ks.getD i [] := fun ⟨j, hj, e⟩ => by
      unfold hadJ at hh
      rw [List.any_eq_false] at hh
      exact hh j (List.mem_range.2 hj) (decide_eq_true e)
     by_cases hs : (sumC (allJ M L ks vs i ks.length)).2 = 0
     ·rw [if_neg (by simp [hs])]
      have hmay := s1.1 hs
      have hv : zbr ks vs (ks.getD i []) ≠ [] := zeT.2 ⟨i, by omega, rfl⟩
      have hfl := zjb (M := M) (l := old (ks.getD i []) ++ zbr ks vs (ks.getD i [])) (zgV hv)
      have ha := zki (W := W) (M := M) (L := (zaG W M L ks vs i).1) (h.k i (by omega)) hmay hfl.1 hfl.2 ((b2 _).2 hno)
      rw [s2 hs, ha]
      refine ⟨⟨fun _ j hj => ?_, fun _ => rfl⟩, fun _ => ⟨b1.set (h.k i (by omega)) hmay hfl.1 hfl.2, fun k => ⟨fun hk => ?_, fun hk => ?_⟩⟩⟩
      ·rcases Nat.lt_or_ge j i with hlt | hge
       ·exact a1.1 h0 j hlt
       ·obtain rfl : j = i := by omega
        exact hmay
      ·show getK (setK _ _ _) k = _
       rw [zbX b1.sort]
       by_cases e : ks.getD i [] = k
       ·rw [if_pos e, e]
       ·rw [if_neg e]
        obtain ⟨j, hj, e'⟩ := hk
        exact (b2 k).1 ⟨j, by rcases Nat.lt_or_ge j i with hlt | hge; exact hlt; exact absurd ((show i = j by omega) ▸ e') e, e'⟩
      ·show getK (setK _ _ _) k = _
       rw [zbX b1.sort, if_neg (fun e => hk ⟨i, by omega, e⟩)]
       exact (b2 k).2 (fun ⟨j, hj, e⟩ => hk ⟨j, by omega, e⟩)
     ·rw [if_pos hs]
      exact ⟨⟨fun h' => absurd h' hs, fun h' => absurd (s1.2 (h' i (by omega))) hs⟩, fun h' => absurd h' hs⟩
    ·rw [if_pos (.inr rfl)]
     obtain ⟨j0, hj0, e0⟩ : ∃ j, j < i /\ ks.getD j [] = ks.getD i [] := by
      unfold hadJ at hh
      obtain ⟨j, hj, e⟩ := List.any_eq_true.1 hh
      exact ⟨j, List.mem_range.1 hj, of_decide_eq_true e⟩
     refine ⟨⟨fun _ j hj => ?_, fun h' => a1.2 (fun j hj => h' j (by omega))⟩, fun _ => ⟨b1, fun k => ⟨fun ⟨j, hj, e⟩ => ?_, fun hk => (b2 k).2 (fun ⟨j, hj, e⟩ => hk ⟨j, by omega, e⟩)⟩⟩⟩
     ·rcases Nat.lt_or_ge j i with hlt | hge
      ·exact a1.1 h0 j hlt
      ·obtain rfl : j = i := by omega
       rw [<- e0]; exact a1.1 h0 j0 hj0
     ·rcases Nat.lt_or_ge j i with hlt | hge
      ·exact (b2 k).1 ⟨j, hlt, e⟩
      ·obtain rfl : j = i := by omega
       exact (b2 k).1 ⟨j0, hj0, e0.trans e⟩
   ·rw [if_pos (.inl h0)]
    exact ⟨⟨fun h' => absurd h' h0, fun h' => a1.2 (fun j hj => h' j (by omega))⟩, fun h' => absurd h' h0⟩
theorem zlr (W M : Nat) (L c : List KC) (j : Nat) : zbA W M L c (j + 1) = if (getK (zbA W M L c j) (L.getD j ([], nilC)).1).isSome then zbA W M L c j else (addK W M (zbA W M L c j) (L.getD j ([], nilC)).1 (getC L (L.getD j ([], nilC)).1)).1 := rfl
theorem zn9 {c : List KC} (hL : OkL W M L) (hc : OkL W M c) (j : Nat) (hj : j <= L.length) : OkL W M (zbA W M L c j) /\ ∀ k, getK (zbA W M L c j) k = match getK c k with | some x => some x | none => if (∃ i, i < j /\ (L.getD i ([], nilC)).1 = k) then getK L k else none := by
 induction j with
 | zero => exact ⟨hc, fun k => by
   show getK c k = _
   cases getK c k with
   | some x => rfl
   | none => simp⟩
 | succ j ih =>
   obtain ⟨a1, a2⟩ := ih (by omega)
   have hx : L.getD j ([], nilC) ∈ L := by rw [List.getD_eq_getElem?_getD, List.getElem?_eq_getElem (by omega)]; exact List.getElem_mem _
   generalize hxx : L.getD j ([], nilC) = x at *
   have hgx := zba hL.sort hx
   rw [zlr, hxx]
   cases hs : (getK (zbA W M L c j) x.1).isSome
   ·have hno : getK (zbA W M L c j) x.1 = none := by simpa using hs
    have hcx : getC L x.1 = x.2 := by unfold getC; rw [hgx]; rfl
    rw [if_neg (by decide), hcx, zki (hL.key x hx) (hL.may x hx) (hL.full x hx) (hL.len x hx) hno]
    refine ⟨a1.set (hL.key x hx) (hL.may x hx) (hL.full x hx) (hL.len x hx), fun k => ?_⟩
    show getK (setK _ _ _) k = _
    rw [zbX a1.sort]
    by_cases e : x.1 = k
    ·subst e
     rw [if_pos rfl]
     have h2 := a2 x.1
     rw [hno] at h2
     cases hg : getK c x.1 with
     | some y => rw [hg] at h2; cases h2
     | none => simp only; rw [if_pos ⟨j, by omega, by rw [hxx]⟩, hgx]
    ·rw [if_neg e, a2 k]
     cases hg : getK c k with
     | some y => rfl
     | none =>
       simp only
       have : (∃ i, i < j + 1 /\ (L.getD i ([], nilC)).1 = k) ↔ ∃ i, i < j /\ (L.getD i ([], nilC)).1 = k := ⟨fun ⟨i, hi, e'⟩ => ⟨i, by
        rcases Nat.lt_or_ge i j with h | h
        ·exact h
        ·obtain rfl : i = j := by omega
         rw [hxx] at e'; exact absurd e' e, e'⟩, fun ⟨i, hi, e'⟩ => ⟨i, by omega, e'⟩⟩
       simp only [this]
   ·rw [if_pos rfl]
    refine ⟨a1, fun k => ?_⟩
    rw [a2 k]
    cases hg : getK c k with
    | some y => rfl
    | none =>
      simp only
      by_cases e : x.1 = k
      ·subst e
       have h2 := a2 x.1
       rw [hg] at h2
       simp only at h2
       by_cases hi : ∃ i, i < j /\ (L.getD i ([], nilC)).1 = x.1
       ·rw [if_pos hi, if_pos (by obtain ⟨i, hi, e⟩ := hi; exact ⟨i, by omega, e⟩)]
       ·rw [if_neg hi] at h2; rw [h2] at hs; cases hs
      ·have : (∃ i, i < j + 1 /\ (L.getD i ([], nilC)).1 = k) ↔ ∃ i, i < j /\ (L.getD i ([], nilC)).1 = k := ⟨fun ⟨i, hi, e'⟩ => ⟨i, by
        rcases Nat.lt_or_ge i j with h | h
        ·exact h
        ·obtain rfl : i = j := by omega
         rw [hxx] at e'; exact absurd e' e, e'⟩, fun ⟨i, hi, e'⟩ => ⟨i, by omega, e'⟩⟩
       simp only [this]
theorem zek.fill2 (h : zek W M L old ks vs) :
  ((zb6 W M L ks vs).2 = 0 ↔ ∀ j, j < ks.length -> MayP (zi M (old (ks.getD j []) ++ zbr ks vs (ks.getD j [])))) /\
  ((zb6 W M L ks vs).2 = 0 -> ∀ k, getK (zb6 W M L ks vs).1 k = if old k ++ zbr ks vs k = [] then none else some (zi M (old k ++ zbr ks vs k))) := by
 obtain ⟨a1, a2⟩ := h.fill1 ks.length (Nat.le_refl _)
 unfold zb6
 simp only
 by_cases h0 : (zaG W M L ks vs ks.length).2 = 0
 ·rw [if_neg (by simp [h0])]
  refine ⟨⟨fun _ => a1.1 h0, fun _ => rfl⟩, fun _ k => ?_⟩
  obtain ⟨b1, b2⟩ := a2 h0
  show getK (zbA W M L _ L.length) k = _
  rw [(zn9 h.l b1 L.length (Nat.le_refl _)).2 k]
  by_cases hk : ∃ j, j < ks.length /\ ks.getD j [] = k
  ·rw [(b2 k).1 hk, if_neg (zgV (zeT (vs := vs).2 hk))]
  ·rw [(b2 k).2 hk]
   have hv : zbr ks vs k = [] := by
    cases hx : zbr ks vs k with
    | nil => rfl
    | cons x l => exact absurd (zeT.1 (by rw [hx]; simp)) hk
   simp only
   rw [hv, List.append_nil]
   by_cases hi : ∃ i, i < L.length /\ (L.getD i ([], nilC)).1 = k
   ·rw [if_pos hi, h.o]
   ·rw [if_neg hi]
    have hn : getK L k = none := zbH.2 (fun x hx e => by
     obtain ⟨i, hil, rfl⟩ := List.mem_iff_getElem.1 hx
     exact hi ⟨i, hil, by rw [List.getD_eq_getElem?_getD, List.getElem?_eq_getElem hil]; exact e⟩)
    rw [h.o] at hn
    by_cases ho : old k = []
    ·rw [if_pos ho]
    ·rw [if_neg ho] at hn; cases hn
 ·rw [if_pos h0]
  exact ⟨⟨fun h' => absurd h' h0, fun h' => absurd (a1.2 h') h0⟩, fun h' => absurd h' h0⟩
end
theorem zga (p q : List ByteArray) : cmpS p q = 0 ↔ p = q := by
 induction p generalizing q with
 | nil =>
   cases q with
   | nil => exact ⟨fun _ => rfl, fun _ => rfl⟩
   | cons y q => exact ⟨fun h => by simp [cmpS] at h, fun h => by cases h⟩
 | cons x p ih =>
   cases q with
   | nil => exact ⟨fun h => by simp [cmpS] at h, fun h => by cases h⟩
   | cons y q =>
     rw [zgc]
     by_cases h : cmpT x y = 0
     ·rw [if_pos h, ih, zib h]; simp
     ·rw [if_neg h]
      refine ⟨fun h' => absurd h' h, fun e => ?_⟩
      injection e with e1 e2
      subst e1
      exact absurd (by unfold cmpT; rw [zfF]; simp) h
theorem zcY (a b : List (List ByteArray)) : zbT a b = 0 ↔ a = b := by
 induction a generalizing b with
 | nil =>
   cases b with
   | nil => exact ⟨fun _ => rfl, fun _ => rfl⟩
   | cons y b => exact ⟨fun h => by simp [zbT] at h, fun h => by cases h⟩
 | cons x a ih =>
   cases b with
   | nil => exact ⟨fun h => by simp [zbT] at h, fun h => by cases h⟩
   | cons y b =>
     unfold zbT
     by_cases h : cmpS x y = 0
     ·rw [if_neg (by simp [h]), ih, (zga x y).1 h]; simp
     ·rw [if_pos h]
      exact ⟨fun h' => absurd h' h, fun e => by injection e with e1 e2; exact absurd ((zga x y).2 e1) h⟩
def cntK {α : Type} [DecidableEq α] (g : Nat -> α) : Nat -> Nat
 | 0 => 0
 | i + 1 => cntK g i + if (∃ j, j < i /\ g j = g i) then 0 else 1
theorem zk5 {α : Type} [DecidableEq α] (g : Nat -> α) (n : Nat) (A : List α) (hA : A.Nodup) (h : ∀ k, k ∈ A ↔ ∃ j, j < n /\ g j = k) : A.length = cntK g n := by
 induction n generalizing A with
 | zero =>
   cases A with
   | nil => rfl
   | cons x A => obtain ⟨j, hj, -⟩ := (h x).1 (by simp); omega
 | succ n ih =>
   unfold cntK
   by_cases hx : ∃ j, j < n /\ g j = g n
   ·rw [if_pos hx, Nat.add_zero]
    refine ih A hA (fun k => ⟨fun hk => ?_, fun ⟨j, hj, e⟩ => (h k).2 ⟨j, by omega, e⟩⟩)
    obtain ⟨j, hj, e⟩ := (h k).1 hk
    rcases Nat.lt_or_ge j n with hlt | hge
    ·exact ⟨j, hlt, e⟩
    ·obtain rfl : j = n := by omega
     obtain ⟨j', hj', e'⟩ := hx
     exact ⟨j', hj', e'.trans e⟩
   ·rw [if_neg hx]
    have hm : g n ∈ A := (h _).2 ⟨n, by omega, rfl⟩
    have := ih (A.erase (g n)) (hA.erase _) (fun k => by
     rw [hA.mem_erase_iff, h k]
     refine ⟨fun ⟨hne, j, hj, e⟩ => ⟨j, ?_, e⟩, fun ⟨j, hj, e⟩ => ⟨fun e' => hx ⟨j, hj, e.trans e'⟩, j, by omega, e⟩⟩
     rcases Nat.lt_or_ge j n with hlt | hge
     ·exact hlt
     ·obtain rfl : j = n := by omega
      exact absurd e.symm hne)
    rw [<- this, List.length_erase_of_mem hm]
    have := List.length_pos_of_mem hm
    omega
theorem zlT {α β : Type} [DecidableEq α] [DecidableEq β] {g : Nat -> α} {g' : Nat -> β} {n : Nat} (h : ∀ i j, i < n -> j < n -> (g i = g j ↔ g' i = g' j)) : cntK g n = cntK g' n := by
 induction n with
 | zero => rfl
 | succ n ih =>
   unfold cntK
   rw [ih (fun i j hi hj => h i j (by omega) (by omega))]
   have : (∃ j, j < n /\ g j = g n) ↔ ∃ j, j < n /\ g' j = g' n := ⟨fun ⟨j, hj, e⟩ => ⟨j, hj, (h j n (by omega) (by omega)).1 e⟩, fun ⟨j, hj, e⟩ => ⟨j, hj, (h j n (by omega) (by omega)).2 e⟩⟩
   simp only [this]
theorem zi0 {L : List KC} (h : ze5 L) : (L.map Prod.fst).Nodup := by
 unfold List.Nodup
 rw [List.pairwise_map]
 exact List.Pairwise.imp (fun h => zkc h) h
theorem zoe {L : List KC} (h : ze5 L) (k : List Int) : k ∈ L.map Prod.fst ↔ getK L k ≠ none := by
 rw [List.mem_map]
 constructor
 ·rintro ⟨x, hx, rfl⟩
  rw [zba h hx]; simp
 ·intro hk
  cases hg : getK L k with
  | none => exact absurd hg hk
  | some c => exact ⟨_, zbh hg, rfl⟩
def zaD {α : Type} [DecidableEq α] (κ : zq -> α) (Fs : List zq) (k : α) : List (List Int) := (Fs.filter fun f => decide (κ f = k)).map Prod.snd
theorem zcE {α : Type} [DecidableEq α] (κ : zq -> α) (a b : List zq) (k : α) : zaD κ (a ++ b) k = zaD κ a k ++ zaD κ b k := by unfold zaD; rw [List.filter_append, List.map_append]
theorem zir {α : Type} [DecidableEq α] {κ : zq -> α} {Fs : List zq} {k : α} {v : List Int} (h : v ∈ zaD κ Fs k) : ∃ f ∈ Fs, f.2 = v := by
 obtain ⟨f, hf, e⟩ := List.mem_map.1 h
 exact ⟨f, (List.mem_filter.1 hf).1, e⟩
theorem zc1 {α : Type} [DecidableEq α] {κ : zq -> α} {Fs : List zq} {k : α} : zaD κ Fs k ≠ [] ↔ ∃ f ∈ Fs, κ f = k := by
 constructor
 ·intro h
  obtain ⟨v, hv⟩ := List.exists_mem_of_ne_nil _ h
  obtain ⟨f, hf, -⟩ := List.mem_map.1 hv
  rw [List.mem_filter] at hf
  exact ⟨f, hf.1, of_decide_eq_true hf.2⟩
 ·rintro ⟨f, hf, e⟩ h
  have : f.2 ∈ ([] : List (List Int)) := h ▸ List.mem_map.2 ⟨f, List.mem_filter.2 ⟨hf, decide_eq_true e⟩, rfl⟩
  cases this
theorem zoj {α : Type} [DecidableEq α] (κ : zq -> α) (Fs : List zq) (k : α) : (zaD κ Fs k).length <= Fs.length := by
 unfold zaD; rw [List.length_map]; exact List.length_filter_le _ _
theorem zfQ {α β : Type} [DecidableEq α] [DecidableEq β] {κ : zq -> α} {κ' : zq -> β} {Fs : List zq} {k : α} {k' : β} (h : ∀ f ∈ Fs, (κ f = k ↔ κ' f = k')) : zaD κ Fs k = zaD κ' Fs k' := by
 have e : Fs.filter (fun f => decide (κ f = k)) = Fs.filter (fun f => decide (κ' f = k')) := List.filter_congr (fun f hf => by rw [decide_eq_decide]; exact h f hf)
 unfold zaD
 rw [e]
def zeI (v : List Int) (f : zq) : KeyX := keyR f.1 v v.length
theorem zcs (fs : List zq) (v : List Int) (i : Nat) : zae fs v i = zeI v (fs.getD i ([], [])) := rfl
theorem zlx (fs : List zq) (v : List Int) (k : KeyX) (i j : Nat) : zbx fs v k i (j + 1) = if i <= j /\ zbT (zae fs v j) k = 0 then zbx fs v k i j ++ [(fs.getD j ([], [])).2] else zbx fs v k i j := rfl
theorem zqx {fs : List zq} {v : List Int} {k : KeyX} {i : Nat} (h : ∀ j, j < i -> zae fs v j ≠ k) (n : Nat) (hn : n <= fs.length) : zbx fs v k i n = zaD (zeI v) (fs.take n) k := by
 induction n with
 | zero => rfl
 | succ n ih =>
   have e : fs.getD n ([], []) = fs[n] := by rw [List.getD_eq_getElem?_getD, List.getElem?_eq_getElem (by omega)]; rfl
   rw [List.take_succ_eq_append_getElem (by omega), zcE, <- ih (by omega), zlx]
   by_cases hk : zae fs v n = k
   ·have hi : i <= n := by
     rcases Nat.lt_or_ge n i with hlt | hge
     ·exact absurd hk (h n hlt)
     ·exact hge
    rw [if_pos ⟨hi, (zcY _ _).2 hk⟩]
    have : zaD (zeI v) [fs[n]] k = [fs[n].2] := by
     unfold zaD
     rw [List.filter_cons, if_pos (by rw [zcs, e] at hk; exact decide_eq_true hk)]; rfl
    rw [this, e]
   ·rw [if_neg (fun h' => hk ((zcY _ _).1 h'.2))]
    have : zaD (zeI v) [fs[n]] k = [] := by
     unfold zaD
     rw [List.filter_cons, if_neg (by rw [zcs, e] at hk; simpa using hk)]; rfl
    rw [this, List.append_nil]
theorem zkB (ds : List KeyX) (k : KeyX) : hadR ds k ds.length = true ↔ k ∈ ds := by
 unfold hadR
 rw [List.take_length, List.any_eq_true]
 exact ⟨fun ⟨d, hd, e⟩ => (zcY d k).1 (of_decide_eq_true e) ▸ hd, fun h => ⟨k, h, decide_eq_true ((zcY k k).2 rfl)⟩⟩
theorem zll (M : Int) (fs : List zq) (v : List Int) (i : Nat) : zan M fs v (i + 1) = if (zan M fs v i).2 ≠ 0 \/ hadR (zan M fs v i).1 (zae fs v i) (zan M fs v i).1.length = true then zan M fs v i else
  if (zaQ M (zbx fs v (zae fs v i) i fs.length)).2 ≠ 0 then ((zan M fs v i).1, (zaQ M (zbx fs v (zae fs v i) i fs.length)).2) else ((zan M fs v i).1 ++ [zae fs v i], 0) := rfl
theorem zgq {M : Nat} (hM : M <= 2) {fs : List zq} (hv : ∀ f ∈ fs, zaU M f.2 = true) (v : List Int) (i : Nat) (hi : i <= fs.length) :
  ((zan M fs v i).2 = 0 ↔ ∀ j, j < i -> MayP (zi M (zaD (zeI v) fs (zae fs v j)))) /\
  ((zan M fs v i).2 = 0 -> (∀ k, k ∈ (zan M fs v i).1 ↔ ∃ j, j < i /\ zae fs v j = k) /\ (zan M fs v i).1.length = cntK (zae fs v) i) := by
 induction i with
 | zero => exact ⟨⟨fun _ j hj => absurd hj (by omega), fun _ => rfl⟩, fun _ => ⟨fun k => ⟨fun h => (by cases h), fun ⟨j, hj, _⟩ => absurd hj (by omega)⟩, rfl⟩⟩
 | succ i ih =>
   obtain ⟨a1, a2⟩ := ih (by omega)
   rw [zll]
   by_cases h0 : (zan M fs v i).2 = 0
   ·obtain ⟨b1, b2⟩ := a2 h0
    by_cases hh : hadR (zan M fs v i).1 (zae fs v i) (zan M fs v i).1.length = true
    ·rw [if_pos (.inr hh)]
     obtain ⟨j0, hj0, e0⟩ := (b1 _).1 ((zkB _ _).1 hh)
     refine ⟨⟨fun _ j hj => ?_, fun h' => a1.2 (fun j hj => h' j (by omega))⟩, fun _ => ⟨fun k => ⟨fun hk => ?_, fun ⟨j, hj, e⟩ => (b1 k).2 ?_⟩, ?_⟩⟩
     ·rcases Nat.lt_or_ge j i with hlt | hge
      ·exact a1.1 h0 j hlt
      ·obtain rfl : j = i := by omega
       rw [<- e0]; exact a1.1 h0 j0 hj0
     ·obtain ⟨j, hj, e⟩ := (b1 k).1 hk
      exact ⟨j, by omega, e⟩
     ·rcases Nat.lt_or_ge j i with hlt | hge
      ·exact ⟨j, hlt, e⟩
      ·obtain rfl : j = i := by omega
       exact ⟨j0, hj0, e0.trans e⟩
     ·rw [b2]
      conv => rhs; unfold cntK
      rw [if_pos ⟨j0, hj0, e0⟩, Nat.add_zero]
    ·rw [if_neg (fun h' => h'.elim (fun h' => h' h0) hh)]
     have hno : ∀ j, j < i -> zae fs v j ≠ zae fs v i := fun j hj e => hh ((zkB _ _).2 ((b1 _).2 ⟨j, hj, e⟩))
     have hvr := zqx hno fs.length (Nat.le_refl _)
     rw [List.take_length] at hvr
     rw [hvr]
     have hne : zaD (zeI v) fs (zae fs v i) ≠ [] := zc1.2 ⟨fs.getD i ([], []), by rw [List.getD_eq_getElem?_getD, List.getElem?_eq_getElem (by omega)]; exact List.getElem_mem _, rfl⟩
     have hf := zih hM hne (fun u hu => by obtain ⟨f, hf, rfl⟩ := zir hu; exact hv f hf)
     by_cases hx : (zaQ M (zaD (zeI v) fs (zae fs v i))).2 = 0
     ·rw [if_neg (fun h => h hx)]
      have hmay := hf.1.1 hx
      refine ⟨⟨fun _ j hj => ?_, fun _ => rfl⟩, fun _ => ⟨fun k => ?_, ?_⟩⟩
      ·rcases Nat.lt_or_ge j i with hlt | hge
       ·exact a1.1 h0 j hlt
       ·obtain rfl : j = i := by omega
        exact hmay
      ·show k ∈ (zan M fs v i).1 ++ [zae fs v i] ↔ _
       rw [List.mem_append, List.mem_singleton, b1]
       refine ⟨fun h => ?_, fun ⟨j, hj, e⟩ => ?_⟩
       ·rcases h with ⟨j, hj, e⟩ | e
        ·exact ⟨j, by omega, e⟩
        ·exact ⟨i, by omega, e.symm⟩
       ·rcases Nat.lt_or_ge j i with hlt | hge
        ·exact .inl ⟨j, hlt, e⟩
        ·obtain rfl : j = i := by omega
         exact .inr e.symm
      ·show ((zan M fs v i).1 ++ [zae fs v i]).length = _
       rw [List.length_append, b2]
       conv => rhs; unfold cntK
       rw [if_neg (fun ⟨j, hj, e⟩ => hno j hj e)]; rfl
     ·rw [if_pos hx]
      exact ⟨⟨fun h' => absurd h' hx, fun h' => absurd (hf.1.2 (h' i (by omega))) hx⟩, fun h' => absurd h' hx⟩
   ·rw [if_pos (.inl h0)]
    exact ⟨⟨fun h' => absurd h' h0, fun h' => a1.2 (fun j hj => h' j (by omega))⟩, fun h' => absurd h' h0⟩
end Go.Proofs.YtgoapnkdcfcjgaaGreat
