/- 4 texts of this claim, in build order. -/
import Derived.Test.YtgoapnkdcfcjgaaGreatPbaoabehe
import Derived.Test.YtgoapnkdcfcjgaaGreatPeaeeijbd
import Derived.Test.YtgoapnkdcfcjgaaGreatPpcmllchl
import Derived.Test.YtgoapnkdcfcjgaaGreatPmlmbgadk
import Derived.Test.YtgoapnkdcfcjgaaGreatPcbimcfdc
set_option linter.unusedVariables false
set_option linter.unusedSimpArgs false
namespace Go.Proofs.YtgoapnkdcfcjgaaGreat
end Go.Proofs.YtgoapnkdcfcjgaaGreat
namespace Go.Proofs.YtgoapnkdcfcjgaaGreat
open Go.ChangeShapes Go.WideShapes Go.ChangeAt Go.RowKit
theorem zlO {v w : List Int} (hl : v.length = w.length) (h : ∀ i, i < v.length -> w.getD i 0 <= v.getD i 0) : zak v w = true := by
 unfold zak
 rw [Bool.and_eq_true]
 refine ⟨decide_eq_true hl, List.all_eq_true.2 (fun b hb => ?_)⟩
 obtain ⟨i, hi, rfl⟩ := List.mem_iff_getElem.1 hb
 rw [List.length_zipWith] at hi
 rw [List.getElem_zipWith]
 have := h i (by omega)
 rw [List.getD_eq_getElem?_getD, List.getD_eq_getElem?_getD, List.getElem?_eq_getElem (by omega), List.getElem?_eq_getElem (by omega)] at this
 exact decide_eq_true this
theorem zgw {v w : List Int} (h : zak v w = true) : v.length = w.length /\ ∀ i, i < v.length -> w.getD i 0 <= v.getD i 0 := by
 unfold zak at h
 rw [Bool.and_eq_true] at h
 have hl := of_decide_eq_true h.1
 refine ⟨hl, fun i hi => ?_⟩
 have h2 := List.all_eq_true.1 h.2 _ (List.getElem_mem (l := List.zipWith (fun a b => decide (b <= a)) v w) (n := i) (by rw [List.length_zipWith]; omega))
 rw [List.getElem_zipWith] at h2
 rw [List.getD_eq_getElem?_getD, List.getD_eq_getElem?_getD, List.getElem?_eq_getElem (by omega), List.getElem?_eq_getElem (by omega)]
 exact of_decide_eq_true h2
theorem zio (q : zX) : (zaP q).length = q.1.length := by
 unfold zaP
 generalize q.1 = l
 generalize q.2 = fs
 induction fs generalizing l with
 | nil => rfl
 | cons f fs ih => rw [List.foldl_cons, ih, zcQ]
theorem zgQ (s : ze) (i : Nat) : (zV s).getD i 0 = ((s.1.getD i (ByteArray.empty, [])).2.length : Int) := by
 unfold zV
 rw [List.getD_eq_getElem?_getD, List.getD_eq_getElem?_getD, List.getElem?_map]
 by_cases h : i < s.1.length
 ·rw [List.getElem?_eq_getElem h]; rfl
 ·rw [List.getElem?_eq_none (by omega)]; rfl
theorem znK {l : List Int} {f : zaS} {b : List Int} (h : ∀ i, i < l.length -> l.getD i 0 <= b.getD i 0) (hf : f.2.1 <= b.getD f.1.toNat 0) : ∀ i, i < (zaR l f).length -> (zaR l f).getD i 0 <= b.getD i 0 := by
 intro i hi
 rw [zcQ] at hi
 unfold zaR
 by_cases e : f.1.toNat = i
 ·subst e
  rw [List.getD_eq_getElem?_getD, List.getElem?_set_self hi]
  have := h _ hi
  simp only [Option.getD_some]
  omega
 ·rw [List.getD_eq_getElem?_getD, List.getElem?_set_ne e, <- List.getD_eq_getElem?_getD]
  exact h i hi
theorem zjn {s : ze} {q : zX} (h : mayQ s q = 0) : zak (zV s) (zaP q) = true := by
 obtain ⟨-, -, h3, h4⟩ := zeP h
 have hcl := zd9 h3
 have hbl : (zV s).length = s.1.length := by simp [zV]
 have hc : zak (zV s) q.1 = true := by
  unfold zap at h3
  rw [Bool.and_eq_true] at h3
  exact h3.1
 obtain ⟨-, h5⟩ := zgw hc
 refine zlO (by rw [zio]; omega) (fun i hi => ?_)
 have key : ∀ (fs : List zaS) (l : List Int), (∀ i, i < l.length -> l.getD i 0 <= (zV s).getD i 0) -> (∀ f ∈ fs, f.2.1 <= (zV s).getD f.1.toNat 0) -> ∀ i, i < (fs.foldl zaR l).length -> (fs.foldl zaR l).getD i 0 <= (zV s).getD i 0 := by
  intro fs
  induction fs with
  | nil => intro l h1 _; exact h1
  | cons f fs ih =>
    intro l h1 h2
    rw [List.foldl_cons]
    exact ih _ (znK h1 (h2 f List.mem_cons_self)) (fun g hg => h2 g (List.mem_cons_of_mem _ hg))
 refine key q.2 q.1 (fun j hj => h5 j (by omega)) (fun f hf => ?_) i (by have := zio q; unfold zaP at this; omega)
 have hok := List.all_eq_true.1 h4 f hf
 unfold okF at hok
 rw [Bool.and_eq_true, Bool.and_eq_true, Bool.and_eq_true, Bool.and_eq_true] at hok
 have := of_decide_eq_true hok.1.1.2
 unfold zbu at this
 rw [zgQ]
 exact this
def zbV (vs : List (List Int)) (need : List Int) (k : Nat) : List Nat := (List.range k).filter fun i => zak (vs.getD i []) need
theorem zgJ (vs : List (List Int)) (need : List Int) (k : Nat) : zb8 vs need k = (zbV vs need k).map (fun n : Nat => (n : Int)) := rfl
theorem zij {vs : List (List Int)} {need : List Int} {k v : Nat} (h : v ∈ zbV vs need k) : v < k := by
 unfold zbV at h
 exact List.mem_range.1 (List.mem_filter.1 h).1
theorem zf8 {s : ze} {q : zX} (h : mayQ s q = 0) : ∃ t, zbV (zh s) (zaP q) (zh s).length = 0 :: t := by
 have hb := zjn h
 unfold zh zbV
 rw [List.length_cons, List.range_succ_eq_map, List.filter_cons, if_pos (by exact hb)]
 exact ⟨_, rfl⟩
theorem znk {ns : List zH} (h : DOk ns) (L : Int) (p : List ByteArray) (he : (zbS ns L p).2.2 = 0) : (zbS ns L p).2.1.length = p.length /\ ∀ n ∈ (zbS ns L p).2.1, n <= 40 := by
 obtain ⟨a1, a2, a3, a4, a5⟩ := zhI h.inv p
 have hd := (zg6 h L p).2.len
 unfold zbS at he hd ⊢
 by_cases hno : mayB p = false \/ (p.length : Int) ≠ L
 ·rw [if_pos hno] at he; simp at he
 ·rw [if_neg hno] at he hd ⊢
  by_cases h40 : 40 < ns.length + (p.length - (zay ns 0 p).1.length)
  ·rw [if_pos h40] at he; simp at he
  ·rw [if_neg h40] at hd ⊢
   show (addD ns p).2.length = p.length /\ ∀ n ∈ (addD ns p).2, n <= 40
   rw [a3]
   refine ⟨by simp [outR], fun n hn => ?_⟩
   obtain ⟨i, -, rfl⟩ := List.mem_map.1 hn
   have := zen (zT (addD ns p).1) (p.take (i + 1))
   rw [zbJ] at this
   exact Nat.le_trans this hd
theorem zcM {α : Type} (l : List α) (x d : α) (j : Nat) : (l ++ [x]).getD j d = if j = l.length then x else l.getD j d := by
 rw [List.getD_eq_getElem?_getD, List.getD_eq_getElem?_getD]
 by_cases h : j < l.length
 ·rw [List.getElem?_append_left h, if_neg (by omega)]
 ·rw [List.getElem?_append_right (by omega), List.getElem?_eq_none (l := l) (by omega)]
  by_cases e : j = l.length
  ·subst e; rw [if_pos rfl, Nat.sub_self]; rfl
  ·rw [if_neg e, List.getElem?_eq_none (by simp; omega)]
def zjg (ps : List (List ByteArray)) (k : Nat) (cc : List (List Int)) : Prop := cc.length = k /\ (∀ i, i < k -> (cc.getD i []).length = (ps.getD i []).length) /\ ∀ x ∈ cc, ∀ n ∈ x, 0 <= n /\ n <= 40
theorem zlS (s : ze) (ds : List (List zH)) (ps : List (List ByteArray)) (k : Nat) (h : ∀ ns ∈ ds, DOk ns) (hk : k <= ds.length) (he : (zM s ds ps k).2.2 = 0) : zjg ps k (zM s ds ps k).2.1 := by
 induction k with
 | zero => exact ⟨rfl, fun i hi => absurd hi (by omega), fun x hx => by cases hx⟩
 | succ k ih =>
   by_cases h0 : (zM s ds ps k).2.2 = 0
   ·obtain ⟨b1, b2, b3⟩ := ih (by omega) h0
    have hl := (zbp s ds ps k).1
    have hdk : DOk ((zM s ds ps k).1.getD k []) := by
     rw [List.getD_eq_getElem?_getD, List.getElem?_eq_getElem (by omega)]
     exact zcS s ds ps k h _ (List.getElem_mem (by omega))
    rw [zdv h0] at he ⊢
    simp only at he ⊢
    obtain ⟨c1, c2⟩ := znk hdk (dimL s k) (ps.getD k []) he
    refine ⟨by rw [List.length_append, b1]; rfl, fun i hi => ?_, fun x hx n hn => ?_⟩
    ·rw [zcM, b1]
     by_cases e : i = k
     ·subst e; rw [if_pos rfl, ziJ, c1]
     ·rw [if_neg e]; exact b2 i (by omega)
    ·rcases List.mem_append.1 hx with hx | hx
     ·exact b3 x hx n hn
     ·obtain rfl : x = zcD _ := by simpa using hx
      unfold zcD at hn
      obtain ⟨m, hm, rfl⟩ := List.mem_map.1 hn
      have := c2 m hm
      exact ⟨by omega, by omega⟩
   ·rw [zd6 h0 (Nat.le_succ k)] at he
    exact absurd he h0
theorem zcU {s : ze} {ds : List (List zH)} {fs : List zq} {k n : Nat} (h : (zE s ds fs k).2.2 ≠ 0) (hk : k <= n) : zE s ds fs n = zE s ds fs k := by
 induction n with
 | zero => obtain rfl : k = 0 := by omega
           rfl
 | succ n ih =>
   rcases Nat.lt_or_ge n k with h1 | h1
   ·obtain rfl : k = n + 1 := by omega
    rfl
   ·have e := ih h1
    show (if (zE s ds fs n).2.2 ≠ 0 then zE s ds fs n else _) = _
    rw [e, if_pos h]
theorem zcr {s : ze} {ds : List (List zH)} {fs : List zq} {k : Nat} (h : (zE s ds fs k).2.2 = 0) :
  zE s ds fs (k + 1) = ((zM s (zE s ds fs k).1 (fs.getD k ([], [])).1 (fs.getD k ([], [])).1.length).1, (zE s ds fs k).2.1 ++ [(zM s (zE s ds fs k).1 (fs.getD k ([], [])).1 (fs.getD k ([], [])).1.length).2.1], (zM s (zE s ds fs k).1 (fs.getD k ([], [])).1 (fs.getD k ([], [])).1.length).2.2) := by
 show (if (zE s ds fs k).2.2 ≠ 0 then zE s ds fs k else _) = _
 rw [if_neg (by simpa using h)]
theorem zdN (s : ze) (ds : List (List zH)) (fs : List zq) (k : Nat) (h : ∀ ns ∈ ds, DOk ns) : (zE s ds fs k).1.length = ds.length /\ (∀ ns ∈ (zE s ds fs k).1, DOk ns) /\ ((zE s ds fs k).2.2 = 0 -> (zE s ds fs k).2.1.length = k) := by
 induction k with
 | zero => exact ⟨rfl, h, fun _ => rfl⟩
 | succ k ih =>
   by_cases h0 : (zE s ds fs k).2.2 = 0
   ·rw [zcr h0]
    exact ⟨(zbp _ _ _ _).1.trans ih.1, zcS _ _ _ _ ih.2.1, fun _ => by simp only [List.length_append, List.length_singleton]; rw [ih.2.2 h0]⟩
   ·rw [zcU h0 (Nat.le_succ k)]
    exact ⟨ih.1, ih.2.1, fun e => absurd e h0⟩
theorem zmc (s : ze) (ds : List (List zH)) (fs : List zq) (k : Nat) (h : ∀ ns ∈ ds, DOk ns) (hf : ∀ j, (fs.getD j ([], [])).1.length <= ds.length) (he : (zE s ds fs k).2.2 = 0) :
  ∀ j, j < k -> zjg (fs.getD j ([], [])).1 (fs.getD j ([], [])).1.length ((zE s ds fs k).2.1.getD j []) := by
 induction k with
 | zero => exact fun j hj => absurd hj (by omega)
 | succ k ih =>
   by_cases h0 : (zE s ds fs k).2.2 = 0
   ·have hok := zdN s ds fs k h
    rw [zcr h0] at he ⊢
    simp only at he ⊢
    intro j hj
    rw [zcM, hok.2.2 h0]
    by_cases e : j = k
    ·subst e; rw [if_pos rfl]
     exact zlS s _ _ _ hok.2.1 (by rw [hok.1]; exact hf j) he
    ·rw [if_neg e]; exact ih h0 j (by omega)
   ·rw [zcU h0 (Nat.le_succ k)] at he
    exact absurd he h0
theorem zjr {s : ze} (h : mayS s = true) {v : Nat} (hv : v < (zh s).length) : ((zh s).getD v []).length = s.1.length /\ ∀ i, i < s.1.length -> ((zh s).getD v []).getD i 0 <= ((s.1.getD i (ByteArray.empty, [])).2.length : Int) := by
 have hm := h
 unfold mayS at h
 rw [Bool.and_eq_true, Bool.and_eq_true, Bool.and_eq_true, Bool.and_eq_true] at h
 obtain ⟨-, h4⟩ := h
 rcases v with _ | v
 ·refine ⟨by show (zV s).length = _; simp [zV], fun i hi => ?_⟩
  show (zV s).getD i 0 <= _
  rw [zgQ]
  exact Int.le_refl _
 ·have hv2 : v < s.2.2.length := by unfold zh at hv; rw [List.length_cons] at hv; omega
  have e : (zh s).getD (v + 1) [] = s.2.2.getD v [] := rfl
  have := List.all_eq_true.1 h4 v (List.mem_range.2 hv2)
  rw [Bool.and_eq_true, Bool.and_eq_true] at this
  have hc := this.1.1
  unfold zap at hc
  rw [Bool.and_eq_true] at hc
  obtain ⟨c1, c2⟩ := zgw hc.1
  rw [e]
  have hbl : (zV s).length = s.1.length := by simp [zV]
  refine ⟨by omega, fun i hi => ?_⟩
  have := c2 i (by omega)
  rw [zgQ] at this
  exact this
theorem zpU {s : ze} {f : zq} {cc : List (List Int)} (hm : mayS s = true) (hf : zaC s f = true) (hc : zjg f.1 f.1.length cc) {v : Nat} (hv : v < (zh s).length) : zl7 ((zh s).getD v []) cc := by
 obtain ⟨h1, h2⟩ := zjr hm hv
 unfold zaC at hf
 rw [Bool.and_eq_true, Bool.and_eq_true, Bool.and_eq_true] at hf
 obtain ⟨⟨⟨-, f1⟩, -⟩, f2⟩ := hf
 have f1 := of_decide_eq_true f1
 intro i hi h0
 rw [h1] at hi
 refine ⟨by rw [hc.1]; omega, ?_⟩
 rw [hc.2.1 i (by omega)]
 have := of_decide_eq_true (List.all_eq_true.1 f2 i (List.mem_range.2 (by omega)))
 rw [this]
 exact h2 i hi
theorem zpa {W M : Nat} {L : List KC} (h : OkL W M L) (ks vs : List (List Int)) : OkL W M (zb6 W M L ks vs).1 /\ (zb6 W M L ks vs).1.length <= L.length + ks.length := by
 unfold zb6
 simp only
 have h1 := zkl W M L ks vs ks.length
 split
 ·exact ⟨h, Nat.le_add_right _ _⟩
 ·have h2 := zku (L0 := L) h1.1 L.length
  exact ⟨h2.1, by have := h2.2; have := h1.2; simp only; omega⟩
theorem zes {s : ze} {cs : List (List KC)} {codes : List (List (List Int))} {vs : List (List Int)} {k n : Nat} (h : (zU s cs codes vs k).2 ≠ 0) (hk : k <= n) : zU s cs codes vs n = zU s cs codes vs k := by
 induction n with
 | zero => obtain rfl : k = 0 := by omega
           rfl
 | succ n ih =>
   rcases Nat.lt_or_ge n k with h1 | h1
   ·obtain rfl : k = n + 1 := by omega
    rfl
   ·have e := ih h1
    show (if (zU s cs codes vs n).2 ≠ 0 then zU s cs codes vs n else _) = _
    rw [e, if_pos h]
theorem zdq {s : ze} {cs : List (List KC)} {codes : List (List (List Int))} {vs : List (List Int)} {v : Nat} (h : (zU s cs codes vs v).2 = 0) :
  zU s cs codes vs (v + 1) = if (zb6 s.1.length s.2.1.length ((zU s cs codes vs v).1.getD v []) (codes.map (keyF ((zh s).getD v []))) vs).2 ≠ 0 then ((zU s cs codes vs v).1, (zb6 s.1.length s.2.1.length ((zU s cs codes vs v).1.getD v []) (codes.map (keyF ((zh s).getD v []))) vs).2)
   else ((zU s cs codes vs v).1.set v (zb6 s.1.length s.2.1.length ((zU s cs codes vs v).1.getD v []) (codes.map (keyF ((zh s).getD v []))) vs).1, 0) := by
 show (if (zU s cs codes vs v).2 ≠ 0 then zU s cs codes vs v else _) = _
 rw [if_neg (by simpa using h)]
theorem zdZ (s : ze) (cs : List (List KC)) (codes : List (List (List Int))) (vs : List (List Int)) (v : Nat) (h : ∀ L ∈ cs, OkL s.1.length s.2.1.length L) :
  (zU s cs codes vs v).1.length = cs.length /\ (∀ L ∈ (zU s cs codes vs v).1, OkL s.1.length s.2.1.length L) /\ (∀ j, ((zU s cs codes vs v).1.getD j []).length <= (cs.getD j []).length + codes.length) /\ ∀ j, v <= j -> (zU s cs codes vs v).1.getD j [] = cs.getD j [] := by
 induction v with
 | zero => exact ⟨rfl, h, fun j => Nat.le_add_right _ _, fun j _ => rfl⟩
 | succ v ih =>
   obtain ⟨a1, a2, a3, a4⟩ := ih
   by_cases h0 : (zU s cs codes vs v).2 = 0
   ·rw [zdq h0]
    split
    ·exact ⟨a1, a2, a3, fun j hj => a4 j (by omega)⟩
    ·have hL : OkL s.1.length s.2.1.length ((zU s cs codes vs v).1.getD v []) := by
      by_cases hv : v < (zU s cs codes vs v).1.length
      ·rw [List.getD_eq_getElem?_getD, List.getElem?_eq_getElem hv]; exact a2 _ (List.getElem_mem hv)
      ·rw [List.getD_eq_getElem?_getD, List.getElem?_eq_none (by omega)]; exact OkL.nil_ _ _
     have hf := zpa hL (codes.map (keyF ((zh s).getD v []))) vs
     rw [List.length_map, a4 v (Nat.le_refl _)] at hf
     rw [a4 v (Nat.le_refl _)]
     refine ⟨by rw [List.length_set]; exact a1, fun L hL => ?_, fun j => ?_, fun j hj => ?_⟩
     ·rcases List.mem_or_eq_of_mem_set hL with hL | rfl
      ·exact a2 L hL
      ·exact hf.1
     ·rw [List.getD_eq_getElem?_getD, List.getElem?_set]
      by_cases e : v = j
      ·subst e
       rw [if_pos rfl]
       split
       ·exact hf.2
       ·simp
      ·rw [if_neg e, <- List.getD_eq_getElem?_getD]; exact a3 j
     ·rw [List.getD_eq_getElem?_getD, List.getElem?_set_ne (by omega), <- List.getD_eq_getElem?_getD]
      exact a4 j (by omega)
   ·rw [zes h0 (Nat.le_succ v)]
    exact ⟨a1, a2, a3, fun j hj => a4 j (by omega)⟩
theorem zeo {s : ze} {fs : List zq} (h : zbe s fs = 0) : mayS s = true /\ 1 <= fs.length /\ fs.length <= 8 /\ ∀ f ∈ fs, zaC s f = true := by
 unfold zbe at h
 by_cases h1 : mayS s = true
 ·rw [h1, if_neg (by simp)] at h
  by_cases h2 : fs.length = 0 \/ 8 < fs.length
  ·rw [if_pos h2] at h; simp at h
  ·rw [if_neg h2] at h
   by_cases h3 : (fs.any fun f => !zaC s f) = true
   ·rw [if_pos h3] at h; simp at h
   ·refine ⟨h1, by omega, by omega, fun f hf => ?_⟩
    cases hb : zaC s f
    ·exact absurd (List.any_eq_true.2 ⟨f, hf, by rw [hb]; rfl⟩) h3
    ·rfl
 ·rw [if_pos (by simpa using h1)] at h; simp at h
theorem zcK {s : ze} {f : zq} (h : zaC s f = true) : f.1.length = s.1.length /\ f.2.length = s.2.1.length := by
 unfold zaC at h
 rw [Bool.and_eq_true, Bool.and_eq_true, Bool.and_eq_true] at h
 exact ⟨of_decide_eq_true h.1.1.2, of_decide_eq_true h.1.2⟩
theorem zdP {l : LatX} (h : zfi l) (fs : List zq) : zfi (zao l fs).1 /\ (zao l fs).1.s = l.s /\ ∀ v, ((zao l fs).1.cs.getD v []).length <= (l.cs.getD v []).length + 8 := by
 unfold zao
 have hn : zfi l /\ l.s = l.s /\ ∀ v, (l.cs.getD v []).length <= (l.cs.getD v []).length + 8 := ⟨h, rfl, fun v => Nat.le_add_right _ _⟩
 by_cases h1 : zbe l.s fs ≠ 0
 ·rw [if_pos h1]; exact hn
 ·rw [if_neg h1]
  simp only
  obtain ⟨b1, b2, b3, b4⟩ := zeo (by simpa using h1)
  have hf := zdN l.s l.ds fs fs.length h.dok
  by_cases h2 : (zE l.s l.ds fs fs.length).2.2 ≠ 0
  ·rw [if_pos h2]; exact hn
  ·rw [if_neg h2]
   by_cases h3 : NUM < l.n + fs.length
   ·rw [if_pos h3]; exact hn
   ·rw [if_neg h3]
    split
    ·exact hn
    ·have hv := zdZ l.s l.cs (zE l.s l.ds fs fs.length).2.1 (fs.map Prod.snd) (zh l.s).length h.cok
     have hl := hf.2.2 (by simpa using h2)
     refine ⟨⟨h.may, hf.1.trans h.dlen, hf.2.1, hv.1.trans h.clen, hv.2.1, ?_, ?_⟩, rfl, fun v => ?_⟩
     ·have := h.n0; show 0 <= l.n + (fs.length : Int); omega
     ·show l.n + (fs.length : Int) <= NUM; omega
     ·have := hv.2.2.1 v
      rw [hl] at this
      show ((zU _ _ _ _ _).1.getD v []).length <= _
      omega
end Go.Proofs.YtgoapnkdcfcjgaaGreat
namespace Go.Proofs.YtgoapnkdcfcjgaaGreat
open Go.ChangeShapes Go.WideShapes Go.ChangeAt Go.RowKit Go.Maps
def CopP (W M : Nat) (L : List KC) (w : World) (e : Ending) (w' : World) : Prop :=
 ∃ p' m' D', e = .returned (.pointer (some ⟨p', 0, none⟩)) /\ CubW w' D' p' m' W M L /\ (∀ k, D' k -> w.heap.size <= k) /\ Below w.heap.size w w'
def CpRel (L : List KC) (Dm : DataW Value) (mg r n W M pd md : Nat) (wL : World) (wr : World) : Prop :=
 ∃ (V : List (List Int)) (left : Lit -> Bool) (cnt : Nat) (Dd : Nat -> Prop) (Q : List KC), wr.ranges Tryz.prog 149 zd7 mg r n Dm left cnt /\ (∀ g ∈ V, ∃ x ∈ L, x.1 = g) /\ (∀ x ∈ L, left (zcx x.1) = !decide (x.1 ∈ V)) /\
  (∀ kl, left kl = true -> ∃ x ∈ L, kl = zcx x.1) /\ CubW wr Dd pd md W M Q /\ OkL W M Q /\ (∀ g, getK Q g = if g ∈ V then getK L g else none) /\ Q.length <= V.length /\ V.length + cnt <= L.length /\
  (∀ k, Dd k -> wL.heap.size <= k /\ k ≠ r) /\ Below wL.heap.size wL wr
set_option maxRecDepth 100000 in
set_option maxHeartbeats 6400000 in
theorem znJ (D : Nat -> Prop) (p m W M : Nat) (L : List KC) (w : World) (hc : CubW w D p m W M L) (hs : OkL W M L) (h1W : 1 <= W) (hW : W <= 3) (h1M : 1 <= M) (hM : M <= 2) (hL : L.length <= 600) :
  Calls Tryz.prog 67 #[.pointer (some ⟨p, 0, none⟩)] w (CopP W M L w) := by
 have hpl := hc.2.2.2.1 p hc.1
 have hml := hc.2.2.2.1 m hc.2.1
 have y0 := hc.2.2.2.2.1
 have y1 := hc.2.2.2.2.2.1
 have y2 := hc.2.2.2.2.2.2.1
 obtain ⟨Dm, g1, g2, g3, g4, g5⟩ := hc.2.2.2.2.2.2.2
 have HDl := hid hc.2.2.2.1
 have HS := hid hs; have HC := hid hc
 have HNW := hid (zgT W M w.drew h1W hW h1M hM)
 have G2 := hid g2; have G3 := hid g3; have G4 := hid g4; have G5 := hid g5
 have g1 := zhK g1
 obtain ⟨mes5, mck5, hbm, hrest⟩ := g1
 have HBM := hid hbm; have HREST := hid hrest
 clear hc hs g2 g3 g4 g5 hbm hrest
 go_enter Tryz.func67, Tryz.ntmps67
 go_wp2
 go_region_held3 (fun w' => w'.cell? ⟨p, 0, none⟩ = some (.int .i64 W) /\ w'.cell? ⟨p, 1, none⟩ = some (.int .i64 M) /\ w'.cell? ⟨p, 2, none⟩ = some (.map (some m))) (go_keep)
  (((with_reducible refine HNW.out.mono ?_); rintro e w5 ⟨pd, md, Dd, rfl, hcd, hDd, hb5⟩; have hb5 : Below w.heap.size w w5 := (Below.refl _ _).drew.trans hb5; have y0 := zc hb5 hpl y0; have y1 := zc hb5 hpl y1; have y2 := zc hb5 hpl y2; have HCD := hid hcd; have HDD := hid hDd; have HB5 := hid hb5; clear hcd hDd hb5))
 have hs5 := HB5.out.size
 have g1' : w5.ownsMap Tryz.prog 149 zd7 m (Maps.size Dm) Dm := ⟨mes5, mck5, (HB5.out.block _ (by omega)).trans HBM.out, HREST.out⟩
 go_wp2_with (first
  | (at_range; refine wpList_range_own _ rfl _ 102 rfl 149 125 zbs Tryz.underlying102 _ m (Maps.size Dm) Dm rfl g1' ?_; intro w6 hrg6 hgr6 hs6)
  | go_in)
 go_frame
 have hs56 : w5.heap.size < w6.heap.size := by omega
 go_loopw [] (fun wr => CpRel L Dm m w5.heap.size (Maps.size Dm) W M pd md w wr) (fun wr => wr.rangeLeft m w5.heap.size)
 case atStart =>
  have hb56 : Below w5.heap.size w5 w6 := (Below.refl _ _).grown hgr6 (Nat.le_refl _) (fun j hj => by cases hj)
  refine ⟨[], _, _, Dd, [], hrg6, (fun g hg => by cases hg), (fun x hx => by rw [G3.out x.1 (HS.out.key x hx), zba HS.out.sort hx]; rfl), G5.out, HCD.out.below hb56, OkL.nil_ W M, (fun g => by simp [zgY]), Nat.le_refl _, by simp [G2.out], fun k hk => ?_, HB5.out.trans (hb56.mono hs5)⟩
  have h1 : w.heap.size <= k := HDD.out k hk
  have h2 := HCD.out.2.2.2.1 k hk
  omega
 case round =>
  obtain ⟨V, left, cnt, De, Q, hrg, hin, hlf, hlk, hcq, hokq, hgq, hql, hvc, hdk, hbl⟩ := hrel
  have hsl := hbl.size
  go_wp2_with (first
   | (at_next; refine wpList_next_ranges _ rfl _ rfl 149 zbs zd7 (fun x : T3 => keyV x.1 x.2.1 x.2.2) (fun v : Value => v) (fun key kl h => by obtain ⟨a, b, c, e⟩ := zmQ h; exact ⟨(a, b, c), e⟩) (fun v y h => ⟨v, rfl⟩) m w5.heap.size (Maps.size Dm) Dm left cnt rfl hrg ?_ ?_)
   | go_in)
  ·intro hc0 hl0
   have hall : ∀ x ∈ L, x.1 ∈ V := fun x hx => by
    have := hlf x hx
    rw [hl0] at this
    simpa using this
   have hQ : Q = L := zhS hokq.sort HS.out.sort (fun g => by
    rw [hgq]
    by_cases hg : g ∈ V
    ·rw [if_pos hg]
    ·rw [if_neg hg]
     symm
     exact zbH.2 (fun x hx e => hg (e ▸ hall x hx)))
   subst hQ
   have HCQ := hid hcq
   have HBF := hid hbl
   have hdk' : ∀ k, De k -> w.heap.size <= k := fun k hk => (hdk k hk).1
   have HDK := hid hdk'
   clear hrg hin hlf hlk hcq hokq hgq hdk hbl hall hl0 hdk'
   go_wp2
   go_ret
   exact ⟨pd, md, De, rfl, HCQ.out, HDK.out, HBF.out⟩
  ·intro x1 x2 x3 c2 kl yd yp w7 cnt1 hkl hlx hRv hat hrg1 hlt hg1 hs7 hen
   obtain ⟨x, hx, rfl⟩ := hlk kl hlx
   have hokx := HS.out.key x hx
   have hmay := HS.out.may x hx
   have hfull := HS.out.full x hx
   have hlen := HS.out.len x hx
   have hgx := zba HS.out.sort hx
   have hkv := zbs.inj hkl (zck hokx)
   obtain ⟨v, hv, hr⟩ := G4.out x hx
   have hcv : c2 = v := by
    unfold zd7 at hRv
    have e1 := congrArg Prod.fst (Option.some.inj hRv)
    have e2 := (hat (.held undef)).symm.trans (hv (.held undef))
    exact DataW.held.inj (e1.trans e2)
   subst hcv
   have hp7 : (x1, x2, x3) = t3 x.1 := by
    unfold keyT keyV at hkv
    simp only [Value.agg.injEq, Array.mk.injEq, List.cons.injEq, Value.int.injEq, true_and, and_true] at hkv
    exact Prod.ext hkv.1 (Prod.ext hkv.2.1 hkv.2.2)
   have hr7 := hrg1.lt
   have hbl7 : Below w.heap.size w w7 := hbl.grown hg1 hsl (fun j hj => by cases hj; exact hs5)
   obtain ⟨A1, c1, A2, c2, A3, c3, rfl⟩ := hr.lit
   unfold keyV at hen
   generalize hxk : x.1 = key at *
   generalize hxc : x.2 = c at *
   obtain ⟨W8, hW8⟩ : ∃ W', W' = (w7.alloc (.cells #[.int .i64 x1, .int .i64 x2, .int .i64 x3] 149)).alloc (.cells #[.int .i64 c.n, .slice A1 c.s.length c1, .slice A2 c.lo.length c2, .slice A3 c.hi.length c3] 125) := ⟨_, rfl⟩
   have hz8 : W8.heap.size = wr.heap.size + 2 := by rw [hW8]; simp [hs7]
   have hb78 : Below w7.heap.size w7 W8 := by rw [hW8]; exact (bl1 _ _).alloc (by simp) _
   have hbl8 := hbl7.trans (hb78.mono (by omega))
   have e0 : W8.cell? ⟨wr.heap.size, 0, none⟩ = some (.int .i64 x1) := by rw [hW8, <- hs7]; simp [go_sem]
   have e1 : W8.cell? ⟨wr.heap.size, 1, none⟩ = some (.int .i64 x2) := by rw [hW8, <- hs7]; simp [go_sem]
   have e2 : W8.cell? ⟨wr.heap.size, 2, none⟩ = some (.int .i64 x3) := by rw [hW8, <- hs7]; simp [go_sem]
   have b0 : W8.cell? ⟨wr.heap.size + 1, 0, none⟩ = some (.int .i64 c.n) := by rw [hW8, <- hs7]; simp [go_sem]
   have b1 : W8.cell? ⟨wr.heap.size + 1, 1, none⟩ = some (.slice A1 c.s.length c1) := by rw [hW8, <- hs7]; simp [go_sem]
   have b2 : W8.cell? ⟨wr.heap.size + 1, 2, none⟩ = some (.slice A2 c.lo.length c2) := by rw [hW8, <- hs7]; simp [go_sem]
   have b3 : W8.cell? ⟨wr.heap.size + 1, 3, none⟩ = some (.slice A3 c.hi.length c3) := by rw [hW8, <- hs7]; simp [go_sem]
   have hcr := (hr.kept (w' := W8) (fun i hi => hbl8.block i (HDl.out i hi.1))).read
   have hcq7 : CubW w7 De pd md W M Q := hcq.kept (fun k hk => hg1.block k (hcq.2.2.2.1 k hk) (fun e => by injection e with e; exact (hdk k hk).2 e)) (by omega)
   have hd2 := zc hb78 (by have := hcq7.2.2.2.1 pd hcq7.1; omega) hcq7.2.2.2.2.2.2.1
   have hpds := hcq.2.2.2.1 pd hcq.1
   have hmds := hcq.2.2.2.1 md hcq.2.1
   have hmdl := hdk md hcq.2.1
   have hpmd : pd ≠ md := hcq.2.2.1
   have hlen3 : c.s.length <= 1073741824 /\ c.lo.length <= 1073741824 /\ c.hi.length <= 1073741824 := by
    have q := hmay.1
    have q1 := q.1; have q2 := q.2.1; have q3 := q.2.2
    omega
   have HCP := hid (fun W' (h : Below W8.heap.size W8 W') => zcg (.agg #[.int .i64 c.n, .slice A1 c.s.length c1, .slice A2 c.lo.length c2, .slice A3 c.hi.length c3]) c W' ((hcr.below h).more h.size) hlen3)
   have hst := hid (fun (W' : World) (u : Value) (H : Nat) (hb : Below w7.heap.size w7 W') (ho : OwnC W' H u c) (hH : w7.heap.size <= H) => hcq7.store hokq hW (by omega) hokx hb ho hH)
   unfold keyT keyV at hst
   have h33 := hp7
   unfold t3 at h33
   simp only [Prod.mk.injEq] at h33
   rw [<- h33.1, <- h33.2.1, <- h33.2.2] at hst
   have hql' : (setK key c Q).length <= V.length + 1 := by
    rw [zeM hokq.sort]
    split <;> omega
   have hlf' : ∀ y ∈ L, (left (zcx y.1) && !(zcx y.1).sameKey (zcx key)) = !decide (y.1 ∈ V ++ [key]) := fun y hy => by
    rw [hlf y hy]
    by_cases e : y.1 = key
    ·rw [e, zex (zgS hokx)]; simp
    ·rw [Maps.sameKey_ne (fun h => e (zfV (HS.out.key y hy) hokx hW h))]
     simp [e]
   have hgq' : ∀ g, getK (setK key c Q) g = if g ∈ V ++ [key] then getK L g else none := fun g => by
    rw [zbX hokq.sort, hgq]
    by_cases e : key = g
    ·subst e
     rw [if_pos rfl, if_pos (by simp), hgx]
    ·rw [if_neg e]
     have : g ∈ V ++ [key] ↔ g ∈ V := ⟨fun h => (List.mem_append.1 h).elim id (fun h => absurd (List.mem_singleton.1 h).symm e), List.mem_append_left _⟩
     by_cases hg : g ∈ V
     ·rw [if_pos hg, if_pos (this.2 hg)]
     ·rw [if_neg hg, if_neg (fun h => hg (this.1 h))]
   have hrel' : ∀ (w10 : World) (D10 : Nat -> Prop), w10.ranges Tryz.prog 149 zd7 m w5.heap.size (Maps.size Dm) Dm (fun z => left z && !z.sameKey (zcx key)) cnt1 -> CubW w10 D10 pd md W M (setK key c Q) -> (∀ k, D10 k -> De k \/ w7.heap.size <= k) -> Below w.heap.size w w10 -> CpRel L Dm m w5.heap.size (Maps.size Dm) W M pd md w w10 := fun w10 D10 q1 q2 q3 q4 => by
    refine ⟨V ++ [key], _, cnt1, D10, setK key c Q, q1, fun g hg => ?_, hlf', fun kl h => hlk kl (by simp at h; exact h.1), q2, hokq.set hokx hmay hfull hlen, hgq', ?_, ?_, fun k hk => ?_, q4⟩
    ·rcases List.mem_append.1 hg with h | h
     ·exact hin g h
     ·exact ⟨x, hx, by rw [hxk]; exact (List.mem_singleton.1 h).symm⟩
    ·rw [List.length_append, List.length_singleton]; exact hql'
    ·rw [List.length_append, List.length_singleton]; omega
    ·rcases q3 k hk with h | h
     ·exact hdk k h
     ·omega
   have HREL := hid hrel'; have HRG1 := hid hrg1; have HRG := hid hrg; have HBL8 := hid hbl8; have HB78 := hid hb78; have HW8 := hid hW8
   clear hrel' hgq' hlf' hql' hlen3 hcr hr hrg1 hrg hbl hbl7 hbl8 hb78 hW8 hin hlf hlk hcq hokq hgq hdk hx hokx hmay hfull hlen hgx hkv hkl hlx hRv hat hg1 hv hp7 h33 hxk hxc hcq7
   go_upto_region 5 with (fail)
   rw [<- HW8.out]
   go_region_held3 (fun w' => w'.cell? ⟨pd, 2, none⟩ = some (.map (some md)) /\ w'.cell? ⟨wr.heap.size, 0, none⟩ = some (.int .i64 x1) /\ w'.cell? ⟨wr.heap.size, 1, none⟩ = some (.int .i64 x2) /\ w'.cell? ⟨wr.heap.size, 2, none⟩ = some (.int .i64 x3) /\ w'.cell? ⟨wr.heap.size + 1, 0, none⟩ = some (.int .i64 c.n) /\ w'.cell? ⟨wr.heap.size + 1, 1, none⟩ = some (.slice A1 c.s.length c1) /\ w'.cell? ⟨wr.heap.size + 1, 2, none⟩ = some (.slice A2 c.lo.length c2) /\ w'.cell? ⟨wr.heap.size + 1, 3, none⟩ = some (.slice A3 c.hi.length c3)) (go_keep)
    ((go_at_call 95; (with_reducible refine (HCP.out _ (Below.refl _ _).drew).mono ?_); rintro e w8 ⟨y8, rfl, ho8, hb8⟩; have hb8 : Below W8.heap.size W8 w8 := (Below.refl _ _).drew.trans hb8; have hzz := hb8.size; have hB78 := HB78.out.trans (hb8.mono (by omega)); have hBL := HBL8.out.trans (hb8.mono (by omega)); have d2 := zc hb8 (by omega) hd2; have e0 := zc hb8 (by omega) e0; have e1 := zc hb8 (by omega) e1; have e2 := zc hb8 (by omega) e2; have b0 := zc hb8 (by omega) b0; have b1 := zc hb8 (by omega) b1; have b2 := zc hb8 (by omega) b2; have b3 := zc hb8 (by omega) b3; have ho6 := ho8; obtain ⟨g1, g2, g3, rfl, ho1, ho2, ho3, -, -⟩ := ho8; obtain ⟨F1, f1, rfl, -, -, -⟩ := zl ho1; obtain ⟨F2, f2, rfl, -, -, -⟩ := zl ho2; obtain ⟨F3, f3, rfl, -, -, -⟩ := zl ho3; obtain ⟨w10, hrun10, hcw10, hgr10, hu10, hu10'⟩ := hst.out w8 _ _ hB78 ho6 (by show w7.heap.size <= W8.heap.size; omega); have HRX := hid (HREL.out w10 _ (HRG1.out.kept hu10 (fun e => by injection e with e; omega) (fun e => by injection e with e; exact hmdl.2 e.symm)) hcw10 (fun k hk => hk.imp id (fun h => h.1)) (hBL.trans (hu10'.below hmdl.1 (by omega)))); have HLT := hid ((HRG1.out.kept hu10 (fun e => by injection e with e; omega) (fun e => by injection e with e; exact hmdl.2 e.symm)).left_eq); have d2' := hu10'.cellAt (by omega) hpmd d2; have e0' := hu10'.cellAt (by omega) (by omega) e0; have e1' := hu10'.cellAt (by omega) (by omega) e1; have e2' := hu10'.cellAt (by omega) (by omega) e2; have b0' := hu10'.cellAt (by omega) (by omega) b0; have b1' := hu10'.cellAt (by omega) (by omega) b1; have b2' := hu10'.cellAt (by omega) (by omega) b2; have b3' := hu10'.cellAt (by omega) (by omega) b3; clear ho1 ho2 ho3 ho6 hcw10 hgr10 hu10 hu10' hb8 hB78 hBL))
   go_wp2
   go_roundw
   case rel => exact HRX.out
   case measure => rw [HLT.out, HRG.out.left_eq]; exact hlt
end Go.Proofs.YtgoapnkdcfcjgaaGreat
