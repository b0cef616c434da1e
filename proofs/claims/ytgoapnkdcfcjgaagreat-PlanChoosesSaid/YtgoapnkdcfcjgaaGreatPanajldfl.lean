/- 2 texts of this claim, in build order. -/
import Derived.Test.YtgoapnkdcfcjgaaGreatPojcoagpo
import Derived.Test.YtgoapnkdcfcjgaaGreatPefggpapc
set_option linter.unusedVariables false
set_option linter.unusedSimpArgs false
namespace Go.Proofs.YtgoapnkdcfcjgaaGreat
open Go.ChangeShapes Go.WideShapes Go.ChangeAt Go.RowKit Go.Deep
abbrev PlR := List (List ByteArray)
def zaB (s : ze) (pls : List PlR) (ps : List (List ByteArray)) : Nat -> List PlR × Int
 | 0 => (pls, 0)
 | i + 1 =>
   let r := zaB s pls ps i
   if r.2 ≠ 0 then r else ((r.1.set i (addR (r.1.getD i []) (dimL s i) (ps.getD i [])).1), (addR (r.1.getD i []) (dimL s i) (ps.getD i [])).2.2)
def zS (s : ze) (pls : List PlR) (fs : List zq) : Nat -> List PlR × Int
 | 0 => (pls, 0)
 | k + 1 =>
   let r := zS s pls fs k
   if r.2 ≠ 0 then r else zaB s r.1 (fs.getD k ([], [])).1 pls.length
def zbn (s : ze) (all : List zq) : Nat -> Int
 | 0 => 0
 | v + 1 => if zbn s all v ≠ 0 then zbn s all v else if (zan s.2.1.length all ((zh s).getD v []) all.length).2 ≠ 0 then 14 else 0
def zbo (s : ze) (Ls : List zq) (pls : List PlR) (fs : List zq) : (List zq × List PlR) × Int :=
 if zbe s fs ≠ 0 then ((Ls, pls), zbe s fs) else
 if (zS s pls fs fs.length).2 ≠ 0 then ((Ls, pls), (zS s pls fs fs.length).2) else
 if zbn s (Ls ++ fs) (zh s).length ≠ 0 then ((Ls, pls), 14) else ((Ls ++ fs, (zS s pls fs fs.length).1), 0)
theorem zcT {s : ze} {pls : List PlR} {ps : List (List ByteArray)} {i : Nat} (h : (zaB s pls ps i).2 = 0) :
  zaB s pls ps (i + 1) = ((zaB s pls ps i).1.set i (addR ((zaB s pls ps i).1.getD i []) (dimL s i) (ps.getD i [])).1, (addR ((zaB s pls ps i).1.getD i []) (dimL s i) (ps.getD i [])).2.2) := by
 rw [zaB]; rw [if_neg (by simp [h])]
theorem zdR {s : ze} {pls : List PlR} {ps : List (List ByteArray)} {k n : Nat} (h : (zaB s pls ps k).2 ≠ 0) (hk : k <= n) : zaB s pls ps n = zaB s pls ps k := by
 induction n with
 | zero => obtain rfl : k = 0 := by omega
           rfl
 | succ n ih =>
   rcases Nat.lt_or_ge n k with h1 | h1
   ·obtain rfl : k = n + 1 := by omega
    rfl
   ·have e := ih h1
    rw [zaB]; rw [e, if_pos h]
theorem zbK {s : ze} {pls : List PlR} {fs : List zq} {k : Nat} (h : (zS s pls fs k).2 = 0) :
  zS s pls fs (k + 1) = zaB s (zS s pls fs k).1 (fs.getD k ([], [])).1 pls.length := by
 rw [zS]; rw [if_neg (by simp [h])]
theorem zcZ {s : ze} {pls : List PlR} {fs : List zq} {k n : Nat} (h : (zS s pls fs k).2 ≠ 0) (hk : k <= n) : zS s pls fs n = zS s pls fs k := by
 induction n with
 | zero => obtain rfl : k = 0 := by omega
           rfl
 | succ n ih =>
   rcases Nat.lt_or_ge n k with h1 | h1
   ·obtain rfl : k = n + 1 := by omega
    rfl
   ·have e := ih h1
    rw [zS]; rw [e, if_pos h]
theorem zfc {s : ze} {all : List zq} {v : Nat} (h : zbn s all v = 0) : zbn s all (v + 1) = if (zan s.2.1.length all ((zh s).getD v []) all.length).2 ≠ 0 then 14 else 0 := by
 rw [zbn, if_neg (by simp [h])]
theorem zgr {s : ze} {all : List zq} {k n : Nat} (h : zbn s all k ≠ 0) (hk : k <= n) : zbn s all n = zbn s all k := by
 induction n with
 | zero => obtain rfl : k = 0 := by omega
           rfl
 | succ n ih =>
   rcases Nat.lt_or_ge n k with h1 | h1
   ·obtain rfl : k = n + 1 := by omega
    rfl
   ·have e := ih h1
    rw [zbn, e, if_pos h]
theorem zpb (pl : PlR) (L : Int) (p : List ByteArray) (h : pl.length <= 40) : (addR pl L p).1.length <= 40 := by
 unfold addR
 split
 ·exact h
 ·split
  ·exact h
  ·simp only [List.length_append]; omega
def OkR (s : ze) (Ls : List zq) (pls : List PlR) : Prop := pls.length = s.1.length /\ (∀ pl ∈ pls, pl.length <= 40) /\ ∀ f ∈ Ls, f.1.length = s.1.length /\ ∀ p ∈ f.1, p.length <= 1000
theorem zkq (s : ze) (pls : List PlR) (ps : List (List ByteArray)) (i : Nat) (h : ∀ pl ∈ pls, pl.length <= 40) : (zaB s pls ps i).1.length = pls.length /\ ∀ pl ∈ (zaB s pls ps i).1, pl.length <= 40 := by
 induction i with
 | zero => exact ⟨rfl, h⟩
 | succ i ih =>
   by_cases h0 : (zaB s pls ps i).2 = 0
   ·rw [zcT h0]
    refine ⟨by simp [ih.1], fun pl hpl => ?_⟩
    rcases List.mem_or_eq_of_mem_set hpl with h1 | rfl
    ·exact ih.2 pl h1
    ·refine zpb _ _ _ ?_
     rw [List.getD_eq_getElem?_getD]
     cases hg : (zaB s pls ps i).1[i]? with
     | none => exact Nat.zero_le _
     | some x => exact ih.2 x (List.mem_of_getElem? hg)
   ·rw [zdR h0 (Nat.le_succ i)]; exact ih
theorem zcC (s : ze) (pls : List PlR) (fs : List zq) (k : Nat) (h : ∀ pl ∈ pls, pl.length <= 40) : (zS s pls fs k).1.length = pls.length /\ ∀ pl ∈ (zS s pls fs k).1, pl.length <= 40 := by
 induction k with
 | zero => exact ⟨rfl, h⟩
 | succ k ih =>
   by_cases h0 : (zS s pls fs k).2 = 0
   ·rw [zbK h0]
    have := zkq s (zS s pls fs k).1 (fs.getD k ([], [])).1 pls.length ih.2
    exact ⟨this.1.trans ih.1, this.2⟩
   ·rw [zcZ h0 (Nat.le_succ k)]; exact ih
theorem zeB {s : ze} {f : zq} (h : zaC s f = true) : ∀ q ∈ f.1, q.length <= 1000 := by
 unfold zaC at h
 rw [Bool.and_eq_true, Bool.and_eq_true, Bool.and_eq_true] at h
 intro q hq
 have h1 := (zdH h.1.1.1).2.2.1 q hq
 unfold mayB at h1
 simp at h1
 omega
theorem zfb {s : ze} {fs : List zq} (h : zbe s fs = 0) : mayS s = true /\ 1 <= fs.length /\ fs.length <= 8 /\ ∀ f ∈ fs, zaC s f = true := by
 unfold zbe at h
 by_cases h1 : mayS s = true
 ·rw [h1, if_neg (by simp)] at h
  by_cases h2 : fs.length = 0 \/ 8 < fs.length
  ·rw [if_pos h2] at h; simp at h
  ·rw [if_neg h2] at h
   by_cases h3 : (fs.any fun f => !zaC s f) = true
   ·rw [if_pos h3] at h; simp at h
   ·refine ⟨h1, by omega, by omega, fun f hf => ?_⟩
    cases hb : zaC s f
    ·exact absurd (List.any_eq_true.2 ⟨f, hf, by rw [hb]; rfl⟩) h3
    ·rfl
 ·rw [if_pos (by simpa using h1)] at h; simp at h
theorem zeq {s : ze} {f : zq} (h : zaC s f = true) : f.1.length = s.1.length /\ f.2.length = s.2.1.length := by
 unfold zaC at h
 rw [Bool.and_eq_true, Bool.and_eq_true, Bool.and_eq_true] at h
 exact ⟨of_decide_eq_true h.1.1.2, of_decide_eq_true h.1.2⟩
theorem zn0 {s : ze} {Ls : List zq} {pls : List PlR} (h : OkR s Ls pls) (fs : List zq) : OkR s (zbo s Ls pls fs).1.1 (zbo s Ls pls fs).1.2 /\ (zbo s Ls pls fs).1.1.length <= Ls.length + 8 := by
 unfold zbo
 by_cases h1 : zbe s fs ≠ 0
 ·rw [if_pos h1]; exact ⟨h, Nat.le_add_right _ _⟩
 ·rw [if_neg h1]
  by_cases h2 : (zS s pls fs fs.length).2 ≠ 0
  ·rw [if_pos h2]; exact ⟨h, Nat.le_add_right _ _⟩
  ·rw [if_neg h2]
   by_cases h3 : zbn s (Ls ++ fs) (zh s).length ≠ 0
   ·rw [if_pos h3]; exact ⟨h, Nat.le_add_right _ _⟩
   ·rw [if_neg h3]
    obtain ⟨b1, b2, b3, b4⟩ := zfb (by simpa using h1)
    obtain ⟨k1, k2, k3⟩ := h
    have := zcC s pls fs fs.length k2
    refine ⟨⟨this.1.trans k1, this.2, fun f hf => ?_⟩, by simp only [List.length_append]; omega⟩
    rcases List.mem_append.1 hf with hf | hf
    ·exact k3 f hf
    ·exact ⟨(zeq (b4 f hf)).1, zeB (b4 f hf)⟩
theorem RefW.copy {w w' : World} {R E : Nat -> Prop} {r r' : Nat} {L : Int} {pl : PlR} {v v' : Value} {vs : List Value} (h2 : ∀ k, R k -> k < w.heap.size) (h8 : ∀ k, E k -> R k /\ k ≠ r /\ v.ownBlock ≠ some k)
  (h9 : ∀ (i : Nat) (x : List ByteArray), pl[i]? = some x -> ∃ u, vs[i]? = some u /\ SlE w E u (zL x)) (hb : Below w.heap.size w w') (hr1 : w.heap.size <= r') (hr2 : r' < w'.heap.size)
  (hv : ∀ g, v'.ownBlock = some g -> w.heap.size <= g /\ g ≠ r') (fz : ∀ i, i < 2 -> w'.frozen? ⟨r', i, none⟩ = false) (c0 : w'.cell? ⟨r', 0, none⟩ = some (.int .i64 L)) (c1 : w'.cell? ⟨r', 1, none⟩ = some v') {K : Nat}
  (ho : w'.ownsRow K 23 1 v' pl.length vs) : RefW w' (fun k => k = r' \/ v'.ownBlock = some k \/ R k) r' L pl := by
 refine ⟨.inl rfl, fun k hk => ?_, fz, c0, v', vs, E, c1, zw ho (Nat.zero_le K), fun g hg => ⟨.inr (.inl hg), (hv g hg).2⟩, fun k hk => ⟨.inr (.inr (h8 k hk).1), ?_, fun e => ?_⟩, fun i x hx => ?_⟩
 ·rcases hk with rfl | hk | hk
  ·exact hr2
  ·exact (ho.lt k hk).2
  ·exact Nat.lt_of_lt_of_le (h2 k hk) hb.size
 ·have := h2 k (h8 k hk).1; omega
 ·have := h2 k (h8 k hk).1; have := (hv k e).1; omega
 ·obtain ⟨u, hu, hsl⟩ := h9 i x hx
  exact ⟨u, hu, hsl.kept (fun k hk => hb.block k (h2 k (h8 k hk).1))⟩
structure DsR (w : World) (N : Nat) (O : Nat -> Prop) (b : Nat) (s : ze) (pls : List PlR) (n : Nat) (rp : Nat -> Nat) (Rf : Nat -> Nat -> Prop) (vf : Nat -> Value) (Dv : Value) : Prop where
 d : ∀ i, i < n -> RefW w (Rf i) (rp i) (dimL s i) (pls.getD i [])
 r : ∀ i, i < n -> N <= rp i /\ w.cell? ⟨rp i, 1, none⟩ = some (vf i) /\ ∀ g, (vf i).ownBlock = some g -> N <= g /\ Rf i g
 o : ∀ i, i < n -> ∀ k, Rf i k -> (O k \/ N <= k) /\ k ≠ b /\ Dv.ownBlock ≠ some k
 a : ∀ i j, i < n -> j < n -> i ≠ j -> ¬ Rf i (rp j) /\ ∀ g, (vf j).ownBlock = some g -> ¬ Rf i g
theorem DsR.zero (w : World) (N : Nat) (O : Nat -> Prop) (b : Nat) (s : ze) (pls : List PlR) (rp : Nat -> Nat) (Rf : Nat -> Nat -> Prop) (vf : Nat -> Value) (Dv : Value) : DsR w N O b s pls 0 rp Rf vf Dv :=
 ⟨fun i hi => absurd hi (by omega), fun i hi => absurd hi (by omega), fun i hi => absurd hi (by omega), fun i j hi => absurd hi (by omega)⟩
theorem DsR.on {w w' : World} {N : Nat} {O : Nat -> Prop} {b : Nat} {s : ze} {pls : List PlR} {n : Nat} {rp : Nat -> Nat} {Rf : Nat -> Nat -> Prop} {vf : Nat -> Value} {Dv : Value} (h : DsR w N O b s pls n rp Rf vf Dv) (hb : Below w.heap.size w w') : DsR w' N O b s pls n rp Rf vf Dv :=
 ⟨fun i hi => (h.d i hi).below hb, fun i hi => ⟨(h.r i hi).1, zc hb ((h.d i hi).2.1 _ (h.d i hi).1) (h.r i hi).2.1, (h.r i hi).2.2⟩, h.o, h.a⟩
theorem DsR.grow {w w' : World} {N : Nat} {O : Nat -> Prop} {b : Nat} {s : ze} {pls : List PlR} {n : Nat} {rp : Nat -> Nat} {Rf : Nat -> Nat -> Prop} {vf : Nat -> Value} {Dv Dv' : Value} (h : DsR w N O b s pls n rp Rf vf Dv) (hg : w.grownBy w' Dv.ownBlock) (ha : Dv'.ownBlock = Dv.ownBlock \/ Dv'.ownBlock = some w.heap.size) :
  DsR w' N O b s pls n rp Rf vf Dv' := by
 have hk : ∀ i, i < n -> Kept (Rf i) w w' := fun i hi g hg' => hg.block g ((h.d i hi).2.1 g hg') (fun e => (h.o i hi g hg').2.2 e.symm)
 refine ⟨fun i hi => (h.d i hi).kept (hk i hi) hg.size, fun i hi => ⟨(h.r i hi).1, (hk i hi).cell (h.d i hi).1 (h.r i hi).2.1, (h.r i hi).2.2⟩, fun i hi k hk' => ⟨(h.o i hi k hk').1, (h.o i hi k hk').2.1, fun e => ?_⟩, h.a⟩
 rcases ha with ha | ha
 ·exact (h.o i hi k hk').2.2 (ha ▸ e)
 ·rw [ha] at e; injection e with e
  have := (h.d i hi).2.1 k hk'; omega
theorem DsR.snoc {w : World} {N : Nat} {O : Nat -> Prop} {b : Nat} {s : ze} {pls : List PlR} {n : Nat} {rp : Nat -> Nat} {Rf : Nat -> Nat -> Prop} {vf : Nat -> Value} {Dv : Value} (h : DsR w N O b s pls n rp Rf vf Dv) {r : Nat} {R : Nat -> Prop} {v : Value} {S : Nat} (hS : ∀ i, i < n -> ∀ k, Rf i k -> k < S)
  (hw : RefW w R r (dimL s n) (pls.getD n [])) (hr : N <= r /\ S <= r) (c1 : w.cell? ⟨r, 1, none⟩ = some v) (hv : ∀ g, v.ownBlock = some g -> N <= g /\ S <= g /\ R g)
  (ho : ∀ k, R k -> (O k \/ N <= k) /\ k ≠ b /\ Dv.ownBlock ≠ some k) (hd : ∀ i, i < n -> ¬ R (rp i) /\ ∀ g, (vf i).ownBlock = some g -> ¬ R g) :
  DsR w N O b s pls (n + 1) (fun i => if i = n then r else rp i) (fun i => if i = n then R else Rf i) (fun i => if i = n then v else vf i) Dv := by
 refine ⟨fun i hi => ?_, fun i hi => ?_, fun i hi => ?_, fun i j hi hj hij => ?_⟩
 ·by_cases e : i = n
  ·subst e; simp only [if_pos]; exact hw
  ·simp only [if_neg e]; exact h.d i (by omega)
 ·by_cases e : i = n
  ·subst e; simp only [if_pos]; exact ⟨hr.1, c1, fun g hg => ⟨(hv g hg).1, (hv g hg).2.2⟩⟩
  ·simp only [if_neg e]; exact h.r i (by omega)
 ·by_cases e : i = n
  ·subst e; simp only [if_pos]; exact ho
  ·simp only [if_neg e]; exact h.o i (by omega)
 ·by_cases e : i = n
  ·subst e
   simp only [if_pos, if_neg (show ¬ j = i from fun e => hij e.symm)]
   exact hd j (by omega)
  ·by_cases e' : j = n
   ·subst e'
    simp only [if_pos, if_neg e]
    exact ⟨fun hk => by have := hS i (by omega) _ hk; omega, fun g hg hk => by have := hS i (by omega) _ hk; have := (hv g hg).2.1; omega⟩
   ·simp only [if_neg e, if_neg e']; exact h.a i j (by omega) (by omega) hij
theorem DsR.add {w w' : World} {N : Nat} {O : Nat -> Prop} {b : Nat} {s : ze} {pls : List PlR} {n j : Nat} {rp : Nat -> Nat} {Rf : Nat -> Nat -> Prop} {vf : Nat -> Value} {Dv : Value} (h : DsR w N O b s pls n rp Rf vf Dv) (hn : n <= pls.length) (hj : j < n) (hNw : N <= w.heap.size) (hbw : b < w.heap.size) (hDw : ∀ g, Dv.ownBlock = some g -> g < w.heap.size)
  {R' : Nat -> Prop} {pl' : PlR} (hg : Grow w (Rf j) R') (hw : RefW w' R' (rp j) (dimL s j) pl') (ht : zbZ w w' (rp j)) :
  (∃ Rf' vf', DsR w' N O b s (pls.set j pl') n rp Rf' vf' Dv) /\ Below N w w' /\ ∀ g, Dv.ownBlock = some g -> w'.heap[g]? = w.heap[g]? := by
 obtain ⟨v0, v1, t1, t2, t3, t4⟩ := ht
 obtain ⟨r1, r2, r3⟩ := h.r j hj
 have e := r2
 rw [t1] at e
 injection e with e
 subst e
 have hjR := (h.d j hj).1
 have hk : ∀ i, i < n -> i ≠ j -> Kept (Rf i) w w' := fun i hi hij => t4.kept (fun g hg' => ⟨(h.d i hi).2.1 g hg', fun hd => by
  obtain ⟨a1, a2⟩ := h.a i j hi hj hij
  rcases hd with rfl | hd
  ·exact a1 hg'
  ·exact a2 g hd hg'⟩)
 refine ⟨⟨fun i => if i = j then R' else Rf i, fun i => if i = j then v1 else vf i, fun i hi => ?_, fun i hi => ?_, fun i hi k hk' => ?_, fun i i' hi hi' hij => ?_⟩, t4.below hNw (fun k hk' => ?_), fun g hg' => t4.block g (hDw g hg') (fun hd => ?_)⟩
 ·by_cases e : i = j
  ·subst e
   simp only [if_pos]
   rw [List.getD_eq_getElem?_getD, List.getElem?_set_self (by omega)]
   exact hw
  ·simp only [if_neg e]
   rw [List.getD_eq_getElem?_getD, List.getElem?_set_ne (fun e' => e e'.symm), <- List.getD_eq_getElem?_getD]
   exact (h.d i hi).kept (hk i hi e) t4.size
 ·by_cases e : i = j
  ·subst e
   simp only [if_pos]
   refine ⟨r1, t2, fun g hg' => ?_⟩
   obtain ⟨-, -, -, -, v, vs, E, h5, h6, h7, -⟩ := hw
   rw [t2] at h5
   injection h5 with h5
   subst h5
   refine ⟨?_, (h7 g hg').1⟩
   rcases t3 with t3 | t3
   ·exact (r3 g (t3 ▸ hg')).1
   ·have := t3 g hg'; omega
  ·simp only [if_neg e]
   exact ⟨(h.r i hi).1, (hk i hi e).cell (h.d i hi).1 (h.r i hi).2.1, (h.r i hi).2.2⟩
 ·by_cases e : i = j
  ·subst e
   simp only [if_pos] at hk'
   rcases hg.2 k hk' with hk' | hk'
   ·exact h.o i hi k hk'
   ·exact ⟨.inr (by omega), by omega, fun e => by have := hDw k e; omega⟩
  ·simp only [if_neg e] at hk'
   exact h.o i hi k hk'
 ·have hlt := fun i (hi : i < n) => (h.d i hi).2.1
  by_cases e : i = j
  ·subst e
   simp only [if_pos, if_neg (show ¬ i' = i from fun e => hij e.symm)]
   obtain ⟨a1, a2⟩ := h.a i i' hi hi' hij
   refine ⟨fun hk' => ?_, fun g hg' hk' => ?_⟩
   ·rcases hg.2 _ hk' with hk' | hk'
    ·exact a1 hk'
    ·have := hlt i' hi' _ (h.d i' hi').1; omega
   ·rcases hg.2 _ hk' with hk' | hk'
    ·exact a2 g hg' hk'
    ·have := hlt i' hi' _ ((h.r i' hi').2.2 g hg').2; omega
  ·by_cases e' : i' = j
   ·subst e'
    simp only [if_pos, if_neg e]
    obtain ⟨a1, a2⟩ := h.a i i' hi hi' hij
    refine ⟨a1, fun g hg' hk' => ?_⟩
    rcases t3 with t3 | t3
    ·exact a2 g (t3 ▸ hg') hk'
    ·have := t3 g hg'; have := hlt i hi g hk'; omega
   ·simp only [if_neg e, if_neg e']; exact h.a i i' hi hi' hij
 ·rcases hk' with rfl | hk'
  ·exact r1
  ·exact (r3 k hk').1
 ·rcases hd with rfl | hd
  ·exact (h.o j hj _ hjR).2.2 hg'
  ·exact (h.o j hj _ (r3 g hd).2).2.2 hg'
theorem zqG {w : World} {E : Nat -> Prop} {pl : PlR} {v : Value} {vs : List Value} {tx e' : TypeId} {K : Nat} (hk : Tryz.prog.underlying tx = some (.slice e')) (h6 : w.ownsRow K 23 1 v pl.length vs) (h9 : ∀ (i : Nat) (x : List ByteArray), pl[i]? = some x -> ∃ u, vs[i]? = some u /\ SlE w E u (zL x)) :
  Src Tryz.prog 1 tx v pl.length vs w := by
 have hl : vs.length = pl.length := by have := h6.1; omega
 have h1 : ∀ u ∈ vs, u.oneCell' = true := fun u hu => by
  obtain ⟨i, hi, rfl⟩ := List.mem_iff_getElem.1 hu
  obtain ⟨u, hu, A, c, rfl, -⟩ := h9 i pl[i] (List.getElem?_eq_getElem (by omega))
  rw [List.getElem?_eq_getElem hi] at hu
  have hu := Option.some.inj hu
  rw [hu]; rfl
 have := zfG (P := Tryz.prog) w hk (Sl.of_own h6) h1
 rwa [hl] at this
def LpD (W1 : World) (N : Nat) (O : Nat -> Prop) (b : Nat) (s : ze) (pls : List PlR) (dv iv : Value) (wr : World) : Prop :=
 ∃ (k : Nat) (rp : Nat -> Nat) (Rf : Nat -> Nat -> Prop) (vf : Nat -> Value), k <= pls.length /\ iv = .int .i64 k /\ wr.ownsRow N 97 1 dv k (ptrs rp k) /\ DsR wr N O b s pls k rp Rf vf dv /\ Below N W1 wr
theorem zqu {W1 wr w7 w8 : World} {N b k r : Nat} {O R E : Nat -> Prop} {s : ze} {pls : List PlR} {rp : Nat -> Nat} {Rf : Nat -> Nat -> Prop} {vf : Nat -> Value} {dv v' v8 vL : Value} {vsL : List Value}
  (hk : k < pls.length) (hN : N <= wr.heap.size) (hbN : b < N) (hO : ∀ g, O g -> g < N) (hown : wr.ownsRow N 97 1 dv k (ptrs rp k)) (hds : DsR wr N O b s pls k rp Rf vf dv) (hb : Below N W1 wr)
  (hRO : ∀ g, R g -> O g /\ g ≠ b) (q2 : ∀ g, R g -> g < wr.heap.size) (q8 : ∀ g, E g -> R g /\ g ≠ r /\ vL.ownBlock ≠ some g) (q9 : ∀ (i : Nat) (x : List ByteArray), (pls.getD k [])[i]? = some x -> ∃ u, vsL[i]? = some u /\ SlE wr E u (zL x))
  (b7 : Below wr.heap.size wr w7) (z7 : wr.heap.size < w7.heap.size) (fz : ∀ i, i < 2 -> w7.frozen? ⟨wr.heap.size, i, none⟩ = false) (c0 : w7.cell? ⟨wr.heap.size, 0, none⟩ = some (.int .i64 (dimL s k))) (c1 : w7.cell? ⟨wr.heap.size, 1, none⟩ = some v')
  (ho : w7.ownsRow wr.heap.size 23 1 v' (pls.getD k []).length vsL) (hv : ∀ g, v'.ownBlock = some g -> g ≠ wr.heap.size)
  (hg8 : w7.grownBy w8 dv.ownBlock) (hb8 : Below N w7 w8) (hat8 : v8.ownBlock = dv.ownBlock \/ v8.ownBlock = some w7.heap.size) (ho8 : w8.ownsRow N 97 1 v8 (k + 1) (ptrs rp k ++ [.pointer (some ⟨wr.heap.size, 0, none⟩)])) :
  LpD W1 N O b s pls v8 (.int .i64 ((k : Int) + 1)) w8 := by
 have hlt : ∀ i, i < k -> ∀ g, Rf i g -> g < wr.heap.size := fun i hi => (hds.d i hi).2.1
 have hdv : ∀ g, dv.ownBlock = some g -> N <= g /\ g < wr.heap.size := fun g hg => hown.lt g hg
 have h7 := RefW.copy q2 q8 q9 b7 (Nat.le_refl _) z7 (fun g hg => ⟨(ho.lt g hg).1, hv g hg⟩) fz c0 c1 ho
 have hR7 : ∀ g, (g = wr.heap.size \/ v'.ownBlock = some g \/ R g) -> (O g \/ N <= g) /\ g ≠ b /\ dv.ownBlock ≠ some g := fun g hg => by
  rcases hg with rfl | hg | hg
  ·exact ⟨.inr hN, by omega, fun e => by have := hdv _ e; omega⟩
  ·have := ho.lt g hg
   exact ⟨.inr (by omega), by omega, fun e => by have := hdv _ e; omega⟩
  ·have := hRO g hg
   exact ⟨.inl this.1, this.2, fun e => by have := hdv _ e; have := hO g (hRO g hg).1; omega⟩
 have hk8 : Kept (fun g => g = wr.heap.size \/ v'.ownBlock = some g \/ R g) w7 w8 := fun g hg => hg8.block g (h7.2.1 g hg) (fun e => (hR7 g hg).2.2 e.symm)
 refine ⟨k + 1, fun i => if i = k then wr.heap.size else rp i, fun i => if i = k then (fun g => g = wr.heap.size \/ v'.ownBlock = some g \/ R g) else Rf i, fun i => if i = k then v' else vf i, by omega, by go_num, ?_, ?_, hb.trans ((b7.mono hN).trans hb8)⟩
 ·rw [zdy, zcV (g := rp) (fun i hi => by simp only [if_neg (show ¬ i = k by omega)]), if_pos rfl]
  exact ho8
 ·refine ((hds.on b7).grow hg8 hat8).snoc (S := wr.heap.size) hlt (h7.kept hk8 hg8.size) ⟨hN, Nat.le_refl _⟩ (hk8.cell (.inl rfl) c1) (fun g hg => ?_) (fun g hg => ⟨(hR7 g hg).1, (hR7 g hg).2.1, fun e => ?_⟩) (fun i hi => ⟨fun hg => ?_, fun g hg' hg => ?_⟩)
  ·have := ho.lt g hg
   exact ⟨by omega, this.1, .inr (.inl hg)⟩
  ·rcases hat8 with h | h
   ·exact (hR7 g hg).2.2 (h ▸ e)
   ·rw [h] at e; injection e with e
    have := h7.2.1 g hg; omega
  ·have h1 := hlt i hi _ (hds.d i hi).1
   have h2 := (hds.r i hi).1
   rcases hg with hg | hg | hg
   ·omega
   ·have := (ho.lt _ hg).1; omega
   ·have := hO _ (hRO _ hg).1; omega
  ·have h1 := hlt i hi _ ((hds.r i hi).2.2 g hg').2
   have h2 := ((hds.r i hi).2.2 g hg').1
   rcases hg with hg | hg | hg
   ·omega
   ·have := (ho.lt _ hg).1; omega
   ·have := hO _ (hRO _ hg).1; omega
theorem zcP (fx : List (Value × Value)) : (zaM fx).length = fx.length * 2 := by
 unfold zaM
 induction fx with
 | nil => rfl
 | cons x fx ih => rw [List.flatMap_cons, List.length_append, ih]; simp; omega
theorem zmq (a b : List (Value × Value)) : zaM (a ++ b) = zaM a ++ zaM b := by unfold zaM; rw [List.flatMap_append]
theorem ziV (fx : List (Value × Value)) {k : Nat} (hk : k < fx.length) : (zaM fx)[k * 2]? = some fx[k].1 /\ (zaM fx)[k * 2 + 1]? = some fx[k].2 := by
 induction fx generalizing k with
 | nil => simp at hk
 | cons x fx ih =>
   have e : zaM (x :: fx) = x.1 :: x.2 :: zaM fx := rfl
   rw [e]
   cases k with
   | zero => exact ⟨rfl, rfl⟩
   | succ k =>
     have := ih (k := k) (by simpa using hk)
     rw [show (k + 1) * 2 = k * 2 + 1 + 1 by omega, List.getElem?_cons_succ, List.getElem?_cons_succ, List.getElem?_cons_succ, List.getElem?_cons_succ]
     exact this
theorem znv {w : World} {B : Nat} {A : Option Addr} {n c : Nat} {fs : List zq} {tx e' : TypeId} (hk : Tryz.prog.underlying tx = some (.slice e')) (h : zj 2 za7 w B [.slice A n c] fs) :
  ∃ fx : List (Value × Value), fx.length = fs.length /\ n = fs.length /\ Src Tryz.prog 2 tx (.slice A n c) fs.length (zaM fx) w /\ ∀ j (hj : j < fs.length), zj 1 zO w B [(fx.getD j (undef, undef)).1] fs[j].1 /\ zC w B [(fx.getD j (undef, undef)).2] fs[j].2 := by
 obtain ⟨A', c', e, h1, h2, -⟩ := id h
 simp only [List.cons.injEq, and_true] at e
 injection e with e1 e2 e3
 subst e1; subst e2; subst e3
 have hx : ∀ i : Nat, ∃ u : Value × Value, ∀ (hi : i < fs.length), ∃ b off, A = some ⟨b, off, none⟩ /\ w.cell? ⟨b, off + i * 2, none⟩ = some u.1 /\ w.cell? ⟨b, off + i * 2 + 1, none⟩ = some u.2 /\ u.1.oneCell' = true /\ u.2.oneCell' = true /\ zj 1 zO w B [u.1] fs[i].1 /\ zC w B [u.2] fs[i].2 := fun i => by
  by_cases hi : i < fs.length
  ·obtain ⟨b, off, AP, cP, AV, cV, e, -, q1, q2, q3, q4⟩ := zbD h hi
   exact ⟨(.slice AP fs[i].1.length cP, .slice AV fs[i].2.length cV), fun _ => ⟨b, off, e, q1, q2, rfl, rfl, q3, q4⟩⟩
  ·exact ⟨(.bool false, .bool false), fun hi' => absurd hi' hi⟩
 obtain ⟨f, hf⟩ := Classical.axiomOfChoice hx
 obtain ⟨fx, hfx⟩ : ∃ fx, fx = (List.range fs.length).map f := ⟨_, rfl⟩
 have hl : fx.length = fs.length := by rw [hfx]; simp
 have hg : ∀ i (hi : i < fs.length), fx[i]'(by omega) = f i := fun i hi => by subst hfx; rw [List.getElem_map, List.getElem_range]
 have hgd : ∀ i (hi : i < fs.length), fx.getD i (undef, undef) = f i := fun i hi => by rw [List.getD_eq_getElem?_getD, List.getElem?_eq_getElem (by omega), <- hg i hi]; rfl
 have hone : ∀ u ∈ zaM fx, u.oneCell' = true := fun u hu => by
  unfold zaM at hu
  obtain ⟨x, hx', hu⟩ := List.mem_flatMap.1 hu
  obtain ⟨i, hi, rfl⟩ := List.mem_iff_getElem.1 hx'
  rw [hg i (by omega)] at hu
  obtain ⟨b, off, -, -, -, o1, o2, -, -⟩ := hf i (by omega)
  simp only [List.mem_cons, List.not_mem_nil, or_false] at hu
  rcases hu with rfl | rfl
  ·exact o1
  ·exact o2
 refine ⟨fx, hl, rfl, ?_, fun j hj => ?_⟩
 ·rcases Nat.eq_zero_or_pos fs.length with h0 | h0
  ·have : fx = [] := List.eq_nil_of_length_eq_zero (by omega)
   rw [this] at hone ⊢
   rw [h0]
   cases A with
   | none => exact Src.ofNil w hk c
   | some a => exact Src.ofSlice w hk a 0 c [] (by simp) (by simp) hone
  ·obtain ⟨b, off, rfl, -⟩ := hf 0 h0
   have hc : ∀ j u, (zaM fx)[j]? = some u -> w.cell? ⟨b, off + j, none⟩ = some u := fun j u hu => by
    have hj := (List.getElem?_eq_some_iff.1 hu).1
    rw [zcP, hl] at hj
    obtain ⟨i, m, hm, rfl⟩ : ∃ i m, m < 2 /\ j = i * 2 + m := ⟨j / 2, j % 2, by omega, by omega⟩
    have hi : i < fs.length := by omega
    obtain ⟨b', off', e', q1, q2, -⟩ := hf i hi
    have e' := Option.some.inj e'
    simp only [Addr.mk.injEq, and_true] at e'
    obtain ⟨rfl, rfl⟩ := e'
    obtain ⟨p1, p2⟩ := ziV fx (k := i) (by omega)
    rw [hg _ hi] at p1 p2
    rcases Nat.lt_or_ge 0 m with h | h
    ·obtain rfl : m = 1 := by omega
     rw [p2] at hu
     rw [<- Option.some.inj hu]; exact q2
    ·obtain rfl : m = 0 := by omega
     rw [Nat.add_zero] at hu
     rw [p1] at hu
     rw [<- Option.some.inj hu]; exact q1
   exact Src.ofSlice w hk ⟨b, off, none⟩ fs.length c (zaM fx) (by rw [zcP, hl]) (zdA hc) hone
 ·rw [hgd j hj]
  obtain ⟨b, off, -, -, -, -, -, q1, q2⟩ := hf j hj
  exact ⟨q1, q2⟩
theorem zc8.rd {w : World} {H : Nat} {Lv : Value} {Ls : List zq} (h : zc8 w H Lv Ls) (hH : H <= w.heap.size) : zj 2 za7 w w.heap.size [Lv] Ls := by
 obtain ⟨fx, h1, h2, h3⟩ := h
 obtain ⟨A, c, rfl, g1, g2, g3⟩ := zaa h2
 refine ⟨A, c, rfl, g1, g2, fun h0 => ?_⟩
 obtain ⟨g, rfl, hg, hgs, -, hc⟩ := g3 h0
 refine ⟨g, 0, rfl, hgs, fun i x hx => ?_⟩
 obtain ⟨hi, rfl⟩ := List.getElem?_eq_some_iff.1 hx
 obtain ⟨p1, p2⟩ := ziV fx (k := i) (by omega)
 obtain ⟨q1, q2⟩ := h3 i hi
 have e : fx.getD i (undef, undef) = fx[i]'(by omega) := by rw [List.getD_eq_getElem?_getD, List.getElem?_eq_getElem (by omega)]; rfl
 rw [e] at q1 q2
 refine ⟨[fx[i].1, fx[i].2], rfl, fun j u hu => ?_, rfl, zB.more q1 hH, zm.more q2 hH⟩
 have hj := (List.getElem?_eq_some_iff.1 hu).1
 rw [Nat.zero_add, hc (i * 2 + j) (by simp at hj; omega)]
 match j, hj, hu with
 | 0, _, hu => simp at hu; subst hu; exact p1
 | 1, _, hu => simp at hu; subst hu; exact p2
 | j + 2, hj, _ => simp at hj; omega
theorem zc8.src {w : World} {H : Nat} {Lv : Value} {Ls : List zq} {tx e' : TypeId} (hk : Tryz.prog.underlying tx = some (.slice e')) (h : zc8 w H Lv Ls) (hH : H <= w.heap.size) :
  ∃ fx : List (Value × Value), fx.length = Ls.length /\ Src Tryz.prog 2 tx Lv Ls.length (zaM fx) w /\ ∀ j (hj : j < Ls.length), zj 1 zO w H [(fx.getD j (undef, undef)).1] Ls[j].1 /\ zC w H [(fx.getD j (undef, undef)).2] Ls[j].2 := by
 obtain ⟨fx, h1, h2, h3⟩ := h
 obtain ⟨A, c, rfl, g1, g2, g3⟩ := zaa h2
 have hone : ∀ u ∈ zaM fx, u.oneCell' = true := fun u hu => by
  unfold zaM at hu
  obtain ⟨x, hx', hu⟩ := List.mem_flatMap.1 hu
  obtain ⟨i, hi, rfl⟩ := List.mem_iff_getElem.1 hx'
  obtain ⟨q1, q2⟩ := h3 i (by omega)
  rw [show fx.getD i (undef, undef) = fx[i] by rw [List.getD_eq_getElem?_getD, List.getElem?_eq_getElem hi]; rfl] at q1 q2
  obtain ⟨_, _, e1, -⟩ := q1
  obtain ⟨_, _, e2, -⟩ := q2
  simp only [List.cons.injEq, and_true] at e1 e2
  simp only [List.mem_cons, List.not_mem_nil, or_false] at hu
  rcases hu with rfl | rfl
  ·rw [e1]; rfl
  ·rw [e2]; rfl
 refine ⟨fx, h1, ?_, h3⟩
 rcases Nat.eq_zero_or_pos Ls.length with h0 | h0
 ·have : fx = [] := List.eq_nil_of_length_eq_zero (by omega)
  rw [this] at hone ⊢
  rw [h0]
  cases A with
  | none => exact Src.ofNil w hk c
  | some a => exact Src.ofSlice w hk a 0 c [] (by simp) (by simp) hone
 ·obtain ⟨g, rfl, hg, hgs, -, hc⟩ := g3 h0
  refine Src.ofSlice w hk ⟨g, 0, none⟩ Ls.length c (zaM fx) (by rw [zcP, h1]) (zdA fun j u hu => ?_) hone
  have hj := (List.getElem?_eq_some_iff.1 hu).1
  rw [zcP] at hj
  rw [Nat.zero_add, hc j (by omega)]; exact hu
theorem zc8.join {w : World} {H K : Nat} {Lv : Value} {a b : List zq} {fa fb : List (Value × Value)} (la : fa.length = a.length) (lb : fb.length = b.length) (hK : H <= K)
  (h2 : w.ownsRow K 60 2 Lv (a.length + b.length) (zaM fa ++ zaM fb))
  (ha : ∀ j (hj : j < a.length), zj 1 zO w H [(fa.getD j (undef, undef)).1] a[j].1 /\ zC w H [(fa.getD j (undef, undef)).2] a[j].2)
  (hb : ∀ j (hj : j < b.length), zj 1 zO w H [(fb.getD j (undef, undef)).1] b[j].1 /\ zC w H [(fb.getD j (undef, undef)).2] b[j].2) : zc8 w H Lv (a ++ b) := by
 refine ⟨fa ++ fb, by simp [la, lb], by rw [zmq, List.length_append]; exact zw h2 hK, fun j hj => ?_⟩
 rcases Nat.lt_or_ge j a.length with hlt | hge
 ·rw [List.getElem_append_left hlt, show (fa ++ fb).getD j (undef, undef) = fa.getD j (undef, undef) by rw [List.getD_eq_getElem?_getD, List.getElem?_append_left (by omega), <- List.getD_eq_getElem?_getD]]
  exact ha j hlt
 ·rw [List.length_append] at hj
  rw [List.getElem_append_right hge, show (fa ++ fb).getD j (undef, undef) = fb.getD (j - a.length) (undef, undef) by rw [List.getD_eq_getElem?_getD, List.getElem?_append_right (by omega), la, <- List.getD_eq_getElem?_getD]]
  exact hb (j - a.length) (by omega)
theorem zqy {w wr : World} {H b N : Nat} {O : Nat -> Prop} {s : ze} {all : List zq} {P : List PlR} {rp : Nat -> Nat} {Rf : Nat -> Nat -> Prop} {vf : Nat -> Value} {dv av S1 S2 S3 l3 d4 : Value} (hbw : Below w.heap.size w wr) (hNw : w.heap.size <= N) (ob : O b) (ol : ∀ g, O g -> H <= g /\ g < w.heap.size) (hH : H <= w.heap.size)
  (fz : ∀ i, i < 5 -> w.frozen? ⟨b, i, none⟩ = false) (s0 : wr.cell? ⟨b, 0, none⟩ = some S1) (s1 : wr.cell? ⟨b, 1, none⟩ = some S2) (s2 : wr.cell? ⟨b, 2, none⟩ = some S3) (c3 : wr.cell? ⟨b, 3, none⟩ = some l3) (c4 : wr.cell? ⟨b, 4, none⟩ = some d4)
  (hsv : zD wr H (.agg #[S1, S2, S3]) s) (hfac : zc8 wr H av all) (hav : ∀ g, av.ownBlock = some g -> N <= g) (hown : wr.ownsRow N 97 1 dv P.length (ptrs rp P.length)) (hds : DsR wr N O b s P P.length rp Rf vf dv) :
  R11W ((wr.setCell ⟨b, 3, none⟩ av).setCell ⟨b, 4, none⟩ dv) H b (fun g => O g \/ (N <= g /\ g < wr.heap.size)) s all P rp /\ Chg (fun g => g = b) w ((wr.setCell ⟨b, 3, none⟩ av).setCell ⟨b, 4, none⟩ dv) := by
 have hbl := (ol b ob).2
 have hsz := hbw.size
 obtain ⟨W, hW⟩ : ∃ W, W = (wr.setCell ⟨b, 3, none⟩ av).setCell ⟨b, 4, none⟩ dv := ⟨_, rfl⟩
 have zW : W.heap.size = wr.heap.size := by rw [hW]; simp [World.setCell]
 have hk : ∀ g, g ≠ b -> W.heap[g]? = wr.heap[g]? := fun g hg => by rw [hW]; exact (Below.heap_setCell _ _ _ g (by simp; omega)).trans (Below.heap_setCell _ _ _ g (by simp; omega))
 have hbH : Below H wr W := by rw [hW]; exact Below.setCell (Below.setCell (Below.refl _ wr) (show H <= b from (ol b ob).1) _) (show H <= b from (ol b ob).1) _
 have hfl : ∀ g, av.ownBlock = some g -> g < wr.heap.size := fun g hg => by
  obtain ⟨fx, -, h2, -⟩ := hfac
  exact (h2.lt g hg).2
 have hch : Chg (fun g => g = b) w W := by
  rw [hW]; exact ((Chg.of_below (D := fun g => g = b) hbw).same (Chg.upd (Upd.setCell b 3 wr av) rfl)).same (Chg.upd (Upd.setCell b 4 _ dv) rfl)
 rw [<- hW]
 refine ⟨⟨.inl ob, fun g hg => ?_, fun i hi => ?_, ⟨S1, S2, S3, ?_, ?_, ?_, hsv.below hbH⟩, ⟨av, ?_, hfac.kept hbH (fun g hg => hk g (by have := hav g hg; omega)), fun g hg => ⟨.inr ⟨hav g hg, hfl g hg⟩, by have := hav g hg; omega⟩⟩,
  ⟨dv, ?_, zw (zo hown (fun g hg => hk g (by have := (hown.lt g hg).1; omega))) (by omega), fun g hg => ⟨.inr (hown.lt g hg), by have := (hown.lt g hg).1; omega⟩, fun i hi => ?_⟩⟩, hch⟩
 ·rcases hg with hg | hg
  ·exact ⟨(ol g hg).1, by have := (ol g hg).2; omega⟩
  ·omega
 ·rw [hW]; exact frozen_far (frozen_far (zy hbw hbl (fz i hi)))
 ·rw [hW]; exact zb (by omega) (zb (by omega) s0)
 ·rw [hW]; exact zb (by omega) (zb (by omega) s1)
 ·rw [hW]; exact zb (by omega) (zb (by omega) s2)
 ·rw [hW]; exact zb (by omega) (zt c3)
 ·rw [hW]; exact zt (zb (by omega) c4)
 ·have hd := hds.d i hi
  refine ⟨Rf i, hd.kept (fun k hk' => hk k (hds.o i hi k hk').2.1) (by omega), fun k hk' => ⟨?_, (hds.o i hi k hk').2.1⟩⟩
  rcases (hds.o i hi k hk').1 with h | h
  ·exact .inl h
  ·exact .inr ⟨h, hd.2.1 k hk'⟩
end Go.Proofs.YtgoapnkdcfcjgaaGreat
