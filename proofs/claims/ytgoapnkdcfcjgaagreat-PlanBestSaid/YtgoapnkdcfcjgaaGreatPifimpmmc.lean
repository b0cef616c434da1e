/- 4 texts of this claim, in build order. -/
import Derived.Test.YtgoapnkdcfcjgaaGreatPblfppnpp
namespace Go.Proofs.YtgoapnkdcfcjgaaGreat
open Go.ChangeShapes Go.WideShapes Go.ChangeAt Go.RowKit
set_option linter.unusedVariables false
structure Bld (w : World) (H C : Nat) (n : Int) (V : Nat → Value) (X : Nat → List Int) : Prop where
 lt : C < w.heap.size
 hs : H ≤ w.heap.size
 c0 : w.cell? ⟨C, 0, none⟩ = some (.int .i64 n)
 cj : ∀ j, 1 ≤ j → j ≤ 3 → w.cell? ⟨C, j, none⟩ = some (V j)
 fz : ∀ j, j < 4 → w.frozen? ⟨C, j, none⟩ = false
 own : ∀ j, 1 ≤ j → j ≤ 3 → w.ownsRow H 3 1 (V j) (X j).length (ivals (X j))
 ne : ∀ i j g, 1 ≤ i → i ≤ 3 → 1 ≤ j → j ≤ 3 → i ≠ j → (V i).ownBlock = some g → (V j).ownBlock ≠ some g
 nC : ∀ j, 1 ≤ j → j ≤ 3 → (V j).ownBlock ≠ some C
def upd {α : Type} (f : Nat → α) (j : Nat) (x : α) : Nat → α := fun i => if i = j then x else f i
theorem upd_same {α : Type} (f : Nat → α) (j : Nat) (x : α) : upd f j x j = x := if_pos rfl
theorem upd_ne {α : Type} (f : Nat → α) {i j : Nat} (x : α) (h : i ≠ j) : upd f j x i = f i := if_neg h
theorem Bld.kept {w w' : World} {H C : Nat} {n : Int} {V : Nat → Value} {X : Nat → List Int} (h : Bld w H C n V X) (hb : Below w.heap.size w w') : Bld w' H C n V X :=
 ⟨Nat.lt_of_lt_of_le h.lt hb.size, Nat.le_trans h.hs hb.size, cellK hb h.lt h.c0, fun j h1 h2 => cellK hb h.lt (h.cj j h1 h2), fun j hj => frozenK hb h.lt (h.fz j hj),
  fun j h1 h2 => own_kept (h.own j h1 h2) (fun g hg => hb.block g ((h.own j h1 h2).lt g hg).2), h.ne, h.nC⟩
theorem Bld.step {wr wa w1 : World} {H C m : Nat} {n : Int} {V : Nat → Value} {X : Nat → List Int} {v' : Value} {news : List Int} (h : Bld wr H C n V X) (j : Nat) (h1 : 1 ≤ j) (h3 : j ≤ 3) (hb : Below wr.heap.size wr wa)
  (hown : w1.ownsRow H 3 1 v' m (ivals (X j) ++ ivals news)) (hg : wa.grownBy w1 (V j).ownBlock) (hat : v'.ownBlock = (V j).ownBlock ∨ v'.ownBlock = some wa.heap.size) :
  w1.cell? ⟨C, j, none⟩ = some (V j) ∧ w1.frozen? ⟨C, j, none⟩ = false ∧ Bld (w1.setCell ⟨C, j, none⟩ v') H C n (upd V j v') (upd X j (X j ++ news)) ∧ (∀ B w, B ≤ C → B ≤ H → Below B w wr → Below B w (w1.setCell ⟨C, j, none⟩ v')) := by
 have ha := h.kept hb
 have hlt := h.lt
 have hsb0 := hb.size
 have hsa := ha.hs
 have hgs := hg.size
 have hbl : ∀ g, (V j).ownBlock = some g → H ≤ g ∧ g < wr.heap.size := fun g hg => (h.own j h1 h3).lt g hg
 have hk : ∀ g, g < wa.heap.size → (V j).ownBlock ≠ some g → w1.heap[g]? = wa.heap[g]? := fun g hg' hn => hg.block g hg' (fun e => hn e.symm)
 have hC : w1.heap[C]? = wa.heap[C]? := hk C (by omega) (fun e => h.nC j h1 h3 e)
 have hcell : ∀ i v, wa.cell? ⟨C, i, none⟩ = some v → w1.cell? ⟨C, i, none⟩ = some v := fun i v hv => (World.cell?_of_block (a := ⟨C, i, none⟩) hC).trans hv
 have hfz : ∀ i, i < 4 → w1.frozen? ⟨C, i, none⟩ = false := fun i hi => (World.frozen?_of_block (a := ⟨C, i, none⟩) hC).trans (ha.fz i hi)
 have hfar : ∀ g, g ≠ C → (w1.setCell ⟨C, j, none⟩ v').heap[g]? = w1.heap[g]? := fun g hg => Below.heap_setCell _ _ _ g (by simpa using hg)
 have hsz : (w1.setCell ⟨C, j, none⟩ v').heap.size = w1.heap.size := by simp [World.setCell]
 have hsb := hb.size
 have hsr := h.hs
 have hC1 : C < w1.heap.size := by omega
 have hnC' : v'.ownBlock ≠ some C := fun e => by
  rcases hat with e' | e'
  ·exact h.nC j h1 h3 (e' ▸ e)
  ·rw [e'] at e; injection e with e; omega
 have hlen : m = (X j ++ news).length := by
  have := hown.1; simp only [List.length_append, ivals_len] at this ⊢; omega
 have hne' : ∀ i g, 1 ≤ i → i ≤ 3 → i ≠ j → (V i).ownBlock = some g → v'.ownBlock ≠ some g := fun i g i1 i3 hij hg h' => by
  rcases hat with e | e
  ·exact h.ne i j g i1 i3 h1 h3 hij hg (e ▸ h')
  ·have := (h.own i i1 i3).lt g hg; rw [e] at h'; injection h' with h'; omega
 refine ⟨hcell j _ (ha.cj j h1 h3), hfz j (by omega), ⟨by rw [hsz]; omega, by rw [hsz]; omega, cell_beside (by omega) (hcell 0 _ ha.c0), fun i i1 i3 => ?_, fun i hi => frozen_far (hfz i hi), fun i i1 i3 => ?_, fun i k g i1 i3 k1 k3 hik hg' => ?_, fun i i1 i3 => ?_⟩, fun B w hB hBH hw => ?_⟩
 ·by_cases hij : i = j
  ·subst hij; rw [upd_same]; exact cell_here (hcell i _ (ha.cj i h1 h3))
  ·rw [upd_ne _ _ hij]; exact cell_beside (by omega) (hcell i _ (ha.cj i i1 i3))
 ·by_cases hij : i = j
  ·subst hij; rw [upd_same, upd_same, ← hlen]
   have e : ivals (X i ++ news) = ivals (X i) ++ ivals news := by simp [ivals]
   rw [e]
   exact own_kept hown (fun g hg' => hfar g (fun e => hnC' (e ▸ hg')))
  ·rw [upd_ne _ _ hij, upd_ne _ _ hij]
   refine own_kept (h.own i i1 i3) (fun g hg' => ?_)
   have hl := (h.own i i1 i3).lt g hg'
   exact (hfar g (fun e => h.nC i i1 i3 (e ▸ hg'))).trans ((hk g (by omega) (h.ne i j g i1 i3 h1 h3 hij hg')).trans (hb.block g hl.2))
 ·by_cases hij : i = j
  ·subst hij
   rw [upd_same] at hg'
   rw [upd_ne _ _ (fun e => hik e.symm)]
   exact fun e => hne' k g k1 k3 (fun e => hik e.symm) e hg'
  ·rw [upd_ne _ _ hij] at hg'
   by_cases hkj : k = j
   ·subst hkj; rw [upd_same]; exact hne' i g i1 i3 hij hg'
   ·rw [upd_ne _ _ hkj]; exact h.ne i k g i1 i3 k1 k3 hik hg'
 ·by_cases hij : i = j
  ·subst hij; rw [upd_same]; exact hnC'
  ·rw [upd_ne _ _ hij]; exact h.nC i i1 i3
 ·have hw' : Below B w wa := hw.trans (hb.mono (by omega))
  have h2 : Below B w w1 := hw'.grown hg (by omega) (fun g hg' => by have := hbl g hg'; omega)
  exact h2.trans ((Upd.setCell C j w1 v').below hB hC1)
theorem Bld.read {w : World} {H C : Nat} {n : Int} {V : Nat → Value} {X : Nat → List Int} (h : Bld w H C n V X) : CellR w w.heap.size (.agg #[.int .i64 n, V 1, V 2, V 3]) ⟨n, X 1, X 2, X 3⟩ :=
 ⟨V 1, V 2, V 3, rfl, Sl.of_own (h.own 1 (by omega) (by omega)), Sl.of_own (h.own 2 (by omega) (by omega)), Sl.of_own (h.own 3 (by omega) (by omega))⟩
theorem Bld.start {w : World} {C : Nat} {n : Int} (hC : w.heap.size = C) : Bld (w.alloc (.cells #[.int .i64 n, .slice none 0 0, .slice none 0 0, .slice none 0 0] 125)) (C + 1) C n (fun _ => .slice none 0 0) (fun _ => []) := by
 subst hC
 refine ⟨by simp, by simp, by simp [go_sem], fun j h1 h3 => ?_, fun j hj => by simp [go_sem], fun j _ _ => World.ownsRow_nil _ _ _ _, fun i j g _ _ _ _ _ hg => by simp [Value.ownBlock] at hg, fun j _ _ e => by simp [Value.ownBlock] at e⟩
 rw [World.cell?_alloc_at _ _ _ _ rfl]
 obtain rfl | rfl | rfl : j = 1 ∨ j = 2 ∨ j = 3 := by omega
 all_goals rfl
theorem bld_same {w : World} {H C : Nat} {n : Int} {V V' : Nat → Value} {X X' : Nat → List Int} (h : Bld w H C n V X) (hV : ∀ j, 1 ≤ j → j ≤ 3 → V j = V' j) (hX : ∀ j, 1 ≤ j → j ≤ 3 → X j = X' j) : Bld w H C n V' X' :=
 ⟨h.lt, h.hs, h.c0, fun j h1 h3 => by rw [← hV j h1 h3]; exact h.cj j h1 h3, h.fz, fun j h1 h3 => by rw [← hV j h1 h3, ← hX j h1 h3]; exact h.own j h1 h3, fun i j g i1 i3 j1 j3 hij hg => by
  rw [← hV i i1 i3] at hg; rw [← hV j j1 j3]; exact h.ne i j g i1 i3 j1 j3 hij hg, fun j h1 h3 => by rw [← hV j h1 h3]; exact h.nC j h1 h3⟩
theorem Bld.setN {w : World} {H C : Nat} {n : Int} {V : Nat → Value} {X : Nat → List Int} (h : Bld w H C n V X) (m : Int) : Bld (w.setCell ⟨C, 0, none⟩ (.int .i64 m)) H C m V X :=
 ⟨by simpa [World.setCell] using h.lt, by simpa [World.setCell] using h.hs, cell_here h.c0, fun j h1 h3 => cell_beside (by omega) (h.cj j h1 h3), fun j hj => frozen_far (h.fz j hj),
  fun j h1 h3 => own_kept (h.own j h1 h3) (fun g hg => Below.heap_setCell _ _ _ g (fun e => h.nC j h1 h3 (by rw [hg, e]))), h.ne, h.nC⟩
theorem ivals_set (l : List Int) (i : Nat) (x : Int) : (ivals l).set i (.int .i64 x) = ivals (l.set i x) := by unfold ivals; rw [List.map_set]
theorem Bld.setAt {w : World} {H C : Nat} {n : Int} {V : Nat → Value} {X : Nat → List Int} (h : Bld w H C n V X) (j : Nat) (h1 : 1 ≤ j) (h3 : j ≤ 3) {g m c i : Nat} (hV : V j = .slice (some ⟨g, 0, none⟩) m c) (hi : i < (X j).length) (x : Int) :
  w.cell? ⟨g, i, none⟩ = some (.int .i64 ((X j).getD i 0)) ∧ w.frozen? ⟨g, i, none⟩ = false ∧ Bld (w.setCell ⟨g, i, none⟩ (.int .i64 x)) H C n V (Go.Proofs.YtgoapnkdcfcjgaaGreat.upd X j ((X j).set i x)) ∧ (∀ B w0, B ≤ H → Below B w0 w → Below B w0 (w.setCell ⟨g, i, none⟩ (.int .i64 x))) := by
 have ho := h.own j h1 h3
 have hg : (V j).ownBlock = some g := by rw [hV]; rfl
 have hlt := ho.lt g hg
 have hm : m = (X j).length := by
  rcases ho.2 with ⟨e, _⟩ | ⟨_, _, _, e, _⟩
  ·rw [hV] at e; cases e
  ·rw [hV] at e; injection e
 rw [hV] at ho
 subst hm
 have hgC : g ≠ C := fun e => h.nC j h1 h3 (e ▸ hg)
 have hcell := ho.cellAt (g := g) i (by omega)
 have hxs : (ivals (X j))[i]? = some (.int .i64 ((X j).getD i 0)) := by simp [ivals, List.getElem?_eq_getElem hi]
 have hfar : ∀ k, k ≠ g → (w.setCell ⟨g, i, none⟩ (.int .i64 x)).heap[k]? = w.heap[k]? := fun k hk => Below.heap_setCell _ _ _ k (by simpa using hk)
 have hst := (ho.stored i (.int .i64 x)).1
 refine ⟨hcell.trans hxs, ho.frozenAt i, ⟨by simpa [World.setCell] using h.lt, by simpa [World.setCell] using h.hs, cell_far hgC h.c0, fun k k1 k3 => cell_far hgC (h.cj k k1 k3), fun k hk => frozen_far (h.fz k hk), fun k k1 k3 => ?_, h.ne, h.nC⟩, fun B w0 hB hw => hw.trans ((Upd.setCell g i w _).below (by omega) (by omega))⟩
 by_cases hk : k = j
 ·subst hk
  rw [upd_same, hV, List.length_set, ← ivals_set]
  exact hst
 ·rw [upd_ne _ _ hk]
  exact own_kept (h.own k k1 k3) (fun q hq => hfar q (fun e => h.ne k j q k1 k3 h1 h3 hk hq (e ▸ hg)))
def OwnC (w : World) (H : Nat) (v : Value) (c : CellM) : Prop :=
 ∃ v1 v2 v3, v = .agg #[.int .i64 c.n, v1, v2, v3] ∧ w.ownsRow H 3 1 v1 c.s.length (ivals c.s) ∧ w.ownsRow H 3 1 v2 c.lo.length (ivals c.lo) ∧ w.ownsRow H 3 1 v3 c.hi.length (ivals c.hi) ∧
  (∀ g, v1.ownBlock = some g → v2.ownBlock ≠ some g ∧ v3.ownBlock ≠ some g) ∧ ∀ g, v2.ownBlock = some g → v3.ownBlock ≠ some g
def OwnPost (c : CellM) (w : World) (e : Ending) (w' : World) : Prop := ∃ v, e = .returned v ∧ OwnC w' w.heap.size v c ∧ Below w.heap.size w w'
theorem OwnC.read {w : World} {H : Nat} {v : Value} {c : CellM} (h : OwnC w H v c) : CellR w w.heap.size v c := by
 obtain ⟨v1, v2, v3, e, h1, h2, h3, -, -⟩ := h
 exact ⟨v1, v2, v3, e, Sl.of_own h1, Sl.of_own h2, Sl.of_own h3⟩
def V3 (v1 v2 v3 : Value) : Nat → Value := fun j => if j = 1 then v1 else if j = 2 then v2 else v3
def X3 (c : CellM) : Nat → List Int := fun j => if j = 1 then c.s else if j = 2 then c.lo else c.hi
theorem cases3 {j : Nat} (h1 : 1 ≤ j) (h3 : j ≤ 3) : j = 1 ∨ j = 2 ∨ j = 3 := by omega
theorem OwnC.bld {w : World} {H : Nat} {v1 v2 v3 : Value} {c : CellM} (h : OwnC w H (.agg #[.int .i64 c.n, v1, v2, v3]) c) (hH : H ≤ w.heap.size) (t : TypeId) {N : Nat} (hN : w.heap.size = N) :
  Bld (w.alloc (.cells #[.int .i64 c.n, v1, v2, v3] t)) H N c.n (V3 v1 v2 v3) (X3 c) := by
 subst hN
 obtain ⟨u1, u2, u3, e, h1, h2, h3, h4, h5⟩ := h
 obtain ⟨rfl, rfl, rfl⟩ : v1 = u1 ∧ v2 = u2 ∧ v3 = u3 := by simpa using e
 have hown : ∀ j, 1 ≤ j → j ≤ 3 → w.ownsRow H 3 1 (V3 v1 v2 v3 j) (X3 c j).length (ivals (X3 c j)) := fun j a b => by
  obtain rfl | rfl | rfl := cases3 a b
  ·exact h1
  ·exact h2
  ·exact h3
 refine ⟨by simp, by simp; omega, by simp [go_sem], fun j a b => ?_, fun j hj => by simp [go_sem], fun j a b => (hown j a b).alloc _, fun i j g i1 i3 j1 j3 hij hg => ?_, fun j a b e => ?_⟩
 ·rw [World.cell?_alloc_at _ _ _ _ rfl]
  obtain rfl | rfl | rfl := cases3 a b <;> rfl
 ·obtain rfl | rfl | rfl := cases3 i1 i3 <;> obtain rfl | rfl | rfl := cases3 j1 j3
  all_goals first
   | exact absurd rfl hij
   | exact (h4 g hg).1
   | exact (h4 g hg).2
   | exact h5 g hg
   | exact fun e => (h4 g e).1 hg
   | exact fun e => (h4 g e).2 hg
   | exact fun e => h5 g e hg
 ·have := (hown j a b).lt _ e; omega
theorem Bld.ownC {w : World} {H C : Nat} {n : Int} {V : Nat → Value} {X : Nat → List Int} (h : Bld w H C n V X) : OwnC w H (.agg #[.int .i64 n, V 1, V 2, V 3]) ⟨n, X 1, X 2, X 3⟩ :=
 ⟨V 1, V 2, V 3, rfl, h.own 1 (by omega) (by omega), h.own 2 (by omega) (by omega), h.own 3 (by omega) (by omega),
  fun g hg => ⟨h.ne 1 2 g (by omega) (by omega) (by omega) (by omega) (by omega) hg, h.ne 1 3 g (by omega) (by omega) (by omega) (by omega) (by omega) hg⟩, fun g hg => h.ne 2 3 g (by omega) (by omega) (by omega) (by omega) (by omega) hg⟩
theorem cell_one_at (w : World) (x : Value) (t : TypeId) {N : Nat} (hN : w.heap.size = N) : ∀ j u, [x][j]? = some u → (w.alloc (.cells #[x] t)).cell? ((⟨N, 0, none⟩ : Addr).add j) = some u := by
 subst hN; exact cell_one_new w x t
theorem Bld.upd' {w w' : World} {H C b : Nat} {n : Int} {V : Nat → Value} {X : Nat → List Int} (h : Bld w H C n V X) (hu : Upd b w w') (hC : b ≠ C) (hH : ∀ j, 1 ≤ j → j ≤ 3 → (V j).ownBlock ≠ some b) : Bld w' H C n V X :=
 ⟨Nat.lt_of_lt_of_le h.lt hu.size, Nat.le_trans h.hs hu.size, hu.cellAt h.lt (fun e => hC e.symm) h.c0, fun j h1 h2 => hu.cellAt h.lt (fun e => hC e.symm) (h.cj j h1 h2), fun j hj => hu.frozenAt h.lt (fun e => hC e.symm) (h.fz j hj),
  fun j h1 h2 => own_kept (h.own j h1 h2) (fun g hg => hu.block g ((h.own j h1 h2).lt g hg).2 (fun e => hH j h1 h2 (e ▸ hg))), h.ne, h.nC⟩
theorem Bld.upd {w w' : World} {H C b : Nat} {n : Int} {V : Nat → Value} {X : Nat → List Int} (h : Bld w H C n V X) (hu : Upd b w w') (hC : b ≠ C) (hH : b < H) : Bld w' H C n V X :=
 h.upd' hu hC (fun j h1 h2 e => by have := (h.own j h1 h2).lt b e; omega)
theorem upd4 (b : Nat) (w : World) (v0 v1 v2 v3 : Value) : Upd b w ((((w.setCell ⟨b, 0, none⟩ v0).setCell ⟨b, 1, none⟩ v1).setCell ⟨b, 2, none⟩ v2).setCell ⟨b, 3, none⟩ v3) :=
 (((Upd.setCell b 0 _ _).trans (Upd.setCell b 1 _ _)).trans (Upd.setCell b 2 _ _)).trans (Upd.setCell b 3 _ _)
theorem three_of {p : Nat → Prop} (h1 : p 1) (h2 : p 2) (h3 : p 3) : ∀ j, 1 ≤ j → j ≤ 3 → p j := fun j a b => by
 obtain rfl | rfl | rfl : j = 1 ∨ j = 2 ∨ j = 3 := by omega
 ·exact h1
 ·exact h2
 ·exact h3
structure Blk (w : World) (b : Nat) (v0 v1 v2 v3 : Value) : Prop where
 c0 : w.cell? ⟨b, 0, none⟩ = some v0
 c1 : w.cell? ⟨b, 1, none⟩ = some v1
 c2 : w.cell? ⟨b, 2, none⟩ = some v2
 c3 : w.cell? ⟨b, 3, none⟩ = some v3
 f0 : w.frozen? ⟨b, 0, none⟩ = false
 f1 : w.frozen? ⟨b, 1, none⟩ = false
 f2 : w.frozen? ⟨b, 2, none⟩ = false
 f3 : w.frozen? ⟨b, 3, none⟩ = false
theorem Blk.new (w : World) (v0 v1 v2 v3 : Value) (t : TypeId) : Blk (w.alloc (.cells #[v0, v1, v2, v3] t)) w.heap.size v0 v1 v2 v3 := by
 constructor <;> simp [go_sem]
theorem Blk.new' {w : World} {N : Nat} (v0 v1 v2 v3 : Value) (t : TypeId) (hN : w.heap.size = N) : Blk (w.alloc (.cells #[v0, v1, v2, v3] t)) N v0 v1 v2 v3 := by
 subst hN; exact Blk.new w v0 v1 v2 v3 t
theorem Blk.below {w w' : World} {b B : Nat} {v0 v1 v2 v3 : Value} (h : Blk w b v0 v1 v2 v3) (hb : Below B w w') (hlt : b < B) : Blk w' b v0 v1 v2 v3 :=
 ⟨cellK hb hlt h.c0, cellK hb hlt h.c1, cellK hb hlt h.c2, cellK hb hlt h.c3, frozenK hb hlt h.f0, frozenK hb hlt h.f1, frozenK hb hlt h.f2, frozenK hb hlt h.f3⟩
theorem Blk.qu {w w' : World} {b : Nat} {v0 v1 v2 v3 : Value} (h : Blk w b v0 v1 v2 v3) (k : Qu w w') : Blk w' b v0 v1 v2 v3 := by
 obtain ⟨n, rfl⟩ := k
 exact ⟨h.c0, h.c1, h.c2, h.c3, h.f0, h.f1, h.f2, h.f3⟩
theorem Blk.alloc {w : World} {b : Nat} {v0 v1 v2 v3 : Value} (h : Blk w b v0 v1 v2 v3) (hlt : b < w.heap.size) (o : Obj) : Blk (w.alloc o) b v0 v1 v2 v3 := h.below (bl1 w o) hlt
def emN (m : Int) : Nat := if m ≤ 0 then 0 else if m = 1 then 1 else 2
def EmptyRel (m : Int) (w0 : World) (C : Nat) (i : Value) (wr : World) : Prop :=
 ∃ (k : Nat) (V : Nat → Value), k ≤ emN m ∧ i = .int .i64 k ∧ Bld wr (C + 1) C 0 V (fun _ => List.replicate k 0) ∧ Below C w0 wr
theorem rep_snoc (k : Nat) : List.replicate k (0 : Int) ++ [0] = List.replicate (k + 1) 0 := by rw [List.replicate_succ']
set_option linter.unusedSimpArgs false
theorem mk0 : ∀ w, (Instr.makeSlice 27 (.int .i64 0) (.int .i64 0)).run Tryz.prog w = .ok (.slice (some ⟨w.heap.size, 0, none⟩) 0 0) (w.alloc (.cells #[] 3)) := fun _ => by kernel_rfl
theorem mk1 : ∀ w, (Instr.makeSlice 27 (.int .i64 1) (.int .i64 1)).run Tryz.prog w = .ok (.slice (some ⟨w.heap.size, 0, none⟩) 1 1) (w.alloc (.cells #[.int .i64 0] 3)) := fun _ => by kernel_rfl
theorem mk2 : ∀ w, (Instr.makeSlice 27 (.int .i64 2) (.int .i64 2)).run Tryz.prog w = .ok (.slice (some ⟨w.heap.size, 0, none⟩) 2 2) (w.alloc (.cells #[.int .i64 0, .int .i64 0] 3)) := fun _ => by kernel_rfl
theorem rows3 {w1 : World} {N H : Nat} (K : Nat) (cs : Array Value) (hcs : cs.toList = ivals (List.replicate K 0)) (hsz : cs.size = K) (hK : K ≤ maxLen) (hN : w1.heap.size = N) (hH : H ≤ N) :
  (((w1.alloc (.cells cs 3)).alloc (.cells cs 3)).alloc (.cells cs 3)).ownsRow H 3 1 (.slice (some ⟨N, 0, none⟩) K K) (List.replicate K (0 : Int)).length (ivals (List.replicate K 0)) ∧
  (((w1.alloc (.cells cs 3)).alloc (.cells cs 3)).alloc (.cells cs 3)).ownsRow H 3 1 (.slice (some ⟨N + 1, 0, none⟩) K K) (List.replicate K (0 : Int)).length (ivals (List.replicate K 0)) ∧
  (((w1.alloc (.cells cs 3)).alloc (.cells cs 3)).alloc (.cells cs 3)).ownsRow H 3 1 (.slice (some ⟨N + 1 + 1, 0, none⟩) K K) (List.replicate K (0 : Int)).length (ivals (List.replicate K 0)) := by
 rw [List.length_replicate, ← hcs]
 subst hN
 refine ⟨((World.ownsRow_lit w1 cs K hH hK (by omega)).alloc _).alloc _, ?_, ?_⟩
 ·have := (World.ownsRow_lit (base := H) (e := 3) (size := 1) (w1.alloc (.cells cs 3)) cs K (by simp; omega) hK (by omega)).alloc (.cells cs 3)
  simpa only [World.size_alloc] using this
 ·have := World.ownsRow_lit (base := H) (e := 3) (size := 1) ((w1.alloc (.cells cs 3)).alloc (.cells cs 3)) cs K (by simp; omega) hK (by omega)
  simpa only [World.size_alloc] using this
set_option maxRecDepth 100000 in
set_option maxHeartbeats 1600000 in
theorem cellEmpty_any (m : Int) (w : World) :
  Calls Tryz.prog 100 #[.int .i64 m] w (OwnPost (emptyC (emN m)) w) := by
 go_enter Tryz.func100, Tryz.ntmps100
 by_cases h0 : m ≤ 0
 ·have he : emN m = 0 := by unfold emN; rw [if_pos h0]
  rw [he]
  have hm := mk0
  go_wp2
  all_goals go_region
  all_goals go_wp2
  all_goals first
   | (refine bodyPost_ret (v := .agg #[.int .i64 0, .slice (some ⟨w.heap.size + 1, 0, none⟩) 0 0, .slice (some ⟨w.heap.size + 1 + 1, 0, none⟩) 0 0, .slice (some ⟨w.heap.size + 1 + 1 + 1, 0, none⟩) 0 0]) ?_ rfl ?_; · (simp [results, Tryz.results100, go_sem]; done))
   | (refine bodyPost_ret (v := .agg #[.int .i64 0, .slice (some ⟨w.heap.size + 1, 0, none⟩) 0 0, .slice (some ⟨w.heap.size + 1 + 1 + 1, 0, none⟩) 0 0, .slice (some ⟨w.heap.size + 1 + 1, 0, none⟩) 0 0]) ?_ rfl ?_; · (simp [results, Tryz.results100, go_sem]; done))
   | (refine bodyPost_ret (v := .agg #[.int .i64 0, .slice (some ⟨w.heap.size + 1 + 1, 0, none⟩) 0 0, .slice (some ⟨w.heap.size + 1, 0, none⟩) 0 0, .slice (some ⟨w.heap.size + 1 + 1 + 1, 0, none⟩) 0 0]) ?_ rfl ?_; · (simp [results, Tryz.results100, go_sem]; done))
   | (refine bodyPost_ret (v := .agg #[.int .i64 0, .slice (some ⟨w.heap.size + 1 + 1, 0, none⟩) 0 0, .slice (some ⟨w.heap.size + 1 + 1 + 1, 0, none⟩) 0 0, .slice (some ⟨w.heap.size + 1, 0, none⟩) 0 0]) ?_ rfl ?_; · (simp [results, Tryz.results100, go_sem]; done))
   | (refine bodyPost_ret (v := .agg #[.int .i64 0, .slice (some ⟨w.heap.size + 1 + 1 + 1, 0, none⟩) 0 0, .slice (some ⟨w.heap.size + 1, 0, none⟩) 0 0, .slice (some ⟨w.heap.size + 1 + 1, 0, none⟩) 0 0]) ?_ rfl ?_; · (simp [results, Tryz.results100, go_sem]; done))
   | (refine bodyPost_ret (v := .agg #[.int .i64 0, .slice (some ⟨w.heap.size + 1 + 1 + 1, 0, none⟩) 0 0, .slice (some ⟨w.heap.size + 1 + 1, 0, none⟩) 0 0, .slice (some ⟨w.heap.size + 1, 0, none⟩) 0 0]) ?_ rfl ?_; · (simp [results, Tryz.results100, go_sem]; done))
  all_goals
   have hr := fun R => rows3 (H := w.heap.size) 0 #[] rfl rfl (by simp [maxLen]) (w1 := w.alloc R) (N := w.heap.size + 1) (by simp) (by omega)
   refine ⟨_, rfl, ⟨_, _, _, rfl, ?_, ?_, ?_, ?_, ?_⟩, (by repeat' first | with_reducible exact Below.refl _ _ | assumption | (with_reducible refine Below.alloc ?_ ?_ _) | (with_reducible refine Below.setCell ?_ ?_ _) | (with_reducible refine Below.drew ?_) | (with_reducible refine below_drewN ?_ _) | (with_reducible refine Below.trans ?_ (Below.mono ‹_› ?_)) | omega | (with_reducible refine le_alloc ?_) | (with_reducible refine le_setCell ?_) | (with_reducible refine le_drew ?_) | (with_reducible refine le_drewN ?_) | (with_reducible refine Nat.le_trans ?_ (Below.size ‹_›)) | (simp <;> omega))⟩
   ·first | exact (hr _).1.drew | exact (hr _).2.1.drew | exact (hr _).2.2.drew
   ·first | exact (hr _).1.drew | exact (hr _).2.1.drew | exact (hr _).2.2.drew
   ·first | exact (hr _).1.drew | exact (hr _).2.1.drew | exact (hr _).2.2.drew
   ·intro g hg; simp [Value.ownBlock] at hg ⊢; omega
   ·intro g hg; simp [Value.ownBlock] at hg ⊢; omega
 ·by_cases h1 : m = 1
  ·have he : emN m = 1 := by unfold emN; rw [if_neg h0, if_pos h1]
   rw [he]
   subst h1
   have hm := mk1
   go_wp2
   all_goals go_region
   all_goals go_wp2
   all_goals first
    | (refine bodyPost_ret (v := .agg #[.int .i64 0, .slice (some ⟨w.heap.size + 1, 0, none⟩) 1 1, .slice (some ⟨w.heap.size + 1 + 1, 0, none⟩) 1 1, .slice (some ⟨w.heap.size + 1 + 1 + 1, 0, none⟩) 1 1]) ?_ rfl ?_; · (simp [results, Tryz.results100, go_sem]; done))
    | (refine bodyPost_ret (v := .agg #[.int .i64 0, .slice (some ⟨w.heap.size + 1, 0, none⟩) 1 1, .slice (some ⟨w.heap.size + 1 + 1 + 1, 0, none⟩) 1 1, .slice (some ⟨w.heap.size + 1 + 1, 0, none⟩) 1 1]) ?_ rfl ?_; · (simp [results, Tryz.results100, go_sem]; done))
    | (refine bodyPost_ret (v := .agg #[.int .i64 0, .slice (some ⟨w.heap.size + 1 + 1, 0, none⟩) 1 1, .slice (some ⟨w.heap.size + 1, 0, none⟩) 1 1, .slice (some ⟨w.heap.size + 1 + 1 + 1, 0, none⟩) 1 1]) ?_ rfl ?_; · (simp [results, Tryz.results100, go_sem]; done))
    | (refine bodyPost_ret (v := .agg #[.int .i64 0, .slice (some ⟨w.heap.size + 1 + 1, 0, none⟩) 1 1, .slice (some ⟨w.heap.size + 1 + 1 + 1, 0, none⟩) 1 1, .slice (some ⟨w.heap.size + 1, 0, none⟩) 1 1]) ?_ rfl ?_; · (simp [results, Tryz.results100, go_sem]; done))
    | (refine bodyPost_ret (v := .agg #[.int .i64 0, .slice (some ⟨w.heap.size + 1 + 1 + 1, 0, none⟩) 1 1, .slice (some ⟨w.heap.size + 1, 0, none⟩) 1 1, .slice (some ⟨w.heap.size + 1 + 1, 0, none⟩) 1 1]) ?_ rfl ?_; · (simp [results, Tryz.results100, go_sem]; done))
    | (refine bodyPost_ret (v := .agg #[.int .i64 0, .slice (some ⟨w.heap.size + 1 + 1 + 1, 0, none⟩) 1 1, .slice (some ⟨w.heap.size + 1 + 1, 0, none⟩) 1 1, .slice (some ⟨w.heap.size + 1, 0, none⟩) 1 1]) ?_ rfl ?_; · (simp [results, Tryz.results100, go_sem]; done))
   all_goals
    have hr := fun R => rows3 (H := w.heap.size) 1 #[.int .i64 0] rfl rfl (by simp [maxLen]) (w1 := w.alloc R) (N := w.heap.size + 1) (by simp) (by omega)
    refine ⟨_, rfl, ⟨_, _, _, rfl, ?_, ?_, ?_, ?_, ?_⟩, (by repeat' first | with_reducible exact Below.refl _ _ | assumption | (with_reducible refine Below.alloc ?_ ?_ _) | (with_reducible refine Below.setCell ?_ ?_ _) | (with_reducible refine Below.drew ?_) | (with_reducible refine below_drewN ?_ _) | (with_reducible refine Below.trans ?_ (Below.mono ‹_› ?_)) | omega | (with_reducible refine le_alloc ?_) | (with_reducible refine le_setCell ?_) | (with_reducible refine le_drew ?_) | (with_reducible refine le_drewN ?_) | (with_reducible refine Nat.le_trans ?_ (Below.size ‹_›)) | (simp <;> omega))⟩
    ·first | exact (hr _).1.drew | exact (hr _).2.1.drew | exact (hr _).2.2.drew
    ·first | exact (hr _).1.drew | exact (hr _).2.1.drew | exact (hr _).2.2.drew
    ·first | exact (hr _).1.drew | exact (hr _).2.1.drew | exact (hr _).2.2.drew
    ·intro g hg; simp [Value.ownBlock] at hg ⊢; omega
    ·intro g hg; simp [Value.ownBlock] at hg ⊢; omega
  ·have he : emN m = 2 := by unfold emN; rw [if_neg h0, if_neg h1]
   rw [he]
   have hm := mk2
   rcases (show m = 2 ∨ 2 < m by omega) with rfl | h2
   all_goals go_wp2
   all_goals go_region
   all_goals go_wp2
   all_goals first
    | (refine bodyPost_ret (v := .agg #[.int .i64 0, .slice (some ⟨w.heap.size + 1, 0, none⟩) 2 2, .slice (some ⟨w.heap.size + 1 + 1, 0, none⟩) 2 2, .slice (some ⟨w.heap.size + 1 + 1 + 1, 0, none⟩) 2 2]) ?_ rfl ?_; · (simp [results, Tryz.results100, go_sem]; done))
    | (refine bodyPost_ret (v := .agg #[.int .i64 0, .slice (some ⟨w.heap.size + 1, 0, none⟩) 2 2, .slice (some ⟨w.heap.size + 1 + 1 + 1, 0, none⟩) 2 2, .slice (some ⟨w.heap.size + 1 + 1, 0, none⟩) 2 2]) ?_ rfl ?_; · (simp [results, Tryz.results100, go_sem]; done))
    | (refine bodyPost_ret (v := .agg #[.int .i64 0, .slice (some ⟨w.heap.size + 1 + 1, 0, none⟩) 2 2, .slice (some ⟨w.heap.size + 1, 0, none⟩) 2 2, .slice (some ⟨w.heap.size + 1 + 1 + 1, 0, none⟩) 2 2]) ?_ rfl ?_; · (simp [results, Tryz.results100, go_sem]; done))
    | (refine bodyPost_ret (v := .agg #[.int .i64 0, .slice (some ⟨w.heap.size + 1 + 1, 0, none⟩) 2 2, .slice (some ⟨w.heap.size + 1 + 1 + 1, 0, none⟩) 2 2, .slice (some ⟨w.heap.size + 1, 0, none⟩) 2 2]) ?_ rfl ?_; · (simp [results, Tryz.results100, go_sem]; done))
    | (refine bodyPost_ret (v := .agg #[.int .i64 0, .slice (some ⟨w.heap.size + 1 + 1 + 1, 0, none⟩) 2 2, .slice (some ⟨w.heap.size + 1, 0, none⟩) 2 2, .slice (some ⟨w.heap.size + 1 + 1, 0, none⟩) 2 2]) ?_ rfl ?_; · (simp [results, Tryz.results100, go_sem]; done))
    | (refine bodyPost_ret (v := .agg #[.int .i64 0, .slice (some ⟨w.heap.size + 1 + 1 + 1, 0, none⟩) 2 2, .slice (some ⟨w.heap.size + 1 + 1, 0, none⟩) 2 2, .slice (some ⟨w.heap.size + 1, 0, none⟩) 2 2]) ?_ rfl ?_; · (simp [results, Tryz.results100, go_sem]; done))
   all_goals
    have hr := fun R => rows3 (H := w.heap.size) 2 #[.int .i64 0, .int .i64 0] rfl rfl (by simp [maxLen]) (w1 := w.alloc R) (N := w.heap.size + 1) (by simp) (by omega)
    refine ⟨_, rfl, ⟨_, _, _, rfl, ?_, ?_, ?_, ?_, ?_⟩, (by repeat' first | with_reducible exact Below.refl _ _ | assumption | (with_reducible refine Below.alloc ?_ ?_ _) | (with_reducible refine Below.setCell ?_ ?_ _) | (with_reducible refine Below.drew ?_) | (with_reducible refine below_drewN ?_ _) | (with_reducible refine Below.trans ?_ (Below.mono ‹_› ?_)) | omega | (with_reducible refine le_alloc ?_) | (with_reducible refine le_setCell ?_) | (with_reducible refine le_drew ?_) | (with_reducible refine le_drewN ?_) | (with_reducible refine Nat.le_trans ?_ (Below.size ‹_›)) | (simp <;> omega))⟩
    ·first | exact (hr _).1.drew | exact (hr _).2.1.drew | exact (hr _).2.2.drew
    ·first | exact (hr _).1.drew | exact (hr _).2.1.drew | exact (hr _).2.2.drew
    ·first | exact (hr _).1.drew | exact (hr _).2.1.drew | exact (hr _).2.2.drew
    ·intro g hg; simp [Value.ownBlock] at hg ⊢; omega
    ·intro g hg; simp [Value.ownBlock] at hg ⊢; omega
theorem may_shape {c : CellM} (h : ¬ c.shape) : mayC c = false := mayC_not.2 (fun e => h e.1)
theorem may_is_empty {c : CellM} (h : c.shape) (e : c = emptyC c.s.length) : mayC c = true := mayC_iff.2 (by rw [e]; exact may_empty h.1)
theorem may_count {c : CellM} (h : ¬ (1 ≤ c.n ∧ c.n ≤ CNT)) (e : c ≠ emptyC c.s.length) : mayC c = false := mayC_not.2 (fun x => by
 rcases x.2 with ⟨_, h'⟩ | ⟨h', _⟩
 ·exact e h'
 ·exact h h')
theorem may_col {c : CellM} (h : 1 ≤ c.n ∧ c.n ≤ CNT) {k : Nat} (hk : k < c.s.length) (e : ¬ c.col k) : mayC c = false := mayC_not.2 (fun x => by
 rcases x.2 with ⟨h', _⟩ | ⟨_, h'⟩
 ·exact h' h
 ·exact e (h' k hk))
theorem may_all {c : CellM} (hs : c.shape) (h : 1 ≤ c.n ∧ c.n ≤ CNT) (hc : ∀ k, k < c.s.length → c.col k) : mayC c = true := mayC_iff.2 ⟨hs, .inr ⟨h, hc⟩⟩
theorem emN_nat {m : Nat} (h : m ≤ 2) : emN (m : Int) = m := by unfold emN; split <;> (try split) <;> omega
def MayRel (c : CellM) (w : World) (i : Value) (wr : World) : Prop := ∃ k : Nat, k ≤ c.s.length ∧ i = .int .i64 k ∧ (∀ j, j < k → c.col j) ∧ Qu w wr
theorem col_iff {n x lo hi : Int} : colP n x lo hi ↔ ¬ lo > hi ∧ inB lo 2305843009213693952 = true ∧ inB hi 2305843009213693952 = true ∧ inB x 4611686018427387904 = true ∧ (n = 1 → x = lo ∧ x = hi) := by
 unfold colP VAL SUM
 rw [inB_iff, inB_iff, inB_iff]
 constructor
 ·rintro ⟨h1, h2, h3, h4, h5⟩; exact ⟨by omega, h2, h3, h4, h5⟩
 ·rintro ⟨h1, h2, h3, h4, h5⟩; exact ⟨by omega, h2, h3, h4, h5⟩
def GoodB (x l h : Int) : Prop := ¬ h < l ∧ inB l 2305843009213693952 = true ∧ inB h 2305843009213693952 = true ∧ inB x 4611686018427387904 = true
theorem col_ways (n x l h : Int) : (¬ colP n x l h ∧ (h < l ∨ (¬ h < l ∧ inB l 2305843009213693952 = false) ∨ (¬ h < l ∧ inB l 2305843009213693952 = true ∧ inB h 2305843009213693952 = false) ∨
   (¬ h < l ∧ inB l 2305843009213693952 = true ∧ inB h 2305843009213693952 = true ∧ inB x 4611686018427387904 = false))) ∨
  (GoodB x l h ∧ ((¬ colP n x l h ∧ (((n == 1) = true ∧ (x != l) = true) ∨ ((n == 1) = true ∧ (x != l) = false ∧ (x != h) = true))) ∨ (colP n x l h ∧ ((n == 1) = false ∨ ((n == 1) = true ∧ (x != l) = false ∧ (x != h) = false))))) := by
 rw [col_iff]
 unfold GoodB
 by_cases h1 : h < l
 ·exact .inl ⟨fun e => e.1 h1, .inl h1⟩
 cases h2 : inB l 2305843009213693952
 ·exact .inl ⟨fun e => by simp at e, .inr (.inl ⟨h1, rfl⟩)⟩
 cases h3 : inB h 2305843009213693952
 ·exact .inl ⟨fun e => by simp at e, .inr (.inr (.inl ⟨h1, rfl, rfl⟩))⟩
 cases h4 : inB x 4611686018427387904
 ·exact .inl ⟨fun e => by simp at e, .inr (.inr (.inr ⟨h1, rfl, rfl, rfl⟩))⟩
 refine .inr ⟨⟨h1, rfl, rfl, rfl⟩, ?_⟩
 by_cases h5 : n = 1
 ·by_cases h6 : x = l
  ·by_cases h7 : x = h
   ·exact .inr ⟨⟨h1, rfl, rfl, rfl, fun _ => ⟨h6, h7⟩⟩, .inr (by simp [h5, h6, ← h7])⟩
   ·exact .inl ⟨fun e => h7 (e.2.2.2.2 h5).2, .inr (by simp [h5, h6]; omega)⟩
  ·exact .inl ⟨fun e => h6 (e.2.2.2.2 h5).1, .inl (by simp [h5]; omega)⟩
 ·exact .inr ⟨⟨h1, rfl, rfl, rfl, fun e => absurd e h5⟩, .inl (by simpa using h5)⟩
theorem no_lt {a b : Int} (h : ¬ a < b) : decide (a < b) = false := decide_eq_false h
theorem all_succ {p : Nat → Prop} {k : Nat} (h : ∀ j, j < k → p j) (hk : p k) : ∀ j, j < k + 1 → p j := fun j hj => by
 rcases Nat.lt_or_ge j k with h' | h'
 ·exact h j h'
 ·obtain rfl : j = k := by omega
  exact hk
end Go.Proofs.YtgoapnkdcfcjgaaGreat
