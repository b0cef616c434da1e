/- 2 texts of this claim, in build order. -/
import Derived.Test.YtclhnnidbhchnaaPebbpdehd
import Derived.Test.YtclhnnidbhchnaaPiinhkida
/- A cell that is built in a block of the call's own: its three lists are rows of the call's own. -/
namespace Go.Proofs.Ytclhnnidbhchnaa
open Go.ChangeShapes Go.WideShapes Go.ChangeAt Go.RowKit
set_option linter.unusedVariables false

structure Bld (w : World) (H C : Nat) (n : Int) (V : Nat → Value) (X : Nat → List Int) : Prop where
  lt : C < w.heap.size
  hs : H ≤ w.heap.size
  c0 : w.cell? ⟨C, 0, none⟩ = some (.int .i64 n)
  cj : ∀ j, 1 ≤ j → j ≤ 3 → w.cell? ⟨C, j, none⟩ = some (V j)
  fz : ∀ j, j < 4 → w.frozen? ⟨C, j, none⟩ = false
  own : ∀ j, 1 ≤ j → j ≤ 3 → w.ownsRow H 3 1 (V j) (X j).length (ivals (X j))
  ne : ∀ i j g, 1 ≤ i → i ≤ 3 → 1 ≤ j → j ≤ 3 → i ≠ j → (V i).ownBlock = some g → (V j).ownBlock ≠ some g
  nC : ∀ j, 1 ≤ j → j ≤ 3 → (V j).ownBlock ≠ some C
def upd {α : Type} (f : Nat → α) (j : Nat) (x : α) : Nat → α := fun i => if i = j then x else f i
theorem upd_same {α : Type} (f : Nat → α) (j : Nat) (x : α) : upd f j x j = x := if_pos rfl
theorem upd_ne {α : Type} (f : Nat → α) {i j : Nat} (x : α) (h : i ≠ j) : upd f j x i = f i := if_neg h
theorem Bld.kept {w w' : World} {H C : Nat} {n : Int} {V : Nat → Value} {X : Nat → List Int} (h : Bld w H C n V X) (hb : Below w.heap.size w w') : Bld w' H C n V X :=
  ⟨Nat.lt_of_lt_of_le h.lt hb.size, Nat.le_trans h.hs hb.size, cellK hb h.lt h.c0, fun j h1 h2 => cellK hb h.lt (h.cj j h1 h2), fun j hj => frozenK hb h.lt (h.fz j hj),
    fun j h1 h2 => own_kept (h.own j h1 h2) (fun g hg => hb.block g ((h.own j h1 h2).lt g hg).2), h.ne, h.nC⟩
/-- One list has grown, and its header is stored. -/
theorem Bld.step {wr wa w1 : World} {H C m : Nat} {n : Int} {V : Nat → Value} {X : Nat → List Int} {v' : Value} {news : List Int} (h : Bld wr H C n V X) (j : Nat) (h1 : 1 ≤ j) (h3 : j ≤ 3) (hb : Below wr.heap.size wr wa)
    (hown : w1.ownsRow H 3 1 v' m (ivals (X j) ++ ivals news)) (hg : wa.grownBy w1 (V j).ownBlock) (hat : v'.ownBlock = (V j).ownBlock ∨ v'.ownBlock = some wa.heap.size) :
    w1.cell? ⟨C, j, none⟩ = some (V j) ∧ w1.frozen? ⟨C, j, none⟩ = false ∧ Bld (w1.setCell ⟨C, j, none⟩ v') H C n (upd V j v') (upd X j (X j ++ news)) ∧ (∀ B w, B ≤ C → B ≤ H → Below B w wr → Below B w (w1.setCell ⟨C, j, none⟩ v')) := by
  have ha := h.kept hb
  have hlt := h.lt
  have hsb0 := hb.size
  have hsa := ha.hs
  have hgs := hg.size
  have hbl : ∀ g, (V j).ownBlock = some g → H ≤ g ∧ g < wr.heap.size := fun g hg => (h.own j h1 h3).lt g hg
  have hk : ∀ g, g < wa.heap.size → (V j).ownBlock ≠ some g → w1.heap[g]? = wa.heap[g]? := fun g hg' hn => hg.block g hg' (fun e => hn e.symm)
  have hC : w1.heap[C]? = wa.heap[C]? := hk C (by omega) (fun e => h.nC j h1 h3 e)
  have hcell : ∀ i v, wa.cell? ⟨C, i, none⟩ = some v → w1.cell? ⟨C, i, none⟩ = some v := fun i v hv => (World.cell?_of_block (a := ⟨C, i, none⟩) hC).trans hv
  have hfz : ∀ i, i < 4 → w1.frozen? ⟨C, i, none⟩ = false := fun i hi => (World.frozen?_of_block (a := ⟨C, i, none⟩) hC).trans (ha.fz i hi)
  have hfar : ∀ g, g ≠ C → (w1.setCell ⟨C, j, none⟩ v').heap[g]? = w1.heap[g]? := fun g hg => Below.heap_setCell _ _ _ g (by simpa using hg)
  have hsz : (w1.setCell ⟨C, j, none⟩ v').heap.size = w1.heap.size := by simp [World.setCell]
  have hsb := hb.size
  have hsr := h.hs
  have hC1 : C < w1.heap.size := by omega
  have hnC' : v'.ownBlock ≠ some C := fun e => by
    rcases hat with e' | e'
    · exact h.nC j h1 h3 (e' ▸ e)
    · rw [e'] at e; injection e with e; omega
  have hlen : m = (X j ++ news).length := by
    have := hown.1; simp only [List.length_append, ivals_len] at this ⊢; omega
  have hne' : ∀ i g, 1 ≤ i → i ≤ 3 → i ≠ j → (V i).ownBlock = some g → v'.ownBlock ≠ some g := fun i g i1 i3 hij hg h' => by
    rcases hat with e | e
    · exact h.ne i j g i1 i3 h1 h3 hij hg (e ▸ h')
    · have := (h.own i i1 i3).lt g hg; rw [e] at h'; injection h' with h'; omega
  refine ⟨hcell j _ (ha.cj j h1 h3), hfz j (by omega), ⟨by rw [hsz]; omega, by rw [hsz]; omega, cell_beside (by omega) (hcell 0 _ ha.c0), fun i i1 i3 => ?_, fun i hi => frozen_far (hfz i hi), fun i i1 i3 => ?_, fun i k g i1 i3 k1 k3 hik hg' => ?_, fun i i1 i3 => ?_⟩, fun B w hB hBH hw => ?_⟩
  · by_cases hij : i = j
    · subst hij; rw [upd_same]; exact cell_here (hcell i _ (ha.cj i h1 h3))
    · rw [upd_ne _ _ hij]; exact cell_beside (by omega) (hcell i _ (ha.cj i i1 i3))
  · by_cases hij : i = j
    · subst hij; rw [upd_same, upd_same, ← hlen]
      have e : ivals (X i ++ news) = ivals (X i) ++ ivals news := by simp [ivals]
      rw [e]
      exact own_kept hown (fun g hg' => hfar g (fun e => hnC' (e ▸ hg')))
    · rw [upd_ne _ _ hij, upd_ne _ _ hij]
      refine own_kept (h.own i i1 i3) (fun g hg' => ?_)
      have hl := (h.own i i1 i3).lt g hg'
      exact (hfar g (fun e => h.nC i i1 i3 (e ▸ hg'))).trans ((hk g (by omega) (h.ne i j g i1 i3 h1 h3 hij hg')).trans (hb.block g hl.2))
  · by_cases hij : i = j
    · subst hij
      rw [upd_same] at hg'
      rw [upd_ne _ _ (fun e => hik e.symm)]
      exact fun e => hne' k g k1 k3 (fun e => hik e.symm) e hg'
    · rw [upd_ne _ _ hij] at hg'
      by_cases hkj : k = j
      · subst hkj; rw [upd_same]; exact hne' i g i1 i3 hij hg'
      · rw [upd_ne _ _ hkj]; exact h.ne i k g i1 i3 k1 k3 hik hg'
  · by_cases hij : i = j
    · subst hij; rw [upd_same]; exact hnC'
    · rw [upd_ne _ _ hij]; exact h.nC i i1 i3
  · have hw' : Below B w wa := hw.trans (hb.mono (by omega))
    have h2 : Below B w w1 := hw'.grown hg (by omega) (fun g hg' => by have := hbl g hg'; omega)
    exact h2.trans ((Upd.setCell C j w1 v').below hB hC1)
/-- What is read of it. -/
theorem Bld.read {w : World} {H C : Nat} {n : Int} {V : Nat → Value} {X : Nat → List Int} (h : Bld w H C n V X) : CellR w w.heap.size (.agg #[.int .i64 n, V 1, V 2, V 3]) ⟨n, X 1, X 2, X 3⟩ :=
  ⟨V 1, V 2, V 3, rfl, Sl.of_own (h.own 1 (by omega) (by omega)), Sl.of_own (h.own 2 (by omega) (by omega)), Sl.of_own (h.own 3 (by omega) (by omega))⟩
/-- A new one, its lists nil. -/
theorem Bld.start {w : World} {C : Nat} {n : Int} (hC : w.heap.size = C) : Bld (w.alloc (.cells #[.int .i64 n, .slice none 0 0, .slice none 0 0, .slice none 0 0] 25)) (C + 1) C n (fun _ => .slice none 0 0) (fun _ => []) := by
  subst hC
  refine ⟨by simp, by simp, by simp [go_sem], fun j h1 h3 => ?_, fun j hj => by simp [go_sem], fun j _ _ => World.ownsRow_nil _ _ _ _, fun i j g _ _ _ _ _ hg => by simp [Value.ownBlock] at hg, fun j _ _ e => by simp [Value.ownBlock] at e⟩
  rw [World.cell?_alloc_at _ _ _ _ rfl]
  obtain rfl | rfl | rfl : j = 1 ∨ j = 2 ∨ j = 3 := by omega
  all_goals rfl
theorem bld_same {w : World} {H C : Nat} {n : Int} {V V' : Nat → Value} {X X' : Nat → List Int} (h : Bld w H C n V X) (hV : ∀ j, 1 ≤ j → j ≤ 3 → V j = V' j) (hX : ∀ j, 1 ≤ j → j ≤ 3 → X j = X' j) : Bld w H C n V' X' :=
  ⟨h.lt, h.hs, h.c0, fun j h1 h3 => by rw [← hV j h1 h3]; exact h.cj j h1 h3, h.fz, fun j h1 h3 => by rw [← hV j h1 h3, ← hX j h1 h3]; exact h.own j h1 h3, fun i j g i1 i3 j1 j3 hij hg => by
    rw [← hV i i1 i3] at hg; rw [← hV j j1 j3]; exact h.ne i j g i1 i3 j1 j3 hij hg, fun j h1 h3 => by rw [← hV j h1 h3]; exact h.nC j h1 h3⟩
/-- The count is stored. -/
theorem Bld.setN {w : World} {H C : Nat} {n : Int} {V : Nat → Value} {X : Nat → List Int} (h : Bld w H C n V X) (m : Int) : Bld (w.setCell ⟨C, 0, none⟩ (.int .i64 m)) H C m V X :=
  ⟨by simpa [World.setCell] using h.lt, by simpa [World.setCell] using h.hs, cell_here h.c0, fun j h1 h3 => cell_beside (by omega) (h.cj j h1 h3), fun j hj => frozen_far (h.fz j hj),
    fun j h1 h3 => own_kept (h.own j h1 h3) (fun g hg => Below.heap_setCell _ _ _ g (fun e => h.nC j h1 h3 (by rw [hg, e]))), h.ne, h.nC⟩
theorem ivals_set (l : List Int) (i : Nat) (x : Int) : (ivals l).set i (.int .i64 x) = ivals (l.set i x) := by unfold ivals; rw [List.map_set]
/-- An element of a list is stored. -/
theorem Bld.setAt {w : World} {H C : Nat} {n : Int} {V : Nat → Value} {X : Nat → List Int} (h : Bld w H C n V X) (j : Nat) (h1 : 1 ≤ j) (h3 : j ≤ 3) {g m c i : Nat} (hV : V j = .slice (some ⟨g, 0, none⟩) m c) (hi : i < (X j).length) (x : Int) :
    w.cell? ⟨g, i, none⟩ = some (.int .i64 ((X j).getD i 0)) ∧ w.frozen? ⟨g, i, none⟩ = false ∧ Bld (w.setCell ⟨g, i, none⟩ (.int .i64 x)) H C n V (Go.Proofs.Ytclhnnidbhchnaa.upd X j ((X j).set i x)) ∧ (∀ B w0, B ≤ H → Below B w0 w → Below B w0 (w.setCell ⟨g, i, none⟩ (.int .i64 x))) := by
  have ho := h.own j h1 h3
  have hg : (V j).ownBlock = some g := by rw [hV]; rfl
  have hlt := ho.lt g hg
  have hm : m = (X j).length := by
    rcases ho.2 with ⟨e, _⟩ | ⟨_, _, _, e, _⟩
    · rw [hV] at e; cases e
    · rw [hV] at e; injection e
  rw [hV] at ho
  subst hm
  have hgC : g ≠ C := fun e => h.nC j h1 h3 (e ▸ hg)
  have hcell := ho.cellAt (g := g) i (by omega)
  have hxs : (ivals (X j))[i]? = some (.int .i64 ((X j).getD i 0)) := by simp [ivals, List.getElem?_eq_getElem hi]
  have hfar : ∀ k, k ≠ g → (w.setCell ⟨g, i, none⟩ (.int .i64 x)).heap[k]? = w.heap[k]? := fun k hk => Below.heap_setCell _ _ _ k (by simpa using hk)
  have hst := (ho.stored i (.int .i64 x)).1
  refine ⟨hcell.trans hxs, ho.frozenAt i, ⟨by simpa [World.setCell] using h.lt, by simpa [World.setCell] using h.hs, cell_far hgC h.c0, fun k k1 k3 => cell_far hgC (h.cj k k1 k3), fun k hk => frozen_far (h.fz k hk), fun k k1 k3 => ?_, h.ne, h.nC⟩, fun B w0 hB hw => hw.trans ((Upd.setCell g i w _).below (by omega) (by omega))⟩
  by_cases hk : k = j
  · subst hk
    rw [upd_same, hV, List.length_set, ← ivals_set]
    exact hst
  · rw [upd_ne _ _ hk]
    exact own_kept (h.own k k1 k3) (fun q hq => hfar q (fun e => h.ne k j q k1 k3 h1 h3 hk hq (e ▸ hg)))
/-- A cell whose lists are rows of the call's own. -/
def OwnC (w : World) (H : Nat) (v : Value) (c : CellM) : Prop :=
  ∃ v1 v2 v3, v = .agg #[.int .i64 c.n, v1, v2, v3] ∧ w.ownsRow H 3 1 v1 c.s.length (ivals c.s) ∧ w.ownsRow H 3 1 v2 c.lo.length (ivals c.lo) ∧ w.ownsRow H 3 1 v3 c.hi.length (ivals c.hi) ∧
    (∀ g, v1.ownBlock = some g → v2.ownBlock ≠ some g ∧ v3.ownBlock ≠ some g) ∧ ∀ g, v2.ownBlock = some g → v3.ownBlock ≠ some g
def OwnPost (c : CellM) (w : World) (e : Ending) (w' : World) : Prop := ∃ v, e = .returned v ∧ OwnC w' w.heap.size v c ∧ Below w.heap.size w w'
theorem OwnC.read {w : World} {H : Nat} {v : Value} {c : CellM} (h : OwnC w H v c) : CellR w w.heap.size v c := by
  obtain ⟨v1, v2, v3, e, h1, h2, h3, -, -⟩ := h
  exact ⟨v1, v2, v3, e, Sl.of_own h1, Sl.of_own h2, Sl.of_own h3⟩
def V3 (v1 v2 v3 : Value) : Nat → Value := fun j => if j = 1 then v1 else if j = 2 then v2 else v3
def X3 (c : CellM) : Nat → List Int := fun j => if j = 1 then c.s else if j = 2 then c.lo else c.hi
theorem cases3 {j : Nat} (h1 : 1 ≤ j) (h3 : j ≤ 3) : j = 1 ∨ j = 2 ∨ j = 3 := by omega
/-- It is stored in a new block. -/
theorem OwnC.bld {w : World} {H : Nat} {v1 v2 v3 : Value} {c : CellM} (h : OwnC w H (.agg #[.int .i64 c.n, v1, v2, v3]) c) (hH : H ≤ w.heap.size) (t : TypeId) {N : Nat} (hN : w.heap.size = N) :
    Bld (w.alloc (.cells #[.int .i64 c.n, v1, v2, v3] t)) H N c.n (V3 v1 v2 v3) (X3 c) := by
  subst hN
  obtain ⟨u1, u2, u3, e, h1, h2, h3, h4, h5⟩ := h
  obtain ⟨rfl, rfl, rfl⟩ : v1 = u1 ∧ v2 = u2 ∧ v3 = u3 := by simpa using e
  have hown : ∀ j, 1 ≤ j → j ≤ 3 → w.ownsRow H 3 1 (V3 v1 v2 v3 j) (X3 c j).length (ivals (X3 c j)) := fun j a b => by
    obtain rfl | rfl | rfl := cases3 a b
    · exact h1
    · exact h2
    · exact h3
  refine ⟨by simp, by simp; omega, by simp [go_sem], fun j a b => ?_, fun j hj => by simp [go_sem], fun j a b => (hown j a b).alloc _, fun i j g i1 i3 j1 j3 hij hg => ?_, fun j a b e => ?_⟩
  · rw [World.cell?_alloc_at _ _ _ _ rfl]
    obtain rfl | rfl | rfl := cases3 a b <;> rfl
  · obtain rfl | rfl | rfl := cases3 i1 i3 <;> obtain rfl | rfl | rfl := cases3 j1 j3
    all_goals first
      | exact absurd rfl hij
      | exact (h4 g hg).1
      | exact (h4 g hg).2
      | exact h5 g hg
      | exact fun e => (h4 g e).1 hg
      | exact fun e => (h4 g e).2 hg
      | exact fun e => h5 g e hg
  · have := (hown j a b).lt _ e; omega
/-- What has been built is the call's own. -/
theorem Bld.ownC {w : World} {H C : Nat} {n : Int} {V : Nat → Value} {X : Nat → List Int} (h : Bld w H C n V X) : OwnC w H (.agg #[.int .i64 n, V 1, V 2, V 3]) ⟨n, X 1, X 2, X 3⟩ :=
  ⟨V 1, V 2, V 3, rfl, h.own 1 (by omega) (by omega), h.own 2 (by omega) (by omega), h.own 3 (by omega) (by omega),
    fun g hg => ⟨h.ne 1 2 g (by omega) (by omega) (by omega) (by omega) (by omega) hg, h.ne 1 3 g (by omega) (by omega) (by omega) (by omega) (by omega) hg⟩, fun g hg => h.ne 2 3 g (by omega) (by omega) (by omega) (by omega) (by omega) hg⟩
theorem cell_one_at (w : World) (x : Value) (t : TypeId) {N : Nat} (hN : w.heap.size = N) : ∀ j u, [x][j]? = some u → (w.alloc (.cells #[x] t)).cell? ((⟨N, 0, none⟩ : Addr).add j) = some u := by
  subst hN; exact cell_one_new w x t
theorem Bld.upd' {w w' : World} {H C b : Nat} {n : Int} {V : Nat → Value} {X : Nat → List Int} (h : Bld w H C n V X) (hu : Upd b w w') (hC : b ≠ C) (hH : ∀ j, 1 ≤ j → j ≤ 3 → (V j).ownBlock ≠ some b) : Bld w' H C n V X :=
  ⟨Nat.lt_of_lt_of_le h.lt hu.size, Nat.le_trans h.hs hu.size, hu.cellAt h.lt (fun e => hC e.symm) h.c0, fun j h1 h2 => hu.cellAt h.lt (fun e => hC e.symm) (h.cj j h1 h2), fun j hj => hu.frozenAt h.lt (fun e => hC e.symm) (h.fz j hj),
    fun j h1 h2 => own_kept (h.own j h1 h2) (fun g hg => hu.block g ((h.own j h1 h2).lt g hg).2 (fun e => hH j h1 h2 (e ▸ hg))), h.ne, h.nC⟩
theorem Bld.upd {w w' : World} {H C b : Nat} {n : Int} {V : Nat → Value} {X : Nat → List Int} (h : Bld w H C n V X) (hu : Upd b w w') (hC : b ≠ C) (hH : b < H) : Bld w' H C n V X :=
  h.upd' hu hC (fun j h1 h2 e => by have := (h.own j h1 h2).lt b e; omega)
/-- A cell is stored in a block. -/
theorem upd4 (b : Nat) (w : World) (v0 v1 v2 v3 : Value) : Upd b w ((((w.setCell ⟨b, 0, none⟩ v0).setCell ⟨b, 1, none⟩ v1).setCell ⟨b, 2, none⟩ v2).setCell ⟨b, 3, none⟩ v3) :=
  (((Upd.setCell b 0 _ _).trans (Upd.setCell b 1 _ _)).trans (Upd.setCell b 2 _ _)).trans (Upd.setCell b 3 _ _)
theorem three_of {p : Nat → Prop} (h1 : p 1) (h2 : p 2) (h3 : p 3) : ∀ j, 1 ≤ j → j ≤ 3 → p j := fun j a b => by
  obtain rfl | rfl | rfl : j = 1 ∨ j = 2 ∨ j = 3 := by omega
  · exact h1
  · exact h2
  · exact h3
/-- A block that holds a cell. -/
structure Blk (w : World) (b : Nat) (v0 v1 v2 v3 : Value) : Prop where
  c0 : w.cell? ⟨b, 0, none⟩ = some v0
  c1 : w.cell? ⟨b, 1, none⟩ = some v1
  c2 : w.cell? ⟨b, 2, none⟩ = some v2
  c3 : w.cell? ⟨b, 3, none⟩ = some v3
  f0 : w.frozen? ⟨b, 0, none⟩ = false
  f1 : w.frozen? ⟨b, 1, none⟩ = false
  f2 : w.frozen? ⟨b, 2, none⟩ = false
  f3 : w.frozen? ⟨b, 3, none⟩ = false
theorem Blk.new (w : World) (v0 v1 v2 v3 : Value) (t : TypeId) : Blk (w.alloc (.cells #[v0, v1, v2, v3] t)) w.heap.size v0 v1 v2 v3 := by
  constructor <;> simp [go_sem]
theorem Blk.new' {w : World} {N : Nat} (v0 v1 v2 v3 : Value) (t : TypeId) (hN : w.heap.size = N) : Blk (w.alloc (.cells #[v0, v1, v2, v3] t)) N v0 v1 v2 v3 := by
  subst hN; exact Blk.new w v0 v1 v2 v3 t
theorem Blk.below {w w' : World} {b B : Nat} {v0 v1 v2 v3 : Value} (h : Blk w b v0 v1 v2 v3) (hb : Below B w w') (hlt : b < B) : Blk w' b v0 v1 v2 v3 :=
  ⟨cellK hb hlt h.c0, cellK hb hlt h.c1, cellK hb hlt h.c2, cellK hb hlt h.c3, frozenK hb hlt h.f0, frozenK hb hlt h.f1, frozenK hb hlt h.f2, frozenK hb hlt h.f3⟩
theorem Blk.qu {w w' : World} {b : Nat} {v0 v1 v2 v3 : Value} (h : Blk w b v0 v1 v2 v3) (k : Qu w w') : Blk w' b v0 v1 v2 v3 := by
  obtain ⟨n, rfl⟩ := k
  exact ⟨h.c0, h.c1, h.c2, h.c3, h.f0, h.f1, h.f2, h.f3⟩
theorem Blk.alloc {w : World} {b : Nat} {v0 v1 v2 v3 : Value} (h : Blk w b v0 v1 v2 v3) (hlt : b < w.heap.size) (o : Obj) : Blk (w.alloc o) b v0 v1 v2 v3 := h.below (bl1 w o) hlt
/-- Two numbers, laid in a new block. -/
theorem Sl.two (w : World) (x y : Int) {N : Nat} (hN : w.heap.size = N) : Sl (w.alloc (.cells #[.int .i64 x, .int .i64 y] 3)) (w.alloc (.cells #[.int .i64 x, .int .i64 y] 3)).heap.size (.slice (some ⟨N, 0, none⟩) 2 2) (ivals [x, y]) := by
  subst hN
  have h := World.ownsRow_lit (base := 0) (e := 3) (size := 1) w #[.int .i64 x, .int .i64 y] 2 (by omega) (by simp [maxLen]) rfl
  exact Sl.of_own h
end Go.Proofs.Ytclhnnidbhchnaa
/- The reference's cuboid in memory. -/
namespace Go.Proofs.Ytclhnnidbhchnaa
open Go.ChangeShapes Go.WideShapes Go.ChangeAt Go.RowKit
set_option linter.unusedVariables false
set_option linter.unusedSimpArgs false

/-- A cell whose lists lie in blocks of E. -/
def CellE (w : World) (E : Nat → Prop) (v : Value) (c : CellM) : Prop :=
  ∃ v1 v2 v3, v = .agg #[.int .i64 c.n, v1, v2, v3] ∧ SlE w E v1 (ivals c.s) ∧ SlE w E v2 (ivals c.lo) ∧ SlE w E v3 (ivals c.hi)
theorem CellE.kept {w w' : World} {E : Nat → Prop} {v : Value} {c : CellM} (h : CellE w E v c) (k : Kept E w w') : CellE w' E v c := by
  obtain ⟨v1, v2, v3, e, h1, h2, h3⟩ := h
  exact ⟨v1, v2, v3, e, h1.kept k, h2.kept k, h3.kept k⟩
theorem CellE.mono {w : World} {E E' : Nat → Prop} {v : Value} {c : CellM} (h : CellE w E v c) (k : ∀ i, E i → E' i) : CellE w E' v c := by
  obtain ⟨v1, v2, v3, e, h1, h2, h3⟩ := h
  exact ⟨v1, v2, v3, e, h1.mono k, h2.mono k, h3.mono k⟩
theorem CellE.read {w : World} {E : Nat → Prop} {v : Value} {c : CellM} (h : CellE w E v c) : CellR w w.heap.size v c := by
  obtain ⟨v1, v2, v3, e, h1, h2, h3⟩ := h
  exact ⟨v1, v2, v3, e, h1.sl, h2.sl, h3.sl⟩
theorem SlE.of_sl {w : World} {E : Nat → Prop} {B : Nat} {v : Value} {xs : List Value} (h : Sl w B v xs) (hE : ∀ k, k < B → E k) : SlE w E v xs := by
  obtain ⟨A, c, e, h1, h2, h3⟩ := h
  refine ⟨A, c, e, h1, h2, fun h0 => ?_⟩
  obtain ⟨b, off, e2, hb, hc⟩ := h3 h0
  exact ⟨b, off, e2, hE b hb, hc⟩
theorem CellE.of_read {w : World} {E : Nat → Prop} {B : Nat} {v : Value} {c : CellM} (h : CellR w B v c) (hE : ∀ k, k < B → E k) : CellE w E v c := by
  obtain ⟨v1, v2, v3, e, h1, h2, h3⟩ := h
  exact ⟨v1, v2, v3, e, SlE.of_sl h1 hE, SlE.of_sl h2 hE, SlE.of_sl h3 hE⟩
theorem CellE.of_own {w : World} {H : Nat} {v : Value} {c : CellM} (h : OwnC w H v c) : CellE w (fun k => H ≤ k ∧ k < w.heap.size) v c := by
  obtain ⟨v1, v2, v3, e, h1, h2, h3, -, -⟩ := h
  exact ⟨v1, v2, v3, e, SlE.of_own h1 (fun g hg => h1.lt g hg), SlE.of_own h2 (fun g hg => h2.lt g hg), SlE.of_own h3 (fun g hg => h3.lt g hg)⟩
/-- A key and a cell as they lie in memory. -/
abbrev E5 := Value × Int × Value × Value × Value
def e5 (x : E5) : List Value := [x.1, .int .i64 x.2.1, x.2.2.1, x.2.2.2.1, x.2.2.2.2]
def z5 : E5 := (.slice none 0 0, 0, .slice none 0 0, .slice none 0 0, .slice none 0 0)
def zK : KC := ([], nilC)
def flat5 (es : List E5) : List Value := es.flatMap e5
theorem flat5_len (es : List E5) : (flat5 es).length = es.length * 5 := by
  unfold flat5
  induction es with
  | nil => rfl
  | cons x es ih => rw [List.flatMap_cons, List.length_append, ih]; simp [e5]; omega
theorem flat5_snoc (es : List E5) (x : E5) : flat5 (es ++ [x]) = flat5 es ++ e5 x := by simp [flat5]
theorem flat5_at : ∀ {es : List E5} {k j : Nat}, k < es.length → j < 5 → (flat5 es)[k * 5 + j]? = (e5 (es.getD k z5))[j]? := by
  intro es
  induction es with
  | nil => intro k j hk; simp at hk
  | cons x es ih =>
    intro k j hk hj
    unfold flat5
    rw [List.flatMap_cons]
    cases k with
    | zero => rw [List.getElem?_append_left (by simp [e5]; omega)]; simp
    | succ k =>
      rw [List.getElem?_append_right (by simp [e5]; omega), show (k + 1) * 5 + j - (e5 x).length = k * 5 + j by simp [e5]; omega]
      have := ih (k := k) (j := j) (by simpa using hk) hj
      unfold flat5 at this
      rw [this]
      simp
/-- What the elements of a list of keys and cells read as. -/
def RowO (w : World) (E : Nat → Prop) (es : List E5) (L : List KC) : Prop :=
  es.length = L.length ∧ ∀ k, k < L.length → SlE w E (es.getD k z5).1 (ivals (L.getD k zK).1) ∧ CellE w E (.agg #[.int .i64 (es.getD k z5).2.1, (es.getD k z5).2.2.1, (es.getD k z5).2.2.2.1, (es.getD k z5).2.2.2.2]) (L.getD k zK).2
theorem RowO.kept {w w' : World} {E : Nat → Prop} {es : List E5} {L : List KC} (h : RowO w E es L) (k : Kept E w w') : RowO w' E es L := ⟨h.1, fun i hi => ⟨(h.2 i hi).1.kept k, (h.2 i hi).2.kept k⟩⟩
theorem RowO.mono {w : World} {E E' : Nat → Prop} {es : List E5} {L : List KC} (h : RowO w E es L) (k : ∀ i, E i → E' i) : RowO w E' es L := ⟨h.1, fun i hi => ⟨(h.2 i hi).1.mono k, (h.2 i hi).2.mono k⟩⟩
theorem RowO.nil_ (w : World) (E : Nat → Prop) : RowO w E [] [] := ⟨rfl, fun k hk => by simp at hk⟩
theorem RowO.snoc {w : World} {E : Nat → Prop} {es : List E5} {L : List KC} (h : RowO w E es L) {x : E5} {c : KC} (h1 : SlE w E x.1 (ivals c.1)) (h2 : CellE w E (.agg #[.int .i64 x.2.1, x.2.2.1, x.2.2.2.1, x.2.2.2.2]) c.2) : RowO w E (es ++ [x]) (L ++ [c]) := by
  obtain ⟨hl, hk⟩ := h
  refine ⟨by simp [hl], fun k hk' => ?_⟩
  rw [List.length_append, List.length_singleton] at hk'
  rcases Nat.lt_or_ge k L.length with h' | h'
  · have e1 : (es ++ [x]).getD k z5 = es.getD k z5 := by simp only [List.getD_eq_getElem?_getD]; rw [List.getElem?_append_left (by omega)]
    have e2 : (L ++ [c]).getD k zK = L.getD k zK := by simp only [List.getD_eq_getElem?_getD]; rw [List.getElem?_append_left (by omega)]
    rw [e1, e2]; exact hk k h'
  · obtain rfl : k = L.length := by omega
    have e1 : (es ++ [x]).getD L.length z5 = x := by simp only [List.getD_eq_getElem?_getD]; rw [← hl, List.getElem?_append_right (by omega)]; simp
    have e2 : (L ++ [c]).getD L.length zK = c := by simp only [List.getD_eq_getElem?_getD]; rw [List.getElem?_append_right (by omega)]; simp
    rw [e1, e2]; exact ⟨h1, h2⟩
/-- The reference's cuboid at r: it owns the blocks R. -/
def RefC (w : World) (R : Nat → Prop) (r : Nat) (W M : Int) (L : List KC) : Prop :=
  R r ∧ (∀ k, R k → k < w.heap.size) ∧ (∀ i, i < 3 → w.frozen? ⟨r, i, none⟩ = false) ∧ w.cell? ⟨r, 0, none⟩ = some (.int .i64 W) ∧ w.cell? ⟨r, 1, none⟩ = some (.int .i64 M) ∧
  ∃ (v : Value) (es : List E5), w.cell? ⟨r, 2, none⟩ = some v ∧ w.ownsRow 0 105 5 v L.length (flat5 es) ∧ (∀ g, v.ownBlock = some g → R g ∧ g ≠ r) ∧ RowO w (fun k => R k ∧ k ≠ r) es L
theorem RefC.kept {w w' : World} {R : Nat → Prop} {r : Nat} {W M : Int} {L : List KC} (h : RefC w R r W M L) (k : Kept R w w') (hs : w.heap.size ≤ w'.heap.size) : RefC w' R r W M L := by
  obtain ⟨h1, h2, h3, h4, h5, v, es, h6, h7, h8, h9⟩ := h
  exact ⟨h1, fun i hi => Nat.lt_of_lt_of_le (h2 i hi) hs, fun i hi => k.frozen h1 (h3 i hi), k.cell h1 h4, k.cell h1 h5, v, es, k.cell h1 h6, own_kept h7 (fun g hg => k g (h8 g hg).1), h8, h9.kept (fun i hi => k i hi.1)⟩
theorem RefC.below {w w' : World} {R : Nat → Prop} {r : Nat} {W M : Int} {L : List KC} (h : RefC w R r W M L) (hb : Below w.heap.size w w') : RefC w' R r W M L :=
  h.kept (fun k hk => hb.block k (h.2.1 k hk)) hb.size
theorem RefC.qu {w w' : World} {R : Nat → Prop} {r : Nat} {W M : Int} {L : List KC} (h : RefC w R r W M L) (hq : Qu w w') : RefC w' R r W M L := h.below (hq.below _)
/-- The parts of an element. -/
theorem RefC.elem {w : World} {v : Value} {es : List E5} {L : List KC} {base : Nat} {E : Nat → Prop} (hown : w.ownsRow base 105 5 v L.length (flat5 es)) (hrow : RowO w E es L) {k : Nat} (hk : k < L.length) :
    ∃ g cap K kc A1 c1 A2 c2 A3 c3, v = .slice (some ⟨g, 0, none⟩) L.length cap ∧ base ≤ g ∧ g < w.heap.size ∧ L.length ≤ cap ∧ cap ≤ maxLen ∧
      es.getD k z5 = (.slice K (L.getD k zK).1.length kc, (L.getD k zK).2.n, .slice A1 (L.getD k zK).2.s.length c1, .slice A2 (L.getD k zK).2.lo.length c2, .slice A3 (L.getD k zK).2.hi.length c3) ∧
      w.cell? ⟨g, k * 5, none⟩ = some (.slice K (L.getD k zK).1.length kc) ∧ w.cell? ⟨g, k * 5 + 1, none⟩ = some (.int .i64 (L.getD k zK).2.n) ∧ w.cell? ⟨g, k * 5 + 1 + 1, none⟩ = some (.slice A1 (L.getD k zK).2.s.length c1) ∧
      w.cell? ⟨g, k * 5 + 1 + 2, none⟩ = some (.slice A2 (L.getD k zK).2.lo.length c2) ∧ w.cell? ⟨g, k * 5 + 1 + 3, none⟩ = some (.slice A3 (L.getD k zK).2.hi.length c3) ∧
      SlE w E (.slice K (L.getD k zK).1.length kc) (ivals (L.getD k zK).1) ∧ CellE w E (.agg #[.int .i64 (L.getD k zK).2.n, .slice A1 (L.getD k zK).2.s.length c1, .slice A2 (L.getD k zK).2.lo.length c2, .slice A3 (L.getD k zK).2.hi.length c3]) (L.getD k zK).2 := by
  obtain ⟨hl, hr⟩ := hrow
  obtain ⟨s1, s2⟩ := hr k hk
  have hown' := hown
  obtain ⟨h1, h2⟩ := hown
  rcases h2 with ⟨rfl, e⟩ | ⟨g, cap, cur, rfl, hbg, hg, hnc, hcm, hcs, htk⟩
  · omega
  · have q : ∀ j, j < 5 → w.cell? ⟨g, k * 5 + j, none⟩ = (e5 (es.getD k z5))[j]? := fun j hj => by
      rw [← flat5_at (by omega) hj]
      exact hown'.cellAt _ (by omega)
    have hkf := s1.sl.formI
    have hce := s2
    generalize es.getD k z5 = x at *
    obtain ⟨x0, x1, x2, x3, x4⟩ := x
    generalize L.getD k zK = c at *
    obtain ⟨K, kc, rfl, -, -⟩ := hkf
    obtain ⟨v1, v2, v3, e, t1, t2, t3⟩ := hce
    obtain ⟨A1, c1, f1, -, -⟩ := t1.sl.formI
    obtain ⟨A2, c2, f2, -, -⟩ := t2.sl.formI
    obtain ⟨A3, c3, f3, -, -⟩ := t3.sl.formI
    injection e with e
    have g0 := congrArg (fun a : Array Value => a[0]?) e
    have g1 := congrArg (fun a : Array Value => a[1]?) e
    have g2 := congrArg (fun a : Array Value => a[2]?) e
    have g3 := congrArg (fun a : Array Value => a[3]?) e
    simp at g0 g1 g2 g3
    subst g0 g1 g2 g3 f1 f2 f3
    exact ⟨g, cap, K, kc, A1, c1, A2, c2, A3, c3, rfl, hbg, (hown'.lt g rfl).2, hnc, hcm, rfl, q 0 (by omega), q 1 (by omega), q 2 (by omega), q 3 (by omega), q 4 (by omega), s1, s2⟩
end Go.Proofs.Ytclhnnidbhchnaa
