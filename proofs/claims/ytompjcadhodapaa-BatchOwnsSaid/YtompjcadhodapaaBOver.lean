/- Things that are written over: shapes stay while memory grows; the loops' relations. -/
import Derived.Test.YtompjcadhodapaaBShape
import Derived.Test.YtompjcadhodapaaBFacts
namespace Go.Proofs.Ytompjcadhodapaa
open Go.ChangeShapes Go.WideShapes Go.ChangeAt Go.RowKit
set_option linter.unusedVariables false
set_option linter.unusedSimpArgs false

theorem BlkT.on {w w' : World} {B lo hi g m : Nat} {e : TypeId} (h : BlkT w lo hi g e m) (hb : Below B w w') (hh : hi ≤ B) : BlkT w' lo hi g e m := by
  obtain ⟨a, b, cur, hg, hm⟩ := h
  exact ⟨a, b, cur, (hb.block g (by omega)).trans hg, hm⟩
theorem LeafT.on {e : TypeId} {w w' : World} {B lo hi n : Nat} {v : Value} (h : LeafT e w lo hi v n) (hb : Below B w w') (hh : hi ≤ B) : LeafT e w' lo hi v n := by
  obtain ⟨A, c, e1, h1, h2, h3⟩ := h
  refine ⟨A, c, e1, h1, h2, fun h0 => ?_⟩
  obtain ⟨g, e2, k⟩ := h3 h0
  exact ⟨g, e2, k.on hb hh⟩
theorem ShapeR.on {e0 e1 : TypeId} {w w' : World} {B lo hi n : Nat} {v : Value} (h : ShapeR e0 e1 w lo hi v n) (hb : Below B w w') (hh : hi ≤ B) : ShapeR e0 e1 w' lo hi v n := by
  obtain ⟨A, c, e1', h1, h2, h3⟩ := h
  refine ⟨A, c, e1', h1, h2, fun h0 => ?_⟩
  obtain ⟨g, e2, hg, hc⟩ := h3 h0
  refine ⟨g, e2, hg.on hb hh, fun j hj => ?_⟩
  obtain ⟨u, mu, hu, hl⟩ := hc j hj
  exact ⟨u, mu, cellK hb (by have := hg.2.1; omega) hu, hl.on hb hh⟩
theorem ShapeF.on {w w' : World} {B lo hi n : Nat} {v : Value} (h : ShapeF w lo hi v n) (hb : Below B w w') (hh : hi ≤ B) : ShapeF w' lo hi v n := by
  obtain ⟨A, c, e1', g1, g2, h3⟩ := h
  refine ⟨A, c, e1', g1, g2, fun h0 => ?_⟩
  obtain ⟨g, e2, hg, hc⟩ := h3 h0
  refine ⟨g, e2, hg.on hb hh, fun j hj => ?_⟩
  obtain ⟨⟨u, mu, hu, hl⟩, ⟨u2, mu2, hu2, hl2⟩⟩ := hc j hj
  have := hg.2.1
  exact ⟨⟨u, mu, cellK hb (by omega) hu, hl.on hb hh⟩, ⟨u2, mu2, cellK hb (by omega) hu2, hl2.on hb hh⟩⟩
/-- Blocks from lo on and below hi. -/
def In (lo hi : Nat) : Nat → Prop := fun g => lo ≤ g ∧ g < hi
theorem chg_store {lo hi g k : Nat} {e : TypeId} {m : Nat} {W w : World} {x : Value} (h : Chg (In lo hi) W w) (hb : BlkT w lo hi g e m) : Chg (In lo hi) W (w.setCell ⟨g, k, none⟩ x) :=
  h.same (Chg.upd (p := g) (Upd.setCell g k w x) ⟨hb.1, hb.2.1⟩)
/-- A leaf at a place of a row. -/
theorem ShapeR.at_ {e0 e1 : TypeId} {w : World} {lo hi n k c : Nat} {A : Option Addr} (h : ShapeR e0 e1 w lo hi (.slice A n c) n) (hk : k < n) :
    ∃ g Al m cl, A = some ⟨g, 0, none⟩ ∧ BlkT w lo hi g e0 n ∧ w.cell? ⟨g, k, none⟩ = some (.slice Al m cl) ∧ m ≤ cl ∧ cl ≤ 9223372036854775807 ∧ LeafT e1 w lo hi (.slice Al m cl) m := by
  obtain ⟨A', c', e1', h1, h2, h3⟩ := h
  obtain ⟨g, e2, hg, hc⟩ := h3 (by omega)
  injection e1' with e1' _ _
  subst e1'
  obtain ⟨u, m, hu, hl⟩ := hc k hk
  have hl' := hl
  obtain ⟨Al, cl, rfl, a, b, -⟩ := hl'
  unfold maxLen at b
  exact ⟨g, Al, m, cl, e2, hg, hu, a, by omega, hl⟩
theorem LeafT.at_ {e : TypeId} {w : World} {lo hi m j cl : Nat} {Al : Option Addr} (h : LeafT e w lo hi (.slice Al m cl) m) (hj : j < m) :
    ∃ g, Al = some ⟨g, 0, none⟩ ∧ BlkT w lo hi g e m ∧ (∃ u, w.cell? ⟨g, j, none⟩ = some u) ∧ w.frozen? ⟨g, j, none⟩ = false := by
  obtain ⟨A', c', e1', h1, h2, h3⟩ := h
  obtain ⟨g, e2, hg⟩ := h3 (by omega)
  injection e1' with e1' _ _
  subst e1'
  exact ⟨g, e2, hg, hg.cell hj, hg.frozen⟩
theorem ShapeF.at_ {w : World} {lo hi n k c : Nat} {A : Option Addr} (h : ShapeF w lo hi (.slice A n c) n) (hk : k < n) :
    ∃ g Ap m cp Av m2 cv, A = some ⟨g, 0, none⟩ ∧ BlkT w lo hi g 35 (n * 2) ∧ w.cell? ⟨g, k * 2, none⟩ = some (.slice Ap m cp) ∧ w.cell? ⟨g, k * 2 + 1, none⟩ = some (.slice Av m2 cv) ∧
      m ≤ 9223372036854775807 ∧ m2 ≤ 9223372036854775807 ∧ ShapeR 23 9 w lo hi (.slice Ap m cp) m ∧ LeafT 3 w lo hi (.slice Av m2 cv) m2 := by
  obtain ⟨A', c', e1', h1, h2, h3⟩ := h
  obtain ⟨g, e2, hg, hc⟩ := h3 (by omega)
  injection e1' with e1' _ _
  subst e1'
  obtain ⟨⟨u, m, hu, hl⟩, ⟨u2, m2, hu2, hl2⟩⟩ := hc k hk
  have hl' := hl; have hl2' := hl2
  obtain ⟨Ap, cp, rfl, a, b, -⟩ := hl'
  obtain ⟨Av, cv, rfl, a2, b2, -⟩ := hl2'
  unfold maxLen at b b2
  exact ⟨g, Ap, m, cp, Av, m2, cv, e2, hg, hu, hu2, by omega, by omega, hl, hl2⟩
/-! ### The loops -/
def OvA (n : Nat) (v : Value) (lo hi : Nat) (W : World) (i : Value) (wr : World) : Prop :=
  ∃ k : Nat, k ≤ n ∧ i = .int .i64 k ∧ ShapeR 32 3 wr lo hi v n ∧ Chg (In lo hi) W wr
def OvB (n : Nat) (v : Value) (lo hi : Nat) (W : World) (g k m : Nat) (Al : Option Addr) (cl : Nat) (i : Value) (wr : World) : Prop :=
  ∃ j : Nat, j ≤ m ∧ i = .int .i64 j ∧ ShapeR 32 3 wr lo hi v n ∧ BlkT wr lo hi g 32 n ∧ wr.cell? ⟨g, k, none⟩ = some (.slice Al m cl) ∧ LeafT 3 wr lo hi (.slice Al m cl) m ∧ Chg (In lo hi) W wr
def OvF (n : Nat) (v : Value) (lo hi : Nat) (W : World) (i : Value) (wr : World) : Prop :=
  ∃ k : Nat, k ≤ n ∧ i = .int .i64 k ∧ ShapeF wr lo hi v n ∧ Chg (In lo hi) W wr
def OvV (n : Nat) (v : Value) (lo hi : Nat) (W : World) (g k m : Nat) (Al : Option Addr) (cl : Nat) (i : Value) (wr : World) : Prop :=
  ∃ j : Nat, j ≤ m ∧ i = .int .i64 j ∧ ShapeF wr lo hi v n ∧ BlkT wr lo hi g 35 (n * 2) ∧ wr.cell? ⟨g, k * 2 + 1, none⟩ = some (.slice Al m cl) ∧ LeafT 3 wr lo hi (.slice Al m cl) m ∧ Chg (In lo hi) W wr
def OvP (n : Nat) (v : Value) (lo hi : Nat) (W : World) (g k m : Nat) (Al : Option Addr) (cl : Nat) (i : Value) (wr : World) : Prop :=
  ∃ j : Nat, j ≤ m ∧ i = .int .i64 j ∧ ShapeF wr lo hi v n ∧ BlkT wr lo hi g 35 (n * 2) ∧ wr.cell? ⟨g, k * 2, none⟩ = some (.slice Al m cl) ∧ ShapeR 23 9 wr lo hi (.slice Al m cl) m ∧ Chg (In lo hi) W wr
def OvS (n : Nat) (v : Value) (lo hi : Nat) (W : World) (g k m : Nat) (Al : Option Addr) (cl : Nat) (gp j ms : Nat) (As : Option Addr) (cs : Nat) (i : Value) (wr : World) : Prop :=
  ∃ t : Nat, t ≤ ms ∧ i = .int .i64 t ∧ ShapeF wr lo hi v n ∧ BlkT wr lo hi g 35 (n * 2) ∧ wr.cell? ⟨g, k * 2, none⟩ = some (.slice Al m cl) ∧ ShapeR 23 9 wr lo hi (.slice Al m cl) m ∧
    BlkT wr lo hi gp 23 m ∧ wr.cell? ⟨gp, j, none⟩ = some (.slice As ms cs) ∧ LeafT 9 wr lo hi (.slice As ms cs) ms ∧ Chg (In lo hi) W wr
theorem OvB.store {n lo hi g k m cl gl j : Nat} {v : Value} {W wr : World} {Al : Option Addr} {x : Value} (hj : j < m) (hS : ShapeR 32 3 wr lo hi v n) (hG : BlkT wr lo hi g 32 n) (hC : wr.cell? ⟨g, k, none⟩ = some (.slice Al m cl))
    (hL : LeafT 3 wr lo hi (.slice Al m cl) m) (hW : Chg (In lo hi) W wr) (hb : BlkT wr lo hi gl 3 m) : OvB n v lo hi W g k m Al cl (.int .i64 ((j : Int) + 1)) (wr.setCell ⟨gl, j, none⟩ x) :=
  ⟨j + 1, hj, by go_num, hS.leaf hb (by decide) _ _, hG.set _ _ _, cell_far (hb.ne hG (by decide)) hC, hL.set _ _ _, chg_store hW hb⟩
theorem OvV.store {n lo hi g k m cl gl j : Nat} {v : Value} {W wr : World} {Al : Option Addr} {x : Value} (hj : j < m) (hS : ShapeF wr lo hi v n) (hG : BlkT wr lo hi g 35 (n * 2)) (hC : wr.cell? ⟨g, k * 2 + 1, none⟩ = some (.slice Al m cl))
    (hL : LeafT 3 wr lo hi (.slice Al m cl) m) (hW : Chg (In lo hi) W wr) (hb : BlkT wr lo hi gl 3 m) : OvV n v lo hi W g k m Al cl (.int .i64 ((j : Int) + 1)) (wr.setCell ⟨gl, j, none⟩ x) :=
  ⟨j + 1, hj, by go_num, hS.leaf hb (by decide) (by decide) _ _, hG.set _ _ _, cell_far (hb.ne hG (by decide)) hC, hL.set _ _ _, chg_store hW hb⟩
theorem OvS.store {n lo hi g k m cl gl j gp ms cs t : Nat} {v : Value} {W wr : World} {Al As : Option Addr} {x : Value} (ht : t < ms) (hS : ShapeF wr lo hi v n) (hG : BlkT wr lo hi g 35 (n * 2)) (hC : wr.cell? ⟨g, k * 2, none⟩ = some (.slice Al m cl))
    (hR : ShapeR 23 9 wr lo hi (.slice Al m cl) m) (hP : BlkT wr lo hi gp 23 m) (hC2 : wr.cell? ⟨gp, j, none⟩ = some (.slice As ms cs)) (hL : LeafT 9 wr lo hi (.slice As ms cs) ms) (hW : Chg (In lo hi) W wr)
    (hb : BlkT wr lo hi gl 9 ms) : OvS n v lo hi W g k m Al cl gp j ms As cs (.int .i64 ((t : Int) + 1)) (wr.setCell ⟨gl, t, none⟩ x) :=
  ⟨t + 1, ht, by go_num, hS.leaf hb (by decide) (by decide) _ _, hG.set _ _ _, cell_far (hb.ne hG (by decide)) hC, hR.leaf hb (by decide) _ _, hP.set _ _ _, cell_far (hb.ne hP (by decide)) hC2, hL.set _ _ _, chg_store hW hb⟩
theorem OvP.store {n lo hi g k m cl gp j : Nat} {v : Value} {W wr : World} {Al : Option Addr} (hj : j < m) (hS : ShapeF wr lo hi v n) (hG : BlkT wr lo hi g 35 (n * 2)) (hC : wr.cell? ⟨g, k * 2, none⟩ = some (.slice Al m cl))
    (hR : ShapeR 23 9 wr lo hi (.slice Al m cl) m) (hP : BlkT wr lo hi gp 23 m) (hW : Chg (In lo hi) W wr) : OvP n v lo hi W g k m Al cl (.int .i64 ((j : Int) + 1)) (wr.setCell ⟨gp, j, none⟩ (.slice none 0 0)) :=
  ⟨j + 1, hj, by go_num, hS.nil_ hP _, hG.set _ _ _, cell_far (hP.ne hG (by decide)) hC, hR.nil_ _ _, chg_store hW hP⟩
theorem fewFs_deep (l : List FactX) : ∀ f ∈ fewFs l, f.1.length ≤ 1000 ∧ f.2.length ≤ 1000 ∧ ∀ p ∈ f.1, p.length ≤ 1000 := by
  intro f hf
  have h := (fewFs_small l).2 f hf
  refine ⟨by omega, by omega, fun p hp => ?_⟩
  unfold fewFs at hf
  obtain ⟨g, -, rfl⟩ := List.mem_map.1 hf
  unfold fewFt at hp
  simp only at hp
  obtain ⟨q, -, rfl⟩ := List.mem_map.1 hp
  rw [List.length_take]; omega
end Go.Proofs.Ytompjcadhodapaa
