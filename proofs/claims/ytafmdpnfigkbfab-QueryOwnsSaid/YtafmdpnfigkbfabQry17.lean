/- The walk of QueryOwns. -/
import Derived.Test.YtafmdpnfigkbfabQry16
import Derived.Test.YtafmdpnfigkbfabRef8a
namespace Go.Proofs.Ytafmdpnfigkbfab
open Go.ChangeShapes Go.WideShapes Go.ChangeAt Go.RowKit
set_option linter.unusedVariables false
set_option linter.unusedSimpArgs false

/-- A row of lists whose texts may have been written over: how long each is. -/
def Spt (w : World) (base : Nat) (kv : Value) (M : List (List ByteArray)) : Prop :=
  ∃ vs : List Value, vs.length = M.length ∧ w.ownsRow base 23 1 kv M.length vs ∧
    ∀ j, j < M.length → ∃ A c, vs.getD j undef = .slice A (M.getD j []).length c ∧ (M.getD j []).length ≤ c ∧ c ≤ 9223372036854775807 ∧
      (0 < (M.getD j []).length → ∃ g, A = some ⟨g, 0, none⟩ ∧ base ≤ g ∧ g < w.heap.size ∧ kv.ownBlock ≠ some g ∧ ∀ i, i < (M.getD j []).length → (∃ u, w.cell? ⟨g, i, none⟩ = some u) ∧ w.frozen? ⟨g, i, none⟩ = false)
theorem Spt.start {w : World} {base : Nat} {kv : Value} {M : List (List ByteArray)} (h : RowL w base kv M) : Spt w base kv M := by
  obtain ⟨vs, h1, h2, h3⟩ := h
  refine ⟨vs, h1, h2, fun j hj => ?_⟩
  obtain ⟨k1, k2⟩ := h3 j hj
  obtain ⟨A, c, e, g1, g2, g3⟩ := own_cells k1
  unfold maxLen at g2
  refine ⟨A, c, e, g1, by omega, fun h0 => ?_⟩
  obtain ⟨g, rfl, hb, hg, hc⟩ := g3 h0
  exact ⟨g, rfl, hb, hg, k2 g (by rw [e]; rfl), hc⟩
theorem Spt.store {w : World} {base b i : Nat} {kv : Value} {M : List (List ByteArray)} (h : Spt w base kv M) (hn : kv.ownBlock ≠ some b) (v : Value) : Spt (w.setCell ⟨b, i, none⟩ v) base kv M := by
  obtain ⟨vs, h1, h2, h3⟩ := h
  refine ⟨vs, h1, own_kept h2 (fun g hg => Below.heap_setCell _ _ _ g (by simp; rintro rfl; exact hn hg)), fun j hj => ?_⟩
  obtain ⟨A, c, e, g1, g2, g3⟩ := h3 j hj
  refine ⟨A, c, e, g1, g2, fun h0 => ?_⟩
  obtain ⟨g, rfl, hb, hg, hng, hc⟩ := g3 h0
  refine ⟨g, rfl, hb, by simpa [World.setCell] using hg, hng, fun k hk => ?_⟩
  obtain ⟨⟨u, hu⟩, hf⟩ := hc k hk
  refine ⟨?_, frozen_far hf⟩
  by_cases hgb : b = g
  · subst hgb
    by_cases hik : i = k
    · subst hik; exact ⟨_, cell_here hu⟩
    · exact ⟨u, cell_beside hik hu⟩
  · exact ⟨u, cell_far hgb hu⟩
/-- The list at a place. -/
theorem Spt.at_ {w : World} {base : Nat} {A : Option Addr} {n c : Nat} {M : List (List ByteArray)} (h : Spt w base (.slice A n c) M) {k : Nat} (hk : k < M.length) :
    ∃ b AE cE, A = some ⟨b, 0, none⟩ ∧ w.cell? ⟨b, k, none⟩ = some (.slice AE (M.getD k []).length cE) ∧ (M.getD k []).length ≤ cE ∧ cE ≤ 9223372036854775807 ∧
      (0 < (M.getD k []).length → ∃ g, AE = some ⟨g, 0, none⟩ ∧ base ≤ g ∧ g < w.heap.size ∧ (Value.slice A n c).ownBlock ≠ some g ∧ ∀ i, i < (M.getD k []).length → (∃ u, w.cell? ⟨g, i, none⟩ = some u) ∧ w.frozen? ⟨g, i, none⟩ = false) := by
  obtain ⟨vs, h1, h2, h3⟩ := h
  obtain ⟨A', c', e, -, -, g3⟩ := own_cells h2
  injection e with e1 en ec
  subst e1
  subst en
  obtain ⟨g, rfl, -, hg, -⟩ := g3 (by omega)
  obtain ⟨AE, cE, e2, e3, e4, e5⟩ := h3 k hk
  have hc := h2.cellAt (g := g) k (by omega)
  refine ⟨g, AE, cE, rfl, ?_, e3, e4, e5⟩
  rw [hc, List.getElem?_eq_getElem (show k < vs.length by omega), ← e2, List.getD_eq_getElem?_getD, List.getElem?_eq_getElem (show k < vs.length by omega)]; rfl
theorem strs_one' {w : World} {B : Nat} {v : Value} {p : List ByteArray} (h : rdStrs w B [v] p) : Src Try.prog 1 23 v p.length (svals p) w := by
  have := src_sl w Try.underlying23 (strs_sl h).1 (svals_oneQ p)
  rwa [svals_len] at this
theorem ints_src {w : World} {B : Nat} {v : Value} {l : List Int} (h : rdInts w B [v] l) : Src Try.prog 1 27 v l.length (ivals l) w := by
  have := src_sl w Try.underlying27 (ints_slQ h) (ivals_oneQ l)
  rwa [ivals_len] at this
def OwRel (ps : List (List ByteArray)) (w3 : World) (out i : Value) (wr : World) : Prop := ∃ k : Nat, k ≤ ps.length ∧ i = .int .i64 k ∧ RowL wr w3.heap.size out (ps.take k) ∧ Below w3.heap.size w3 wr
def SpOut (M : List (List ByteArray)) (kv : Value) (w4 : World) (i : Value) (wr : World) : Prop := ∃ k : Nat, k ≤ M.length ∧ i = .int .i64 k ∧ Spt wr w4.heap.size kv M ∧ Below w4.heap.size w4 wr
def SpIn (M : List (List ByteArray)) (kv : Value) (n : Nat) (w4 : World) (i : Value) (wr : World) : Prop := ∃ k : Nat, k ≤ n ∧ i = .int .i64 k ∧ Spt wr w4.heap.size kv M ∧ Below w4.heap.size w4 wr
set_option maxRecDepth 100000 in
set_option maxHeartbeats 3200000 in
theorem walk_QueryOwns (w : World) (cs0 : Array Value) (x0 : SchemaX) (z0 : cs0.size = 3) (h0 : rdSchema w w.heap.size cs0.toList x0) (cs1 : Array Value) (x1 : QueryX) (z1 : cs1.size = 2) (h1 : rdQuery w w.heap.size cs1.toList x1) (v : Value) (l : List (List ByteArray)) (hl : rdSlice 1 rdStrs w w.heap.size [v] l) :
    Calls Try.prog 6 #[.agg cs0, .agg cs1, v] w (Gives (.bool true) w) := by
  obtain ⟨i0, hi, hz0, hz1, hz2⟩ := info_parts info_strsQ
  have hs := schema_of_rd h0
  have hq := query_of_rd h1
  have hs0 := hs; have hq0 := hq
  obtain ⟨A1, c1, A2, c2, A3, c3, e, -, -, -⟩ := hs
  simp only [Value.agg.injEq] at e
  subst e
  obtain ⟨X1, d1, X2, d2, e, -, -⟩ := hq
  simp only [Value.agg.injEq] at e
  subst e
  have HSML := hid (fun W (hb : Below w.heap.size w W) => small_any _ x0 W w.heap.size hb.size (hs0.below hb))
  have HF := hid (fun W (hb : Below w.heap.size w W) => few_any _ x1 W w.heap.size hb.size (hq0.below hb))
  have HC := hid (fun W (hb : Below w.heap.size w W) => cut_any v l W w.heap.size hb.size (good_paths.stays hl hb))
  have hl6 := few_len x1
  have hsl := small_len x0
  have hcl := @cutL_mem l
  have hcl8 := cutL_len l
  have HCL := hid hcl
  have hps8 : (cutL l).length ≤ 8 := by rw [hcl8]; omega
  clear h0 h1 hs0 hq0 z0 z1 hl hcl hcl8
  generalize x0.1.length = k1 at *
  generalize x0.2.1.length = k2 at *
  generalize x0.2.2.length = k3 at *
  generalize x1.1.length = k4 at *
  generalize x1.2.length = k5 at *
  generalize fewQ x1 = q at *
  generalize smallS x0 = s at *
  generalize cutL l = ps at *
  obtain ⟨hq1, hq2⟩ := hl6
  obtain ⟨W0, hW0⟩ : ∃ W, W = (w.alloc (.cells #[.slice A1 k1 c1, .slice A2 k2 c2, .slice A3 k3 c3] 26)).alloc (.cells #[.slice X1 k4 d1, .slice X2 k5 d2] 30) := ⟨_, rfl⟩
  have g0 : Below w.heap.size w W0 := by rw [hW0]; exact (bl1 w _).alloc (by simp) _
  have z0 : W0.heap.size = w.heap.size + 1 + 1 := by rw [hW0]; simp
  have y0 : W0.cell? ⟨w.heap.size, 0, none⟩ = some (.slice A1 k1 c1) := by rw [hW0]; simp [go_sem]
  have y1 : W0.cell? ⟨w.heap.size, 1, none⟩ = some (.slice A2 k2 c2) := by rw [hW0]; simp [go_sem]
  have y2 : W0.cell? ⟨w.heap.size, 2, none⟩ = some (.slice A3 k3 c3) := by rw [hW0]; simp [go_sem]
  have y3 : W0.cell? ⟨w.heap.size + 1, 0, none⟩ = some (.slice X1 k4 d1) := by rw [hW0]; simp [go_sem]
  have y4 : W0.cell? ⟨w.heap.size + 1, 1, none⟩ = some (.slice X2 k5 d2) := by rw [hW0]; simp [go_sem]
  have f0 : W0.frozen? ⟨w.heap.size, 0, none⟩ = false := by rw [hW0]; simp [go_sem]
  have f1 : W0.frozen? ⟨w.heap.size, 1, none⟩ = false := by rw [hW0]; simp [go_sem]
  have f2 : W0.frozen? ⟨w.heap.size, 2, none⟩ = false := by rw [hW0]; simp [go_sem]
  have f3 : W0.frozen? ⟨w.heap.size + 1, 0, none⟩ = false := by rw [hW0]; simp [go_sem]
  have f4 : W0.frozen? ⟨w.heap.size + 1, 1, none⟩ = false := by rw [hW0]; simp [go_sem]
  have HW0 := hid hW0; have G0 := hid g0
  clear hW0 g0
  go_enter Try.func6, Try.ntmps6
  go_wp2_with fail
  rw [← HW0.out]
  refine (HSML.out _ G0.out).mono ?_
  rintro e w1 ⟨B1, b1, B2, b2, B3, b3, rfl, hsv, hb1⟩
  have z1 := hb1.size
  have k0 := cellK hb1 (by omega) y0
  have k1' := cellK hb1 (by omega) y1
  have k2' := cellK hb1 (by omega) y2
  have n0 := frozenK hb1 (by omega) f0
  have n1 := frozenK hb1 (by omega) f1
  have n2 := frozenK hb1 (by omega) f2
  obtain ⟨W1, hW1⟩ : ∃ W, W = ((w1.setCell ⟨w.heap.size, 0, none⟩ (.slice B1 s.1.length b1)).setCell ⟨w.heap.size, 1, none⟩ (.slice B2 s.2.1.length b2)).setCell ⟨w.heap.size, 2, none⟩ (.slice B3 s.2.2.length b3) := ⟨_, rfl⟩
  have bb1 : Below w.heap.size w1 W1 := by rw [hW1]; exact Below.setCell (Below.setCell (Below.setCell (Below.refl _ w1) (show w.heap.size ≤ w.heap.size from Nat.le_refl _) _) (show w.heap.size ≤ w.heap.size from Nat.le_refl _) _) (show w.heap.size ≤ w.heap.size from Nat.le_refl _) _
  have zW1 : W1.heap.size = w1.heap.size := by rw [hW1]; simp [World.setCell]
  have hfar : ∀ g, g ≠ w.heap.size → W1.heap[g]? = w1.heap[g]? := fun g hg => by rw [hW1]; exact (Below.heap_setCell _ _ _ g (by simp; omega)).trans ((Below.heap_setCell _ _ _ g (by simp; omega)).trans (Below.heap_setCell _ _ _ g (by simp; omega)))
  have m0 : W1.cell? ⟨w.heap.size, 0, none⟩ = some (.slice B1 s.1.length b1) := by rw [hW1]; exact cell_beside (by omega) (cell_beside (by omega) (cell_here k0))
  have m1 : W1.cell? ⟨w.heap.size, 1, none⟩ = some (.slice B2 s.2.1.length b2) := by rw [hW1]; exact cell_beside (by omega) (cell_here (cell_beside (by omega) k1'))
  have m2 : W1.cell? ⟨w.heap.size, 2, none⟩ = some (.slice B3 s.2.2.length b3) := by rw [hW1]; exact cell_here (cell_beside (by omega) (cell_beside (by omega) k2'))
  have hb01 := G0.out.trans ((hb1.mono (by omega)).trans bb1)
  have qb : W1.heap[w.heap.size + 1]? = W0.heap[w.heap.size + 1]? := (hfar _ (by omega)).trans (hb1.block _ (by omega))
  have y3' : W1.cell? ⟨w.heap.size + 1, 0, none⟩ = some (.slice X1 k4 d1) := (World.cell?_of_block (a := ⟨w.heap.size + 1, 0, none⟩) qb).trans y3
  have y4' : W1.cell? ⟨w.heap.size + 1, 1, none⟩ = some (.slice X2 k5 d2) := (World.cell?_of_block (a := ⟨w.heap.size + 1, 1, none⟩) qb).trans y4
  have f3' : W1.frozen? ⟨w.heap.size + 1, 0, none⟩ = false := (World.frozen?_of_block (a := ⟨w.heap.size + 1, 0, none⟩) qb).trans f3
  have f4' : W1.frozen? ⟨w.heap.size + 1, 1, none⟩ = false := (World.frozen?_of_block (a := ⟨w.heap.size + 1, 1, none⟩) qb).trans f4
  have q3 : w1.cell? ⟨w.heap.size + 1, 0, none⟩ = some (.slice X1 k4 d1) := cellK hb1 (by omega) y3
  have q4 : w1.cell? ⟨w.heap.size + 1, 1, none⟩ = some (.slice X2 k5 d2) := cellK hb1 (by omega) y4
  have HSV := hid (hsv.below bb1); have HW1 := hid hW1; have GW1 := hid hb01
  rw [hW1] at y3' y4'
  clear hsv hb1 bb1 hW1 hb01 qb hfar y0 y1 y2 y3 y4 f0 f1 f2 f3 f4
  go_wp2_with fail
  rw [← HW1.out]
  refine (HF.out _ GW1.out).mono ?_
  rintro e w2 ⟨F1, e1, F2, e2, rfl, hr, hf, hii, hb2⟩
  have z2 := hb2.size
  have k3' := cellK hb2 (by omega) ((congrArg (fun W => World.cell? W ⟨w.heap.size + 1, 0, none⟩) HW1.out).trans y3')
  have k4' := cellK hb2 (by omega) ((congrArg (fun W => World.cell? W ⟨w.heap.size + 1, 1, none⟩) HW1.out).trans y4')
  have n3 := frozenK hb2 (by omega) f3'
  have n4 := frozenK hb2 (by omega) f4'
  have m0' := cellK hb2 (by omega) m0
  have m1' := cellK hb2 (by omega) m1
  have m2' := cellK hb2 (by omega) m2
  obtain ⟨W2, hW2⟩ : ∃ W, W = (w2.setCell ⟨w.heap.size + 1, 0, none⟩ (.slice F1 q.1.length e1)).setCell ⟨w.heap.size + 1, 1, none⟩ (.slice F2 q.2.length e2) := ⟨_, rfl⟩
  have bb2 : Below w.heap.size w2 W2 := by rw [hW2]; exact Below.setCell (Below.setCell (Below.refl _ w2) (show w.heap.size ≤ w.heap.size + 1 by omega) _) (show w.heap.size ≤ w.heap.size + 1 by omega) _
  have zW2 : W2.heap.size = w2.heap.size := by rw [hW2]; simp [World.setCell]
  have htwo : Two w W2 s q (.slice B1 s.1.length b1) (.slice B2 s.2.1.length b2) (.slice B3 s.2.2.length b3) (.slice F1 q.1.length e1) (.slice F2 q.2.length e2) := by
    have hbw := GW1.out.trans ((hb2.mono (by omega)).trans bb2)
    refine ⟨by omega, hbw, ?_, ?_, ?_, ?_, ?_, (HSV.out.below ((hb2.mono (by omega)).trans bb2)).more hbw.size, few_v hr hf hii bb2 (fun g h1 h2 => by rw [hW2]; exact (Below.heap_setCell _ _ _ g (by simp; omega)).trans (Below.heap_setCell _ _ _ g (by simp; omega))) hbw.size⟩
    · rw [hW2]; exact cell_far (by omega) (cell_far (by omega) m0')
    · rw [hW2]; exact cell_far (by omega) (cell_far (by omega) m1')
    · rw [hW2]; exact cell_far (by omega) (cell_far (by omega) m2')
    · rw [hW2]; exact cell_beside (by omega) (cell_here k3')
    · rw [hW2]; exact cell_here (cell_beside (by omega) k4')
  have HW2 := hid hW2; have HT2 := hid htwo
  clear hr hf hii hb2 bb2 hW2 htwo y3' y4' f3' f4' m0 m1 m2 m0' m1' m2' k0 k1' k2' n0 n1 n2 q3 q4
  go_wp2_with fail
  rw [← HW2.out]
  refine (HC.out _ HT2.out.b).mono ?_
  rintro e w3 ⟨pv, rfl, hrow, hb3⟩
  have z3 := hb3.size
  have HT3 := hid (HT2.out.on hb3)
  have hpv := hrow.rows (N := w3.heap.size) (by have := HT2.out.b.size; omega) (Nat.le_refl _)
  obtain ⟨PA, pc, epv, hpc, hpm⟩ := hpv.open_
  simp only [List.cons.injEq, and_true] at epv
  subst epv
  have HPV := hid hpv
  clear hrow hb3 hpv k3' k4' n3 n4
  obtain ⟨ii, hii', hy0, hy1, hy2⟩ := info_parts info_int
  obtain ⟨ix, hix, hx0, hx1, hx2⟩ := info_parts info_strQ
  have hpss : ∀ p ∈ ps, ∀ s ∈ p, s.size ≤ maxLen := paths_sz HPV.out
  have HPSS := hid hpss
  clear hpss
  go_wp2
  go_loopw [7, 8] (fun out i wr => OwRel ps w3 out i wr) (fun _ i _ => ps.length - (intOf i).toNat)
  case atStart => exact ⟨0, by omega, rfl, RowL.nil_ _ _, Below.refl _ _⟩
  case round =>
    obtain ⟨k, hk, rfl, hrow, hb⟩ := hrel
    have hs := hb.size
    have HB := hid hb; have HRW := hid hrow
    clear hb hrow
    by_cases hlt : k < ps.length
    · obtain ⟨b2', o2, AP, cP, rfl, hb2, hc2, hpp⟩ := paths_at HPV.out hlt
      have hcw := cellK HB.out hb2 hc2
      have e1 : ps.take (k + 1) = ps.take k ++ [ps[k]] := List.take_succ_eq_append_getElem hlt
      have hple := HCL.out _ (List.getElem_mem hlt)
      have hln : (ps.take k).length = k := by rw [List.length_take]; omega
      generalize ps[k] = p at *
      have HSR := hid (strs_one' (good_strs.on hpp HB.out))
      generalize hpl : p.length = pl at *
      have E1 := hid e1
      clear hpp hc2 e1
      obtain ⟨vs, r1, r2, r3⟩ := HRW.out
      go_wp2_with (at_builtin; refine stop_here ?_)
      refine go_on ?_
      refine app_own (.tmp 31) (.tmp 35) 23 23 rfl rfl wr.heap.size 9 ix (.string ByteArray.empty) 1 16 Try.underlying23 hix hx0 hx1 hx2 rfl (by decide) (.slice none 0 0) 0 [] rfl (World.ownsRow_nil _ _ _ _) (.slice AP pl cP) pl (svals p) rfl HSR.out (by simp only [maxLen]; omega) (by omega) (Nat.le_refl _) ?_
      intro v5 w5 ho5 hg5 hb5
      rw [Nat.zero_add, List.nil_append] at ho5
      have B5 := hid hb5
      have z5 := hb5.size
      obtain ⟨Au, cu, rfl, -, -, -⟩ := own_cells ho5
      have HO5 := hid (show w5.ownsRow wr.heap.size 9 1 (.slice Au pl cu) p.length (svals p) by rw [hpl]; exact ho5)
      clear ho5 hg5 hb5
      go_wp2_with (at_builtin; refine stop_here ?_)
      refine go_on ?_
      refine app_own_at (.tmp 37) (.tmp 39) 41 41 rfl rfl w3.heap.size 23 i0 (.slice none 0 0) 1 24 Try.underlying41 hi hz0 hz1 hz2 rfl (by decide) u7 (ps.take k).length vs rfl ((own_stays r2 B5.out).alloc _) (.slice (some ⟨w5.heap.size, 0, none⟩) 1 1) 1 [_] rfl (Src.ofSlice _ Try.underlying41 _ 1 1 _ rfl (cell_one_at' _ _ _ rfl) (by simp; rfl)) (by rw [hln]; simp only [maxLen]; omega) (by rw [hln]; omega) (by rw [World.size_alloc]; omega) ?_
      intro v' w6 ho' hg' hb6 hat
      have hrow' := RowL.app r1 r2 r3 B5.out HO5.out hs ho' hg' hat
      rw [← E1.out] at hrow'
      have HR' := hid hrow'
      have HB' := hid (((HB.out.trans (B5.out.mono hs)).alloc (by omega) _).trans hb6)
      clear ho' hg' hb6 hat hrow' r1 r2 r3
      go_wp2
      go_roundw
      case rel => exact ⟨k + 1, by omega, by go_num, HR'.out, HB'.out⟩
      case measure => simp [intOf]; omega
    · have hke : k = ps.length := by omega
      subst hke
      have hown := HRW.out
      rw [List.take_of_length_le (Nat.le_refl _)] at hown
      have HOWN := hid hown
      have HTA := hid (HT3.out.on HB.out)
      have HPA := hid (good_paths.on HPV.out HB.out)
      obtain ⟨vo, -, ro, -⟩ := hown
      obtain ⟨Ao, co, hoe⟩ := own_form ro
      subst hoe
      obtain ⟨tl, -, s0, s1, s2, q0, q1, -, -⟩ := HTA.out
      have HKY := hid (key_any _ _ q ps wr HTA.out.qv HPA.out (by omega) (fun p hp => by have := HCL.out p hp; omega))
      clear ro HRW hlt hk
      obtain ⟨wa, rfl⟩ : ∃ wa : World, wa = wr := ⟨_, rfl⟩
      go_wp2_with fail
      refine HKY.out.mono ?_
      rintro e w4 ⟨r, rfl, hr, hb4⟩
      have B4 := hid hb4
      have z4 := hb4.size
      have hsp := Spt.start hr
      obtain ⟨vk, -, rk, -⟩ := hr
      obtain ⟨Ak, ck, hke⟩ := own_form rk
      subst hke
      have hkl : ck ≤ 9223372036854775807 ∧ (keyQ q ps).length ≤ ck := by
        obtain ⟨A', c', e, g1, g2, -⟩ := own_cells rk
        injection e with _ _ e3
        unfold maxLen at g2
        omega
      generalize keyQ q ps = ky at *
      have HSP := hid hsp
      clear hb4 rk hsp s0 s1 s2 q0 q1 tl
      go_wp2
      go_loopw [11] (fun i wr => SpOut ky (.slice Ak ky.length ck) wa i wr) (fun i _ => ky.length - (intOf i).toNat)
      case atStart => exact ⟨0, by omega, rfl, HSP.out, B4.out⟩
      case round =>
        clear HSP B4 z4
        obtain ⟨j, hj, rfl, hsp, hb⟩ := hrel
        have hs4 := hb.size
        have HB4 := hid hb; have HSP := hid hsp
        clear hb hsp
        by_cases hjl : j < ky.length
        · obtain ⟨b5, AE, cE, rfl, hce, hle1, hle2, hown5⟩ := HSP.out.at_ hjl
          obtain ⟨wb, rfl⟩ : ∃ wb : World, wb = wr := ⟨_, rfl⟩
          generalize hnn : (ky.getD j []).length = nn at *
          go_wp2
          go_loopw [12] (fun i wr => SpIn ky (.slice (some ⟨b5, 0, none⟩) ky.length ck) nn wa i wr) (fun i _ => nn - (intOf i).toNat)
          case atStart => exact ⟨0, by omega, rfl, HSP.out, HB4.out⟩
          case round =>
            clear HSP HB4 hce hown5 hs4 hle1 hle2
            obtain ⟨i, hi5, rfl, hsp, hb⟩ := hrel
            have hs5 := hb.size
            have HB5 := hid hb; have HSP5 := hid hsp
            clear hb hsp
            obtain ⟨b6, AE', cE', e6, hce, hle1, hle2, hown5⟩ := HSP5.out.at_ hjl
            injection e6 with e6
            injection e6 with e6 _ _
            subst e6
            rw [hnn] at hce hle1 hown5
            by_cases hil : i < nn
            · obtain ⟨g, rfl, hg1, hg2, hg3, hg4⟩ := hown5 (by omega)
              obtain ⟨⟨u, hu⟩, hfz⟩ := hg4 i hil
              have m1 := Nat.ne_of_gt hg2; have m2 := Nat.ne_of_lt hg2
              have HST := hid (HSP5.out.store (i := i) hg3 (.string ⟨#[122, 122]⟩))
              have HBS := hid (show Below wa.heap.size wa (wr.setCell ⟨g, i, none⟩ (.string ⟨#[122, 122]⟩)) from Below.setCell HB5.out (show wa.heap.size ≤ g from hg1) _)
              clear hg4 hown5
              go_wp2
              go_roundw
              case rel => exact ⟨i + 1, by omega, by go_num, HST.out, HBS.out⟩
              case measure => simp [intOf]; omega
            · clear hown5
              go_wp2
              go_roundw
              case rel => exact ⟨j + 1, by omega, by go_num, HSP5.out, HB5.out⟩
              case measure => simp [intOf]; omega
        · have HT5 := hid (HTA.out.on HB4.out)
          have hpv5 := good_paths.on HPA.out HB4.out
          have HPV5 := hid hpv5
          have HOW5 := hid (HOWN.out.stays HB4.out)
          have hsr := HT5.out.qv
          obtain ⟨Y1, y1, Y2, y2, e, hgr, -⟩ := hsr
          simp only [Value.agg.injEq] at e
          have HGS := hid (ints_src (show rdInts wr wr.heap.size [.slice F1 q.1.length e1] q.1 by
            have e' := congrArg (fun a : Array Value => a[0]?) e
            simp only [List.getElem?_toArray, List.getElem?_cons_zero, Option.some.injEq] at e'
            rw [e']; exact hgr))
          obtain ⟨tl, -, s0, s1, s2, q0, q1, -, -⟩ := HT5.out
          clear HSP hgr e
          go_wp2_with (at_builtin; refine stop_here ?_)
          refine go_on ?_
          refine app_own (.tmp 65) (.tmp 67) 27 27 rfl rfl wr.heap.size 3 ii (.int .i64 0) 1 8 Try.underlying27 hii' hy0 hy1 hy2 rfl (by decide) (.slice none 0 0) 0 [] rfl (World.ownsRow_nil _ _ _ _) (.slice F1 q.1.length e1) q.1.length (ivals q.1) rfl HGS.out (by simp only [maxLen]; omega) (by omega) (Nat.le_refl _) ?_
          intro gv w6 hog hgg hb6
          rw [Nat.zero_add, List.nil_append] at hog
          have z6 := hb6.size
          have HT6 := hid (HT5.out.on hb6)
          have HPV6 := hid (good_paths.on HPV5.out hb6)
          have HOW6 := hid (HOW5.out.stays hb6)
          have hqv := HT6.out.qv
          obtain ⟨Y1, y1, Y2, y2, e, hgr, -⟩ := hqv
          simp only [Value.agg.injEq] at e
          have hgr' : rdInts w6 w6.heap.size [.slice F1 q.1.length e1] q.1 := by
            have e' := congrArg (fun a : Array Value => a[0]?) e
            simp only [List.getElem?_toArray, List.getElem?_cons_zero, Option.some.injEq] at e'
            rw [e']; exact hgr
          have HGR := hid hgr'
          have hin : ∀ x ∈ q.1, InI64 x := fun x hx => by
            obtain ⟨i, hi, rfl⟩ := List.mem_iff_getElem.1 hx
            obtain ⟨b, off, -, -, -, h⟩ := ints_at' hgr' hi
            exact h
          obtain ⟨Ag, cg, rfl, -, -, -⟩ := own_cells hog
          have HOG := hid (rdInts_of_own rfl hog hin)
          clear hog hgg hb6 e hgr hgr' hin tl s0 s1 s2 q0 q1
          obtain ⟨tl, -, s0, s1, s2, q0, q1, -, -⟩ := HT6.out
          have HND := hid (need_any _ _ s q w6 HT6.out.sv HT6.out.qv (by omega) (by omega))
          generalize mayQ s q = res at *
          go_wp2_with fail
          refine HND.out.mono ?_
          rintro e w7 hp
          have hp' : ∃ (nv : Value) (L : List Int) (er : Int), e = .returned (.tuple #[nv, .int .i64 er]) ∧ w7.ownsRow w6.heap.size 3 1 nv L.length (ivals L) ∧ Below w6.heap.size w6 w7 := by
            rcases hp with ⟨-, r, e1, h2, h3⟩ | ⟨-, e1, h3⟩
            · exact ⟨r, _, 0, e1, h2, h3⟩
            · exact ⟨_, [], res, e1, World.ownsRow_nil _ _ _ _, h3⟩
          clear hp
          obtain ⟨nv, L, er, rfl, hon, hb7⟩ := hp'
          have B7 := hid hb7
          have z7 := hb7.size
          have hlt7 := hon.lt
          obtain ⟨An, cn, rfl, hcn, hmn, hov, hab⟩ := Over.start hon
          unfold maxLen at hmn
          have HOV := hid hov; have HAB := hid hab; have HLT7 := hid hlt7
          generalize L.length = nl at *
          clear hon hb7 hov hab hlt7 s0 s1 s2 q0 q1
          obtain ⟨wd, rfl⟩ : ∃ wd : World, wd = wr := ⟨_, rfl⟩
          go_wp2
          go_loopw [16] (fun i wr => ∃ k : Nat, i = .int .i64 k ∧ k ≤ nl ∧ Over An nl w7 wr) (fun i _ => nl - (intOf i).toNat)
          case atStart => exact ⟨0, rfl, by omega, HOV.out⟩
          case round =>
            clear HOV
            obtain ⟨k, rfl, hk, hov⟩ := hrel
            have HOV := hid hov
            clear hov
            by_cases hkl : k < nl
            · obtain ⟨g, rfl, hgl, hcf⟩ := HOV.out.2 (by omega)
              obtain ⟨⟨x, hx⟩, hfz⟩ := hcf k hkl
              clear hcf
              go_wp2
              go_roundw
              case rel => exact ⟨k + 1, by go_num, by omega, HOV.out.store rfl _ hkl⟩
              case measure => simp [intOf]; omega
            · have hb8 : Below w6.heap.size w6 wr := B7.out.trans (HOV.out.1.below z7 (fun g hg => (HLT7.out g (HAB.out g hg)).1))
              have B8 := hid hb8
              have HT8 := hid (HT6.out.on hb8)
              have HPV8 := hid (good_paths.on HPV6.out hb8)
              have HOW8 := hid (HOW6.out.stays hb8)
              have HGR8 := hid (good_ints.on HGR.out hb8)
              have HOG8 := hid (good_ints.on HOG.out hb8)
              have hsm := samePaths_any _ _ ps ps wr (HOW8.out.rows HPSS.out) HPV8.out
              rw [decide_eq_true (show ps = ps from rfl)] at hsm
              have HSM := hid hsm
              have hs8 := fun W (hb : Below wr.heap.size wr W) => refSame8_any _ _ q.1 q.1 W (good_ints.on HOG8.out hb) (good_ints.on HGR8.out hb)
              rw [decide_eq_true (show q.1 = q.1 from rfl)] at hs8
              have HS8 := hid hs8
              clear hb8 hsm hs8 tl
              obtain ⟨tl, -, s0, s1, s2, q0, q1, -, -⟩ := HT8.out
              go_wp2_with fail
              refine HSM.out.mono ?_
              rintro e w9 ⟨rfl, hq9⟩
              have B9 := hid (hq9.below wr.heap.size)
              clear hq9
              have m0 := cellK B9.out tl q0
              go_wp2_with fail
              refine (HS8.out _ B9.out).mono ?_
              rintro e w10 ⟨rfl, hq10⟩
              have B10 := hid (B9.out.trans (hq10.below _))
              clear hq10
              go_wp2_with fail
              refine (lives_true _).mono ?_
              rintro e w11 ⟨rfl, hb11⟩
              have B11 := hid (B10.out.trans (hb11.mono B10.out.size))
              clear hb11
              go_wp2
              go_ret
              exact ⟨rfl, HT8.out.b.trans (B11.out.mono HT8.out.b.size)⟩
end Go.Proofs.Ytafmdpnfigkbfab
