/- 1 text of this claim, in build order. -/
import Derived.Test.YtgoapnkdcfcjgaaGreatPambjpnfd
import Derived.Test.YtgoapnkdcfcjgaaGreatPmmmgjadk
import Derived.Test.YtgoapnkdcfcjgaaGreatPgfegbefo
import Derived.Deep.RegionLaw
import Derived.BigQuiet
/- The walk of PlanLess. -/
namespace Go.Proofs.YtgoapnkdcfcjgaaGreat
open Go.ChangeShapes Go.WideShapes Go.ChangeAt Go.RowKit Go.Deep
set_option linter.unusedVariables false
set_option linter.unusedSimpArgs false

section
variable {P : Program}
/-- append onto a row of the call's own, in a region that draws its order. -/
theorem step_app_own {ops : Array Oper} {o : Oper} {a : Act} {w : World} {K : Act → World → Prop} {Q : Exit → Act → World → Prop} {E : Prop} (s x : Operand) (t tx : TypeId) (hgd : o.guard = none)
    (ho : o.op = .call { callee := .builtin .append, args := #[s, x], argTypes := #[t, tx] })
    (base : Nat) (e : TypeId) (i : TypeInfo) (z : Value) (size bytes : Nat) (ht : P.underlying t = some (.slice e)) (hi : P.info? e = some i) (hz : i.zero = some z)
    (hsize : i.size = size) (hby : i.bytes = bytes) (hzs : z.cells.size = size) (hsz : 0 < size)
    (v : Value) (n : Nat) (xs : List Value) (hsv : a.eval s = v) (hown : w.ownsRow base e size v n xs)
    (xv : Value) (m : Nat) (news : List Value) (hxv : a.eval x = xv) (hs : Src P size tx xv m news w)
    (h63 : n + m ≤ maxLen) (hbytes : (n + m) * bytes ≤ 140737488355328) (hbase : base ≤ w.heap.size)
    (h : ∀ v' w', w'.ownsRow base e size v' (n + m) (xs ++ news) → w.grownBy w' v.ownBlock → Below base w w' → (v'.ownBlock = v.ownBlock ∨ v'.ownBlock = some w.heap.size) → K (a.put o.dst v') w') :
    if Region.wanted o (yielded ops a.tmps) = true then Oper.wp P o a w K Q else E := by
  have hw : Region.wanted o (yielded ops a.tmps) = true := by simp [Region.wanted, hgd]
  rw [if_pos hw]
  obtain ⟨v', w', hrun, h2, h3, h4⟩ := run_app_own (P := P) w base t tx o.type e i z size bytes ht hi hz hsize hby hzs hsz v n xs hown xv m news hs h63 hbytes hbase
  exact wp_of_run s x t tx ho v xv hsv hxv hrun (h v' w' h2 h3 ((Below.refl _ _).grown h3 hbase (fun j hj => (hown.lt j hj).1)) h4)
end
theorem less_row {w w' : World} {K L n c g : Nat} {l : List Int} (h : w.ownsRow K 3 1 (.slice (some ⟨g, 0, none⟩) n c) n (ivals l)) (hs : ∀ b, b ≠ L → w'.heap[b]? = w.heap[b]?) (hL : L < K) : w'.ownsRow K 3 1 (.slice (some ⟨g, 0, none⟩) n c) n (ivals l) :=
  own_kept h (fun b hb => hs b (by have := (h.lt b hb).1; omega))
theorem lessV_of {w : World} {K n1 c1 ix : Nat} {A1 : Option Addr} {V2 : Value} {q : QueryX} (h1 : w.ownsRow K 3 1 (.slice A1 n1 c1) n1 (ivals (q.1.set ix 0))) (hi : ∀ n ∈ q.1, InI64 n)
    (h2 : rdSlice 3 rdFilter w w.heap.size [V2] (q.2.take (q.2.length - 1))) : QueryV w w.heap.size (.agg #[.slice A1 n1 c1, V2]) (lessQ q ix) := by
  have hn : n1 = (q.1.set ix 0).length := by have := h1.1; simp [ivals] at this ⊢; omega
  subst hn
  obtain ⟨A2, c2, e, -, -⟩ := h2.open_
  simp only [List.cons.injEq, and_true] at e
  subst e
  refine ⟨A1, c1, A2, c2, rfl, rdInts_of_own rfl h1 (fun n hn => ?_), h2⟩
  rcases List.mem_or_eq_of_mem_set hn with hm | rfl
  · exact hi n hm
  · exact ⟨by omega, by omega⟩
def LsCut (q : QueryX) (ix : Nat) (w3 : World) (s9 : Value) (wx : World) : Prop :=
  s9 = .pointer (some ⟨w3.heap.size, 0, none⟩) ∧ ∃ V1 V2, wx.cell? ⟨w3.heap.size, 0, none⟩ = some V1 ∧ wx.cell? ⟨w3.heap.size, 1, none⟩ = some V2 ∧ QueryV wx wx.heap.size (.agg #[V1, V2]) (lessQ q ix) ∧ Below w3.heap.size w3 wx ∧ w3.heap.size < wx.heap.size
theorem QueryV.parts {w : World} {B n1 n2 c1 c2 : Nat} {A1 A2 : Option Addr} {q : QueryX} (h : QueryV w B (.agg #[.slice A1 n1 c1, .slice A2 n2 c2]) q) : rdInts w B [.slice A1 n1 c1] q.1 ∧ rdSlice 3 rdFilter w B [.slice A2 n2 c2] q.2 := by
  obtain ⟨B1, d1, B2, d2, e, h1, h2⟩ := h
  simp at e
  obtain ⟨⟨rfl, rfl, rfl⟩, rfl, rfl, rfl⟩ := e
  exact ⟨h1, h2⟩
set_option maxRecDepth 100000 in
set_option maxHeartbeats 3200000 in
theorem walk_PlanLess (w : World) (cs0 : Array Value) (x0 : SchemaX) (z0 : cs0.size = 3) (h0 : rdSchema w w.heap.size cs0.toList x0) (cs1 : Array Value) (x1 : QueryX) (z1 : cs1.size = 2) (h1 : rdQuery w w.heap.size cs1.toList x1) (a : Int) (ha : -9223372036854775808 ≤ a ∧ a ≤ 9223372036854775807) :
    Calls Tryz.prog 6 #[.agg cs0, .agg cs1, .int .i64 a] w (Gives (.bool true) w) := by
  have hs := schema_of_rd h0
  have hq := query_of_rd h1
  have hs0 := hs; have hq0 := hq
  obtain ⟨A1, c1, A2, c2, A3, c3, e, -, -, -⟩ := hs
  simp only [Value.agg.injEq] at e
  subst e
  obtain ⟨X1, d1, X2, d2, e, -, -⟩ := hq
  simp only [Value.agg.injEq] at e
  subst e
  have HSML := hid (fun W (hb : Below w.heap.size w W) => small_any _ x0 W w.heap.size hb.size (hs0.below hb))
  have HF := hid (fun W (hb : Below w.heap.size w W) => few13_any _ x1 W w.heap.size hb.size (hq0.below hb))
  obtain ⟨hq1, hq2⟩ := few13_len x1
  obtain ⟨hsl, hs9⟩ := small13_len x0
  clear h0 h1 hs0 hq0 z0 z1
  generalize x0.1.length = k1 at *
  generalize x0.2.1.length = k2 at *
  generalize x0.2.2.length = k3 at *
  generalize x1.1.length = k4 at *
  generalize x1.2.length = k5 at *
  generalize fewQ13 x1 = q at *
  generalize smallS x0 = s at *
  obtain ⟨W0, hW0⟩ : ∃ W, W = (w.alloc (.cells #[.slice A1 k1 c1, .slice A2 k2 c2, .slice A3 k3 c3] 26)).alloc (.cells #[.slice X1 k4 d1, .slice X2 k5 d2] 30) := ⟨_, rfl⟩
  have g0 : Below w.heap.size w W0 := by rw [hW0]; exact (bl1 w _).alloc (by simp) _
  have z0 : W0.heap.size = w.heap.size + 1 + 1 := by rw [hW0]; simp
  have y0 : W0.cell? ⟨w.heap.size, 0, none⟩ = some (.slice A1 k1 c1) := by rw [hW0]; simp [go_sem]
  have y1 : W0.cell? ⟨w.heap.size, 1, none⟩ = some (.slice A2 k2 c2) := by rw [hW0]; simp [go_sem]
  have y2 : W0.cell? ⟨w.heap.size, 2, none⟩ = some (.slice A3 k3 c3) := by rw [hW0]; simp [go_sem]
  have y3 : W0.cell? ⟨w.heap.size + 1, 0, none⟩ = some (.slice X1 k4 d1) := by rw [hW0]; simp [go_sem]
  have y4 : W0.cell? ⟨w.heap.size + 1, 1, none⟩ = some (.slice X2 k5 d2) := by rw [hW0]; simp [go_sem]
  have f0 : W0.frozen? ⟨w.heap.size, 0, none⟩ = false := by rw [hW0]; simp [go_sem]
  have f1 : W0.frozen? ⟨w.heap.size, 1, none⟩ = false := by rw [hW0]; simp [go_sem]
  have f2 : W0.frozen? ⟨w.heap.size, 2, none⟩ = false := by rw [hW0]; simp [go_sem]
  have f3 : W0.frozen? ⟨w.heap.size + 1, 0, none⟩ = false := by rw [hW0]; simp [go_sem]
  have f4 : W0.frozen? ⟨w.heap.size + 1, 1, none⟩ = false := by rw [hW0]; simp [go_sem]
  have HW0 := hid hW0; have G0 := hid g0
  clear hW0 g0
  go_enter Tryz.func6, Tryz.ntmps6
  go_wp2_with fail
  rw [← HW0.out]
  refine (HSML.out _ G0.out).mono ?_
  rintro e w1 ⟨B1, b1, B2, b2, B3, b3, rfl, hsv, hb1⟩
  have z1 := hb1.size
  have k0 := cellK hb1 (by omega) y0
  have k1' := cellK hb1 (by omega) y1
  have k2' := cellK hb1 (by omega) y2
  have n0 := frozenK hb1 (by omega) f0
  have n1 := frozenK hb1 (by omega) f1
  have n2 := frozenK hb1 (by omega) f2
  obtain ⟨W1, hW1⟩ : ∃ W, W = ((w1.setCell ⟨w.heap.size, 0, none⟩ (.slice B1 s.1.length b1)).setCell ⟨w.heap.size, 1, none⟩ (.slice B2 s.2.1.length b2)).setCell ⟨w.heap.size, 2, none⟩ (.slice B3 s.2.2.length b3) := ⟨_, rfl⟩
  have bb1 : Below w.heap.size w1 W1 := by rw [hW1]; exact Below.setCell (Below.setCell (Below.setCell (Below.refl _ w1) (show w.heap.size ≤ w.heap.size from Nat.le_refl _) _) (show w.heap.size ≤ w.heap.size from Nat.le_refl _) _) (show w.heap.size ≤ w.heap.size from Nat.le_refl _) _
  have zW1 : W1.heap.size = w1.heap.size := by rw [hW1]; simp [World.setCell]
  have hfar : ∀ g, g ≠ w.heap.size → W1.heap[g]? = w1.heap[g]? := fun g hg => by rw [hW1]; exact (Below.heap_setCell _ _ _ g (by simp; omega)).trans ((Below.heap_setCell _ _ _ g (by simp; omega)).trans (Below.heap_setCell _ _ _ g (by simp; omega)))
  have m0 : W1.cell? ⟨w.heap.size, 0, none⟩ = some (.slice B1 s.1.length b1) := by rw [hW1]; exact cell_beside (by omega) (cell_beside (by omega) (cell_here k0))
  have m1 : W1.cell? ⟨w.heap.size, 1, none⟩ = some (.slice B2 s.2.1.length b2) := by rw [hW1]; exact cell_beside (by omega) (cell_here (cell_beside (by omega) k1'))
  have m2 : W1.cell? ⟨w.heap.size, 2, none⟩ = some (.slice B3 s.2.2.length b3) := by rw [hW1]; exact cell_here (cell_beside (by omega) (cell_beside (by omega) k2'))
  have hb01 := G0.out.trans ((hb1.mono (by omega)).trans bb1)
  have qb : W1.heap[w.heap.size + 1]? = W0.heap[w.heap.size + 1]? := (hfar _ (by omega)).trans (hb1.block _ (by omega))
  have y3' : W1.cell? ⟨w.heap.size + 1, 0, none⟩ = some (.slice X1 k4 d1) := (World.cell?_of_block (a := ⟨w.heap.size + 1, 0, none⟩) qb).trans y3
  have y4' : W1.cell? ⟨w.heap.size + 1, 1, none⟩ = some (.slice X2 k5 d2) := (World.cell?_of_block (a := ⟨w.heap.size + 1, 1, none⟩) qb).trans y4
  have f3' : W1.frozen? ⟨w.heap.size + 1, 0, none⟩ = false := (World.frozen?_of_block (a := ⟨w.heap.size + 1, 0, none⟩) qb).trans f3
  have f4' : W1.frozen? ⟨w.heap.size + 1, 1, none⟩ = false := (World.frozen?_of_block (a := ⟨w.heap.size + 1, 1, none⟩) qb).trans f4
  have q3 : w1.cell? ⟨w.heap.size + 1, 0, none⟩ = some (.slice X1 k4 d1) := cellK hb1 (by omega) y3
  have q4 : w1.cell? ⟨w.heap.size + 1, 1, none⟩ = some (.slice X2 k5 d2) := cellK hb1 (by omega) y4
  have HSV := hid (hsv.below bb1); have HW1 := hid hW1; have GW1 := hid hb01
  rw [hW1] at y3' y4'
  clear hsv hb1 bb1 hW1 hb01 qb hfar y0 y1 y2 y3 y4 f0 f1 f2 f3 f4
  go_wp2_with fail
  rw [← HW1.out]
  refine (HF.out _ GW1.out).mono ?_
  rintro e w2 ⟨F1, e1, F2, e2, rfl, hqv, hb2⟩
  have z2 := hb2.size
  have k3' := cellK hb2 (by omega) ((congrArg (fun W => World.cell? W ⟨w.heap.size + 1, 0, none⟩) HW1.out).trans y3')
  have k4' := cellK hb2 (by omega) ((congrArg (fun W => World.cell? W ⟨w.heap.size + 1, 1, none⟩) HW1.out).trans y4')
  have n3 := frozenK hb2 (by omega) f3'
  have n4 := frozenK hb2 (by omega) f4'
  have m0' := cellK hb2 (by omega) m0
  have m1' := cellK hb2 (by omega) m1
  have m2' := cellK hb2 (by omega) m2
  obtain ⟨W2, hW2⟩ : ∃ W, W = (w2.setCell ⟨w.heap.size + 1, 0, none⟩ (.slice F1 q.1.length e1)).setCell ⟨w.heap.size + 1, 1, none⟩ (.slice F2 q.2.length e2) := ⟨_, rfl⟩
  have bb2 : Below w.heap.size w2 W2 := by rw [hW2]; exact Below.setCell (Below.setCell (Below.refl _ w2) (show w.heap.size ≤ w.heap.size + 1 by omega) _) (show w.heap.size ≤ w.heap.size + 1 by omega) _
  have zW2 : W2.heap.size = w2.heap.size := by rw [hW2]; simp [World.setCell]
  have htwo : Two w W2 s q (.slice B1 s.1.length b1) (.slice B2 s.2.1.length b2) (.slice B3 s.2.2.length b3) (.slice F1 q.1.length e1) (.slice F2 q.2.length e2) := by
    have hbw := GW1.out.trans ((hb2.mono (by omega)).trans bb2)
    refine ⟨by omega, hbw, ?_, ?_, ?_, ?_, ?_, (HSV.out.below ((hb2.mono (by omega)).trans bb2)).more hbw.size, (hqv.below bb2).more hbw.size⟩
    · rw [hW2]; exact cell_far (by omega) (cell_far (by omega) m0')
    · rw [hW2]; exact cell_far (by omega) (cell_far (by omega) m1')
    · rw [hW2]; exact cell_far (by omega) (cell_far (by omega) m2')
    · rw [hW2]; exact cell_beside (by omega) (cell_here k3')
    · rw [hW2]; exact cell_here (cell_beside (by omega) k4')
  have HW2 := hid hW2; have HT2 := hid htwo
  clear hqv hb2 bb2 hW2 htwo y3' y4' f3' f4' m0 m1 m2 m0' m1' m2' k0 k1' k2' n0 n1 n2 q3 q4
  obtain ⟨tl, -, s0, s1, s2, q0, q1, -, -⟩ := HT2.out
  have HC := hid (covering_any _ _ s q W2 HT2.out.sv HT2.out.qv (by omega) (by omega))
  have HNF := hid (covX_in (s := s) (q := q) hs9)
  have hw2 := HW2.out
  have s0i := s0; have s1i := s1; have s2i := s2; have q0i := q0; have q1i := q1
  rw [hw2] at s0i s1i s2i q0i q1i
  clear hw2
  obtain ⟨i0, hi0, hz00, hz10, hz20⟩ := info_parts info_int
  obtain ⟨i1, hi1, hz01, hz11, hz21⟩ := info_parts info_filter
  have HCL := hid (fun (h0 : (covX s q).2 = 0) d => cov_less (s := s) (q := q) h0 d)
  obtain ⟨r, hr⟩ : ∃ r, r = covX s q := ⟨_, rfl⟩
  rw [← hr] at HCL HC HNF
  have HR := hid hr
  clear hr
  obtain ⟨ra, re⟩ := r
  simp only at HNF HCL
  go_wp2_with fail
  rw [← HW2.out]
  refine HC.out.mono ?_
  rintro e w3 ⟨v, rfl, hov, hb3⟩
  obtain ⟨Av, cv, rfl⟩ := own_formB hov
  have HB3 := hid hb3; have HOV := hid hov
  have z3 := hb3.size
  have s0 := cellK hb3 (by omega) s0
  have s1 := cellK hb3 (by omega) s1
  have s2 := cellK hb3 (by omega) s2
  have q0 := cellK hb3 (by omega) q0
  have q1 := cellK hb3 (by omega) q1
  clear hb3 hov k3' k4' n3 n4 s0i s1i s2i q0i q1i
  by_cases hre : re = 0
  case neg =>
    have hre' : (re != 0) = true := by simpa using hre
    go_wp2_with fail
    refine (lives_true _).mono ?_
    rintro e w6 ⟨rfl, hb6⟩
    have HB6 := hid (HB3.out.trans (hb6.mono HB3.out.size)); clear hb6
    go_wp2
    go_ret
    exact ⟨rfl, HT2.out.b.trans (HB6.out.mono HT2.out.b.size)⟩
  case pos =>
    subst hre
    by_cases hl1 : q.1.length < 1
    · have hl1' : ((q.1.length : Nat) : Int) < 1 := by omega
      go_wp2_with fail
      refine (lives_true _).mono ?_
      rintro e w6 ⟨rfl, hb6⟩
      have HB6 := hid (HB3.out.trans (hb6.mono HB3.out.size)); clear hb6
      go_wp2
      go_ret
      exact ⟨rfl, HT2.out.b.trans (HB6.out.mono HT2.out.b.size)⟩
    · have hl1' : ¬ ((q.1.length : Nat) : Int) < 1 := by omega
      have hT3 := HT2.out.on HB3.out
      obtain ⟨hqi, hqf⟩ := hT3.qv.parts
      obtain ⟨mvs, hml, hmo, hmc, hmr⟩ := filters_cells (rd_take (m := q.2.length - 1) hqf (by omega))
      have hfin := filters_in hqf
      have HQI := hid (ints_inV hqi)
      obtain ⟨W4, hW4⟩ : ∃ W, W = w3.alloc (.cells #[.slice none 0 0, .slice none 0 0] 30) := ⟨_, rfl⟩
      have b4 : Below w3.heap.size w3 W4 := by rw [hW4]; exact bl1 _ _
      have z4 : W4.heap.size = w3.heap.size + 1 := by rw [hW4]; simp
      have y0 : W4.cell? ⟨w3.heap.size, 0, none⟩ = some (.slice none 0 0) := by rw [hW4]; simp [go_sem]
      have y1 : W4.cell? ⟨w3.heap.size, 1, none⟩ = some (.slice none 0 0) := by rw [hW4]; simp [go_sem]
      have g0 : W4.frozen? ⟨w3.heap.size, 0, none⟩ = false := by rw [hW4]; simp [go_sem]
      have g1 : W4.frozen? ⟨w3.heap.size, 1, none⟩ = false := by rw [hW4]; simp [go_sem]
      have q04 := cellK b4 (by omega) q0
      have q14 := cellK b4 (by omega) q1
      have HW4 := hid hW4
      have HSRC1 := hid (src_sl W4 (tx := 27) Tryz.underlying27 (show Sl W4 W4.heap.size (.slice F1 q.1.length e1) (ivals q.1) from rdSlice.sl (Value.int .i64) (fun es x hx => hx.1) (good_ints.on hqi b4)) (fun u hu => by obtain ⟨x, -, rfl⟩ := List.mem_map.1 hu; rfl))
      obtain ⟨D, hD0, hD9, hDa⟩ : ∃ D : Int, 0 ≤ D ∧ D ≤ 9223372036854775807 ∧ ((a < 0 ∧ D = -(a + 1)) ∨ (0 ≤ a ∧ D = a)) := by
        rcases (show a < 0 ∨ 0 ≤ a by omega) with ha0 | ha0
        · exact ⟨-(a + 1), by omega, by omega, .inl ⟨ha0, rfl⟩⟩
        · exact ⟨a, by omega, by omega, .inr ⟨ha0, rfl⟩⟩
      clear hW4 b4
      have HSRC1 : Hid (Src Tryz.prog 1 27 (.slice F1 q.1.length e1) q.1.length (ivals q.1) W4) := hid (by have := HSRC1.out; rwa [show (ivals q.1).length = q.1.length by simp [ivals]] at this)
      have hi9 : D.toNat % q.1.length < q.1.length := Nat.mod_lt _ (by omega)
      have hrem : Int.tmod D (q.1.length : Int) = ((D.toNat % q.1.length : Nat) : Int) := by
        obtain ⟨m, rfl⟩ : ∃ m : Nat, D = (m : Int) := ⟨D.toNat, by omega⟩
        rfl
      generalize hix : D.toNat % q.1.length = ix at *
      obtain ⟨hce, hcs⟩ := HCL.out rfl ix
      have HSUB := hid hcs; have HCE := hid hce
      have hmin : (q.2.take (q.2.length - 1)).length = q.2.length - 1 := by rw [List.length_take]; omega
      have HFC := hid hmc; have HFR := hid hmr; have HFM := hid hml; have HFO := hid (fvals_one hml hmo); have HFI := hid hfin
      clear hix hce hcs hmc hmr hml hmo hfin hqi hqf hT3
      go_upto_if 35 with (fail)
      go_cut [2] from 36 to 38 (fun s2 wx => s2 = .int .i64 D ∧ wx = w3)
      case first =>
        rcases hDa with ⟨ha0, hDa⟩ | ⟨ha0, hDa⟩
        · go_wp2
          go_meet
          case rel => exact ⟨by rw [hDa], rfl⟩
        · have ha0' : ¬ a < 0 := by omega
          go_wp2
          go_meet
          case rel => exact ⟨by rw [hDa], rfl⟩
      case rest =>
      obtain ⟨rfl, hwc⟩ := hcut
      have hwc := hwc.symm
      subst hwc
      clear hDa
      ·
        go_upto_region 9 with (fail)
        rw [← HW4.out]
        go_wp2_with (at_builtin; refine stop_here ?_)
        refine go_on ?_
        refine app_own_at (.tmp 40) (.tmp 42) 27 27 rfl rfl W4.heap.size 3 i0 (.int .i64 0) 1 8 Tryz.underlying27 hi0 hz00 hz10 hz20 rfl (by decide) _ 0 [] rfl (World.ownsRow_nil _ _ _ _) (.slice F1 q.1.length e1) q.1.length (ivals q.1) rfl HSRC1.out (by simp only [maxLen]; omega) (by omega) (Nat.le_refl _) ?_
        intro v' w5 ho' hg' hb5 hat'
        simp only [Nat.zero_add, List.nil_append] at ho'
        obtain ⟨Ag, cg, rfl, hcg, hmg, hg3⟩ := own_cells2 ho'
        obtain ⟨g, rfl, hgK, hgs, -, hcell⟩ := hg3 (by omega)
        have z5 := hb5.size
        have y0 := cellK hb5 (by omega) y0
        have y1 := cellK hb5 (by omega) y1
        have g0 := frozenK hb5 (by omega) g0
        have g1 := frozenK hb5 (by omega) g1
        have q04 := cellK hb5 (by omega) q04
        have q14 := cellK hb5 (by omega) q14
        obtain ⟨W6, hW6⟩ : ∃ W, W = w5.setCell ⟨w3.heap.size, 0, none⟩ (.slice (some ⟨g, 0, none⟩) q.1.length cg) := ⟨_, rfl⟩
        have z6 : W6.heap.size = w5.heap.size := by rw [hW6]; simp [World.setCell]
        have hfar6 : ∀ b, b ≠ w3.heap.size → W6.heap[b]? = w5.heap[b]? := fun b hb => by rw [hW6]; exact Below.heap_setCell _ _ _ b (by simp; omega)
        have x0 : W6.cell? ⟨w3.heap.size, 0, none⟩ = some (.slice (some ⟨g, 0, none⟩) q.1.length cg) := by rw [hW6]; exact cell_here y0
        have x1 : W6.cell? ⟨w3.heap.size, 1, none⟩ = some (.slice none 0 0) := by rw [hW6]; exact cell_beside (by omega) y1
        have x2 : W6.frozen? ⟨w3.heap.size, 1, none⟩ = false := by rw [hW6]; exact frozen_far g1
        have x3 : W6.cell? ⟨w.heap.size + 1, 0, none⟩ = some (.slice F1 q.1.length e1) := (World.cell?_of_block (a := ⟨w.heap.size + 1, 0, none⟩) (hfar6 (w.heap.size + 1) (by omega))).trans q04
        have x4 : W6.cell? ⟨w.heap.size + 1, 1, none⟩ = some (.slice F2 q.2.length e2) := (World.cell?_of_block (a := ⟨w.heap.size + 1, 1, none⟩) (hfar6 (w.heap.size + 1) (by omega))).trans q14
        have ho6 := own_kept ho' (w' := W6) (fun b hb => by injection hb with hb; rw [← hb]; exact hfar6 g (by omega))
        obtain ⟨c6, f6, ho7⟩ := own_set ho6 hi9 0
        have B6 := hid (show Below w3.heap.size w3 W6 from by
          refine ((show Below w3.heap.size w3 W4 by rw [HW4.out]; exact bl1 _ _).trans (hb5.mono (by omega))).trans ?_
          rw [hW6]; exact Below.setCell (Below.refl _ w5) (show w3.heap.size ≤ w3.heap.size from Nat.le_refl _) _)
        have HW6 := hid hW6; have HO7 := hid ho7
        clear hW6 ho' hg' hb5 hat' hg3 hcell hfar6 ho6 ho7 y1 g1 q04 q14
        go_upto_region 10 with (fail)
        rw [← HW6.out]
        have hqne : ¬ q.1 = [] := fun e => by rw [e] at hi9; simp at hi9
        go_region
        obtain ⟨W7, hW7⟩ : ∃ W, W = (W6.setCell ⟨g, ix, none⟩ (.int .i64 0)).drew := ⟨_, rfl⟩
        have z7 : W7.heap.size = W6.heap.size := by rw [hW7]; simp [World.setCell]
        have hfar7 : ∀ b, b ≠ g → W7.heap[b]? = W6.heap[b]? := fun b hb => by rw [hW7]; exact Below.heap_setCell _ _ _ b (by simp; omega)
        have x0 := (World.cell?_of_block (a := ⟨w3.heap.size, 0, none⟩) (hfar7 w3.heap.size (by omega))).trans x0
        have x1 := (World.cell?_of_block (a := ⟨w3.heap.size, 1, none⟩) (hfar7 w3.heap.size (by omega))).trans x1
        have x2 := (World.frozen?_of_block (a := ⟨w3.heap.size, 1, none⟩) (hfar7 w3.heap.size (by omega))).trans x2
        have x4 := (World.cell?_of_block (a := ⟨w.heap.size + 1, 1, none⟩) (hfar7 (w.heap.size + 1) (by omega))).trans x4
        have ho7 : W7.ownsRow W4.heap.size 3 1 (.slice (some ⟨g, 0, none⟩) q.1.length cg) q.1.length (ivals (q.1.set ix 0)) := own_kept HO7.out (fun b hb => by rw [hW7]; rfl)
        have B7 := hid (show Below w3.heap.size w3 W7 from by
          refine B6.out.trans ?_
          rw [hW7]; exact (Below.setCell (Below.refl _ W6) (show w3.heap.size ≤ g by omega) _).drew)
        have HW7 := hid hW7; have HO7 := hid ho7
        rw [← hW7]
        clear hW7 hfar7 ho7 c6 f6 x3 y0 g0
        go_upto_if 56 with (fail)
        generalize hb56 : decide (0 < q.2.length) = b56
        go_cut [9] from 57 to 67 (fun s9 wx => LsCut q ix w3 s9 wx)
        case first =>
         cases b56
         · have hf0 : q.2.length = 0 := by have := of_decide_eq_false hb56; omega
           clear hb56
           have hnx : LsCut q ix w3 (.pointer (some ⟨w3.heap.size, 0, none⟩)) W7 := by
             refine ⟨rfl, _, _, x0, x1, lessV_of HO7.out HQI.out ?_, B7.out, by omega⟩
             have : q.2.take (q.2.length - 1) = [] := List.eq_nil_of_length_eq_zero (by omega)
             rw [this]; exact ⟨none, 0, rfl, Nat.le_refl _, by simp [maxLen], fun h => absurd h (Nat.lt_irrefl _)⟩
           have HNX := hid hnx
           clear hnx x0 x1 x2
           go_wp2
           go_meet
           case rel => exact HNX.out
         · have hf0 : 0 < q.2.length := by have := of_decide_eq_true hb56; omega
           clear hb56
           obtain ⟨b, off, hF2, hbB, -⟩ := (HT2.out.on HB3.out).qv.parts.2.at_ (i := 0) hf0
           subst hF2
           obtain ⟨m, hm⟩ : ∃ m, q.2.length = m + 1 := ⟨q.2.length - 1, by omega⟩
           have hnm : ((q.2.length : Nat) : Int) - 1 = (m : Int) := by omega
           obtain ⟨hcp, hcm⟩ := (HT2.out.on HB3.out).qv.parts.2.cap
           have hme : (m : Int) ≤ (e2 : Int) := by omega
           have hwm : IntKind.i64.wrap ((m : Nat) : Int) = (m : Int) := IntWalk.i64_in _ (by omega)
           have hlm : (q.2.take (q.2.length - 1)).length = m := by omega
           have hb7 := B7.out
           have hsrc : Src Tryz.prog 3 28 (.slice (some ⟨b, off, none⟩) m e2) m (fvals (q.2.take (q.2.length - 1)) mvs) W7.drew := by
             refine Src.ofSlice _ Tryz.underlying28 ⟨b, off, none⟩ m e2 _ (by rw [fvals_len HFM.out, hlm]) ?_ HFO.out
             intro j u hu
             have hjl := (List.getElem?_eq_some_iff.1 hu).1
             rw [fvals_len HFM.out, hlm] at hjl
             obtain ⟨b', off', e, hb', hc⟩ := HFC.out (by omega)
             injection e with e
             injection e with e1' e2' _
             subst e1'; subst e2'
             have hcc := cellK hb7.drew (by omega) (hc j u hu)
             rwa [show (⟨b, off, none⟩ : Addr).add j = ⟨b, off + j, none⟩ by unfold Addr.add; split <;> simp_all]
           have hm9 : m ≤ 5 := by omega
           have HSR2 := hid hsrc
           clear hsrc hb7 hm
           go_upto_region 12 with (fail)
           go_region_law (first
             | (refine step_app_own (.tmp 58) (.tmp 65) 28 28 (by rfl) (by rfl) W7.heap.size 83 i1 (.agg #[.int .i64 0, .int .i64 0, .slice none 0 0]) 3 40 Tryz.underlying28 hi1 hz01 hz11 hz21 rfl (by omega) _ 0 [] (by rfl) (World.ownsRow_nil _ _ _ _) (.slice (some ⟨b, off, none⟩) m e2) m (fvals (q.2.take (q.2.length - 1)) mvs) (by rfl) HSR2.out (by simp only [maxLen]; omega) (by omega) (by simp) ?_; intro vf w8 ho8 hg8 hb8 hat8; simp only [Nat.zero_add, List.nil_append] at ho8; obtain ⟨Af, cf, rfl⟩ := own_formB ho8; have b8 : Below W7.heap.size W7 w8 := (Below.refl W7.heap.size W7).drew.trans hb8; have m0 := cellK b8 (by omega) x0; have m1 := cellK b8 (by omega) x1; have m2 := frozenK b8 (by omega) x2; have HO8 := hid ho8; have B8 := hid b8; clear ho8 hg8 hb8 hat8 b8))
           all_goals
             have hnx : LsCut q ix w3 (.pointer (some ⟨w3.heap.size, 0, none⟩)) (w8.setCell ⟨w3.heap.size, 1, none⟩ (.slice Af m cf)) := by
               have hx8 := own_stays HO7.out B8.out
               have hset : ∀ b, b ≠ w3.heap.size → (w8.setCell ⟨w3.heap.size, 1, none⟩ (.slice Af m cf)).heap[b]? = w8.heap[b]? := fun b hb => Below.heap_setCell _ _ _ b (by simp; omega)
               have hsz : (w8.setCell ⟨w3.heap.size, 1, none⟩ (.slice Af m cf)).heap.size = w8.heap.size := by simp [World.setCell]
               have hb8 := B7.out.trans (B8.out.mono (by omega))
               refine ⟨rfl, _, _, cell_beside (by omega) m0, cell_here m1, lessV_of (less_row hx8 hset (by omega)) ?_ ?_, Below.setCell hb8 (show w3.heap.size ≤ w3.heap.size from Nat.le_refl _) _, by rw [hsz]; have := B8.out.size; omega⟩
               · exact HQI.out
               · refine filters_of_own (K := W7.heap.size) (B := w3.heap.size) HFM.out (by rw [hlm]; exact own_kept HO8.out (fun b hb => hset b (by have := (HO8.out.lt b hb).1; omega))) (fun j hj => good_paths.stays (HFR.out j hj) (Below.setCell hb8 (show w3.heap.size ≤ w3.heap.size from Nat.le_refl _) _)) (by rw [hsz]; have := B8.out.size; omega) (fun f hf => HFI.out f (List.mem_of_mem_take hf))
             have HNX := hid hnx
             clear hnx m0 m1 m2
             go_wp2
             go_meet
             case rel => exact HNX.out
        case rest =>
        obtain ⟨rfl, V1, V2, l0, l1, hqv, hb9, hz9⟩ := hcut
        obtain ⟨G1, gc1, G2, gc2, eV, -, -⟩ := id hqv
        simp only [Value.agg.injEq, Array.mk.injEq, List.cons.injEq, and_true] at eV
        obtain ⟨rfl, rfl⟩ := eV
        obtain ⟨w9, rfl⟩ : ∃ W, W = wc := ⟨_, rfl⟩
        have s09 := cellK hb9 (by omega) s0
        have s19 := cellK hb9 (by omega) s1
        have s29 := cellK hb9 (by omega) s2
        have HB9 := hid (HB3.out.trans (hb9.mono HB3.out.size))
        have HO9 := hid (own_stays HOV.out hb9)
        have HC9 := hid (covering_any _ _ s (lessQ q ix) w9 (HT2.out.sv.on HB9.out) hqv (by omega) (by unfold lessQ; rw [List.length_set]; omega))
        obtain ⟨r2, hr2⟩ : ∃ r2, r2 = covX s (lessQ q ix) := ⟨_, rfl⟩
        rw [← hr2] at HC9 HCE HSUB
        clear hr2 hqv hb9
        try clear HW7
        try clear HO7
        try clear HFO
        try clear HFC
        try clear HFR
        try clear HFM
        try clear HW6
        try clear B6
        try clear B7
        try clear x4
        try clear x0
        try clear x1
        try clear x2
        try clear q0
        try clear q1
        try clear s0
        try clear s1
        try clear s2
        obtain ⟨rb, eb⟩ := r2
        simp only at HSUB
        obtain rfl : eb = 0 := HCE.out
        go_wp2_with fail
        refine HC9.out.mono ?_
        rintro e w10 ⟨v10, rfl, ho10, hb10⟩
        obtain ⟨A10, c10, rfl⟩ := own_formB ho10
        have HO10 := hid ho10
        have HOA := hid (own_stays HO9.out hb10)
        have HB10 := hid (HB9.out.trans (hb10.mono HB9.out.size))
        have hla : ra.length ≤ maxLen := by obtain ⟨A', c', e', g1, g2, -⟩ := own_cells2 HOV.out; have g1 : ra.length ≤ c' := g1; omega
        have hlb : rb.length ≤ maxLen := by obtain ⟨A', c', e', g1, g2, -⟩ := own_cells2 ho10; have g1 : rb.length ≤ c' := g1; omega
        unfold maxLen at hla hlb
        clear ho10 hb10 s09 s19 s29 l0 l1
        try clear HF
        try clear HSML
        try clear HW0
        try clear G0
        try clear HSV
        try clear HW1
        try clear GW1
        try clear HW2
        try clear HC
        try clear HOV
        try clear HB3
        try clear HQI
        try clear HFI
        try clear HO9
        try clear HC9
        try clear HB9
        try clear HCE
        try clear HCL
        try clear HNF
        try clear hi0
        try clear hi1
        try clear hz00
        try clear hz10
        try clear hz20
        try clear hz01
        try clear hz11
        try clear hz21
        try clear HW4
        try clear HSRC1
        try clear HR
        try clear hrem
        try clear hmin
        try clear hi9
        try clear hqne
        try clear z0
        try clear z1
        try clear z2
        try clear z3
        try clear z4
        try clear z5
        try clear z6
        try clear z7
        try clear zW1
        try clear zW2
        try clear hq1
        try clear hq2
        try clear hsl
        try clear hs9
        try clear hl1
        try clear hl1'
        try clear hcg
        try clear hmg
        try clear hgK
        try clear hgs
        try clear q04
        try clear q14
        try clear y0
        try clear y1
        try clear g0
        try clear g1
        try clear ha
        try clear hD0
        try clear hD9
        try clear tl
        try clear hb56
        try clear hz9
        go_wp2
        go_loopw [12] (fun i wr => ∃ k : Nat, k ≤ ra.length ∧ i = .int .i64 k ∧ Below w10.heap.size w10 wr) (fun i _ => ra.length - (intOf i).toNat)
        case atStart => exact ⟨0, by omega, rfl, Below.refl _ _⟩
        case round =>
          obtain ⟨k, hk, rfl, hb⟩ := hrel
          have HBW := hid hb
          clear hb
          by_cases hlt : k < ra.length
          · obtain ⟨wr0, rfl⟩ : ∃ wr0 : World, wr0 = wr := ⟨_, rfl⟩
            go_wp2
            go_loopw [13, 14] (fun b j wr => ∃ n : Nat, n ≤ rb.length ∧ j = .int .i64 n ∧ b = .bool (decide (ra[k] ∈ rb.take n)) ∧ Below w10.heap.size w10 wr) (fun _ j _ => rb.length - (intOf j).toNat)
            case atStart => exact ⟨0, by omega, rfl, by simp, HBW.out⟩
            case round =>
              obtain ⟨wo, rfl⟩ : ∃ wo : World, wo = wr := ⟨_, rfl⟩
              obtain ⟨n, hn, rfl, rfl, hb2⟩ := hrel
              have HB2 := hid hb2
              by_cases hlt2 : n < rb.length
              · obtain ⟨Aa, ca, ea, -, -, ha3⟩ := own_cells2 (own_stays HOA.out hb2)
                injection ea with ea _ ec
                subst ea; subst ec
                obtain ⟨ga, rfl, -, -, -, hca⟩ := ha3 (by omega)
                obtain ⟨Ab, cb, eb, -, -, hb3'⟩ := own_cells2 (own_stays HO10.out hb2)
                injection eb with eb _ ec
                subst eb; subst ec
                obtain ⟨gb, rfl, -, -, -, hcb⟩ := hb3' (by omega)
                have xa : wo.cell? ⟨ga, k, none⟩ = some (.int .i64 ra[k]) := by rw [hca k (by omega)]; simp [ivals, List.getElem?_eq_getElem hlt]
                have xb : wo.cell? ⟨gb, n, none⟩ = some (.int .i64 rb[n]) := by rw [hcb n (by omega)]; simp [ivals, List.getElem?_eq_getElem hlt2]
                have hst : decide (ra[k] ∈ rb.take (n + 1)) = (decide (ra[k] ∈ rb.take n) || decide (ra[k] = rb[n])) := by
                  rw [List.take_succ_eq_append_getElem hlt2, ← Bool.decide_or]
                  exact decide_eq_decide.2 (by rw [List.mem_append, List.mem_singleton])
                generalize ra[k] = x at *
                generalize rb[n] = y at *
                generalize decide (x ∈ rb.take n) = bn at *
                clear hca hcb ha3 hb3' hb2
                cases bn
                · rcases (show x = y ∨ x ≠ y by omega) with he | he
                  · subst he
                    go_wp2
                    go_quiet (fail)
                    go_wp2
                    go_roundw
                    case rel => exact ⟨n + 1, by omega, by go_num, by rw [hst]; simp, below_drewN HB2.out _⟩
                    case measure => simp [intOf]; omega
                  · have hxy : (x == y) = false := by simpa using he
                    go_wp2
                    go_quiet (fail)
                    go_wp2
                    go_roundw
                    case rel => exact ⟨n + 1, by omega, by go_num, by rw [hst]; simp [he], below_drewN HB2.out _⟩
                    case measure => simp [intOf]; omega
                · go_wp2
                  go_quiet (fail)
                  go_wp2
                  go_roundw
                  case rel => exact ⟨n + 1, by omega, by go_num, by rw [hst]; simp, below_drewN HB2.out _⟩
                  case measure => simp [intOf]; omega
              · obtain rfl : n = rb.length := by omega
                have hin : decide (ra[k] ∈ rb.take rb.length) = true := by rw [List.take_length]; exact decide_eq_true (HSUB.out _ (List.getElem_mem hlt))
                rw [hin]
                go_wp2
                go_roundw
                case rel => exact ⟨k + 1, by omega, by go_num, HB2.out⟩
                case measure => simp [intOf]; omega
          · obtain rfl : k = ra.length := by omega
            go_wp2_with fail
            refine (lives_true _).mono ?_
            rintro e w11 ⟨rfl, hb11⟩
            have HB11 := hid (HB10.out.trans ((HBW.out.trans (hb11.mono HBW.out.size)).mono HB10.out.size)); clear hb11
            go_wp2
            go_ret
            exact ⟨rfl, HT2.out.b.trans (HB11.out.mono HT2.out.b.size)⟩
end Go.Proofs.YtgoapnkdcfcjgaaGreat
