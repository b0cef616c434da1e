/- The walk of QueryPuts. -/
import Derived.Test.YtafmdpnfigkbfabQPut1
import Derived.Test.YtafmdpnfigkbfabRef12e
import Derived.Test.YtafmdpnfigkbfabWireSame
import Derived.Test.YtafmdpnfigkbfabQry14
namespace Go.Proofs.Ytafmdpnfigkbfab
open Go.ChangeShapes Go.WideShapes Go.ChangeAt Go.RowKit
set_option linter.unusedVariables false
set_option linter.unusedSimpArgs false

theorem cut8 {w : World} {B : Nat} {A : Option Addr} {c m : Nat} {l : List UInt8} (h : Sl w B (.slice A l.length c) (bvals l)) :
    ∃ n : Nat, Sl w B (.slice A n c) (bvals (l.take m)) ∧ n = (l.take m).length ∧ n ≤ c ∧ (((m : Int) < (l.length : Int) ∧ m ≤ l.length ∧ n = m) ∨ (¬ (m : Int) < (l.length : Int) ∧ n = l.length)) := by
  have h' := h
  obtain ⟨A', c', e, h1, h2, h3⟩ := h'
  simp only [Value.slice.injEq] at e
  obtain ⟨rfl, e2, rfl⟩ := e
  rw [bvals_len] at h1
  by_cases hm : m < l.length
  · refine ⟨m, ?_, by rw [List.length_take]; omega, by omega, .inl ⟨by omega, by omega, rfl⟩⟩
    refine ⟨A, c, ?_, ?_, h2, fun h0 => ?_⟩
    · rw [bvals_len, List.length_take, Nat.min_eq_left (by omega)]
    · rw [bvals_len, List.length_take]; omega
    · rw [bvals_len, List.length_take] at h0
      obtain ⟨b, off, e, hb, hc⟩ := h3 (by rw [bvals_len]; omega)
      refine ⟨b, off, e, hb, fun j u hu => hc j u ?_⟩
      rw [bvals_take, List.getElem?_take] at hu
      split at hu
      · exact hu
      · exact absurd hu (by simp)
  · exact ⟨l.length, by rw [List.take_of_length_le (by omega)]; exact h, by rw [List.length_take]; omega, h1, .inr ⟨by omega, rfl⟩⟩
theorem sl_nil8 (w : World) : Sl w w.heap.size (.slice none 0 0) (bvals []) := Sl.nil_
set_option maxRecDepth 100000 in
set_option maxHeartbeats 3200000 in
theorem walk_QueryPuts (w : World) (v : Value) (l : List UInt8) (hv : Sl w w.heap.size v (bvals l)) (hz : l.length ≤ maxLen) (cs0 : Array Value) (x0 : QueryX) (z0 : cs0.size = 2) (h0 : rdQuery w w.heap.size cs0.toList x0) :
    Calls Try.prog 7 #[v, .agg cs0] w (Gives (.bool true) w) := by
  have hx := query_of_rd h0
  have hx0 := hx
  obtain ⟨A1, c1, A2, c2, e, -, -⟩ := hx
  simp only [Value.agg.injEq] at e
  subst e
  have hv' := hv
  obtain ⟨A, c, rfl, hc1, hc2, -⟩ := hv'
  rw [bvals_len] at hv hc1 ⊢
  obtain ⟨n, hn, hnl, hnc, hways⟩ := cut8 (m := 20) hv
  have hln : (l.take 20).length ≤ 20 := by rw [List.length_take]; omega
  have HF := hid (fun W (hb : Below w.heap.size w W) => few_any _ x0 W w.heap.size hb.size (hx0.below hb))
  clear h0 hx0 z0 hv
  generalize l.take 20 = b0 at *
  generalize l.length = ln at *
  generalize fewQ x0 = q at *
  unfold maxLen at hc2
  obtain ⟨W0, hW0⟩ : ∃ W, W = w.alloc (.cells #[.slice A1 x0.1.length c1, .slice A2 x0.2.length c2] 30) := ⟨_, rfl⟩
  have g0 : Below w.heap.size w W0 := by rw [hW0]; exact bl1 _ _
  have z0 : W0.heap.size = w.heap.size + 1 := by rw [hW0]; simp
  have y0 : W0.cell? ⟨w.heap.size, 0, none⟩ = some (.slice A1 x0.1.length c1) := by rw [hW0]; simp [go_sem]
  have y1 : W0.cell? ⟨w.heap.size, 1, none⟩ = some (.slice A2 x0.2.length c2) := by rw [hW0]; simp [go_sem]
  have f0 : W0.frozen? ⟨w.heap.size, 0, none⟩ = false := by rw [hW0]; simp [go_sem]
  have f1 : W0.frozen? ⟨w.heap.size, 1, none⟩ = false := by rw [hW0]; simp [go_sem]
  have HW0 := hid hW0; have G0 := hid g0
  have HN := hid hn
  clear hW0 g0 hn
  go_enter Try.func7, Try.ntmps7
  go_wp2_with fail
  rw [← HW0.out]
  refine (HF.out _ G0.out).mono ?_
  rintro e w1 ⟨F1, d1, F2, d2, rfl, hr, hf, hi, hb1⟩
  have z1 := hb1.size
  have k0 := cellK hb1 (by omega) y0
  have k1 := cellK hb1 (by omega) y1
  have n0 := frozenK hb1 (by omega) f0
  have n1 := frozenK hb1 (by omega) f1
  obtain ⟨W1, hW1⟩ : ∃ W, W = (w1.setCell ⟨w.heap.size, 0, none⟩ (.slice F1 q.1.length d1)).setCell ⟨w.heap.size, 1, none⟩ (.slice F2 q.2.length d2) := ⟨_, rfl⟩
  have b1 : Below w.heap.size w1 W1 := by rw [hW1]; exact Below.setCell (Below.setCell (Below.refl _ w1) (show w.heap.size ≤ w.heap.size from Nat.le_refl _) _) (show w.heap.size ≤ w.heap.size from Nat.le_refl _) _
  have zW1 : W1.heap.size = w1.heap.size := by rw [hW1]; simp [World.setCell]
  have hqv : QueryV W1 W1.heap.size (.agg #[.slice F1 q.1.length d1, .slice F2 q.2.length d2]) q := few_v hr hf hi b1 (fun g h1 h2 => by rw [hW1]; exact (Below.heap_setCell _ _ _ g (by simp; omega)).trans (Below.heap_setCell _ _ _ g (by simp; omega))) (by omega)
  have m0 : W1.cell? ⟨w.heap.size, 0, none⟩ = some (.slice F1 q.1.length d1) := by rw [hW1]; exact cell_beside (by omega) (cell_here k0)
  have m1 : W1.cell? ⟨w.heap.size, 1, none⟩ = some (.slice F2 q.2.length d2) := by rw [hW1]; exact cell_here (cell_beside (by omega) k1)
  have m0i := m0; have m1i := m1
  rw [hW1] at m0i m1i
  have GW1 := hid (G0.out.trans ((hb1.mono (by omega)).trans b1))
  have HQV := hid hqv; have HW1 := hid hW1; have M0 := hid m0; have M1 := hid m1
  have HP := hid (putQ_any (.slice A n c) _ b0 q W1 ((HN.out.below GW1.out).more GW1.out.size) (by omega) hqv)
  have HRP := hid (fun W (hb : Below W1.heap.size W1 W) => refPutQ_any (.slice A n c) _ b0 q W ((HN.out.below (GW1.out.trans (hb.mono GW1.out.size))).more (Nat.le_trans GW1.out.size hb.size)) (by omega) (HQV.out.on hb))
  have hlenT : plainQ q = true → (b0 ++ putQ q).length ≤ 140737488355328 := fun h => by have := putQ_len h; rw [List.length_append]; omega
  have HLT := hid hlenT
  have hBW : w.heap.size < W1.heap.size := by omega
  clear hr hf hi hb1 b1 hqv hW1 m0 m1 y0 y1 f0 f1 hlenT hnl hln hz HN
  unfold PutQP at HP HRP
  generalize b0 ++ putQ q = T at *
  generalize plainQ q = pl at *
  generalize hq1 : q.1.length = lq1 at *
  generalize hq2 : q.2.length = lq2 at *
  rcases hways with ⟨t1, hml, rfl⟩ | ⟨t1, rfl⟩
  all_goals
    go_wp2_with fail
    rw [← HW1.out]
    refine HP.out.mono ?_
    rintro e w2 hp2
    rcases hp2 with ⟨hpl, r2, rfl, ho2, hb2⟩ | ⟨hpl, rfl, hb2⟩
    · have HB2 := hid hb2
      have HO2 := hid ho2
      have m0 := cellK hb2 hBW M0.out
      have m1 := cellK hb2 hBW M1.out
      clear hb2 ho2
      go_wp2_with fail
      refine (HRP.out _ HB2.out).mono ?_
      rintro e w3 hp3
      rcases hp3 with ⟨hpl3, r3, rfl, ho3, hb3⟩ | ⟨hpl3, rfl, hb3⟩
      · have HS := hid (same_any r2 r3 T T w3 (HLT.out hpl) (HLT.out hpl) ((HO2.out.on hb3).sl) ho3.sl)
        have HB3 := hid (HB2.out.trans (hb3.mono HB2.out.size))
        unfold SamePost at HS
        simp only [decide_true] at HS
        clear hb3 ho3
        go_wp2_with fail
        refine HS.out.mono ?_
        rintro e w4 ⟨rfl, hq4⟩
        have HB4 := hid (HB3.out.trans (hq4.below _)); clear hq4
        go_wp2_with fail
        refine (lives_true _).mono ?_
        rintro e w5 ⟨rfl, hb5⟩
        have HB5 := hid (HB4.out.trans (hb5.mono HB4.out.size)); clear hb5
        go_wp2
        go_ret
        exact ⟨rfl, GW1.out.trans (HB5.out.mono GW1.out.size)⟩
      · rw [hpl] at hpl3; cases hpl3
    · have HB2 := hid hb2
      have m0 := cellK hb2 hBW M0.out
      have m1 := cellK hb2 hBW M1.out
      clear hb2
      go_wp2_with fail
      refine (HRP.out _ HB2.out).mono ?_
      rintro e w3 hp3
      rcases hp3 with ⟨hpl3, r3, rfl, ho3, hb3⟩ | ⟨hpl3, rfl, hb3⟩
      · rw [hpl] at hpl3; cases hpl3
      · have HS := hid (same_any (.slice none 0 0) (.slice none 0 0) [] [] w3 (by simp) (by simp) (sl_nil8 _) (sl_nil8 _))
        have HB3 := hid (HB2.out.trans (hb3.mono HB2.out.size))
        unfold SamePost at HS
        simp only [decide_true] at HS
        clear hb3
        go_wp2_with fail
        refine HS.out.mono ?_
        rintro e w4 ⟨rfl, hq4⟩
        have HB4 := hid (HB3.out.trans (hq4.below _)); clear hq4
        go_wp2_with fail
        refine (lives_true _).mono ?_
        rintro e w5 ⟨rfl, hb5⟩
        have HB5 := hid (HB4.out.trans (hb5.mono HB4.out.size)); clear hb5
        go_wp2
        go_ret
        exact ⟨rfl, GW1.out.trans (HB5.out.mono GW1.out.size)⟩
end Go.Proofs.Ytafmdpnfigkbfab
