/- The walk of CellOwns. -/
import Derived.Test.YtafmdpnfigkbfaaCellWalks3
import Derived.Test.YtafmdpnfigkbfaaCellOwnW
import Derived.Test.YtafmdpnfigkbfaaReadsZS
namespace Go.Proofs.Ytafmdpnfigkbfaa
open Go.ChangeShapes Go.WideShapes Go.ChangeAt Go.RowKit
set_option linter.unusedVariables false
set_option linter.unusedSimpArgs false

def rdCellZ : Rd CellX := rdPair 1 rdInt (rdPair 1 (rdSliceZ 1 8 rdInt) (rdPair 1 (rdSliceZ 1 8 rdInt) (rdSliceZ 1 8 rdInt)))
theorem opensZ_intsI : OpensZ Try.prog 24 1 (rdSliceZ 1 8 rdInt) := opensZ_slice (e := 3) good_int Try.underlying24 (opens_int Try.underlying3 (by kernel_rfl)).z (by kernel_rfl) (by omega) (by kernel_rfl)
theorem opensZ_cell : OpensZ Try.prog 26 4 rdCellZ := by
  refine opensZ_struct (k := 4) Try.underlying26 (by kernel_rfl) ?_
  exact opensFZ_cons (k2 := 3) (by rfl) (opens_int Try.underlying3 (by kernel_rfl)).z (opensFZ_cons (k2 := 2) (by rfl) opensZ_intsI (opensFZ_cons (k2 := 1) (by rfl) opensZ_intsI (opensFZ_one (by rfl) opensZ_intsI)))
theorem cellZ_of_rd {w : World} {B : Nat} {cs : Array Value} {x : CellX} (h : rdCellZ w B cs.toList x) : CellR w B (.agg cs) x.cell ∧ x.cell.s.length * 8 ≤ 140737488355328 ∧ x.cell.lo.length * 8 ≤ 140737488355328 ∧ x.cell.hi.length * 8 ≤ 140737488355328 := by
  obtain ⟨l1, h1, l2, ⟨h2, q2⟩, l3, ⟨h3, q3⟩, h4, q4⟩ := h
  unfold reachBytes at q2 q3 q4
  refine ⟨cell_of_rd ⟨l1, h1, l2, h2, l3, h3, h4⟩, ?_, ?_, ?_⟩
  · show x.2.1.length * 8 ≤ _; omega
  · show x.2.2.1.length * 8 ≤ _; omega
  · show x.2.2.2.length * 8 ≤ _; omega
def OLit (c : CellM) (w : World) (e : Ending) (w' : World) : Prop :=
  ∃ A1 c1 A2 c2 A3 c3, e = .returned (.agg #[.int .i64 c.n, .slice A1 c.s.length c1, .slice A2 c.lo.length c2, .slice A3 c.hi.length c3]) ∧
    CellR w' w'.heap.size (.agg #[.int .i64 c.n, .slice A1 c.s.length c1, .slice A2 c.lo.length c2, .slice A3 c.hi.length c3]) c ∧ Below w.heap.size w w'
theorem OwnPost.lit {c : CellM} {w : World} {e : Ending} {w' : World} (hp : OwnPost c w e w') : OLit c w e w' := by
  obtain ⟨v, rfl, ho, hb⟩ := hp
  have hr := ho.read
  obtain ⟨v1, v2, v3, rfl, s1, s2, s3⟩ := hr
  have hr := ho.read
  obtain ⟨A1, c1, rfl, -, -⟩ := s1.formI
  obtain ⟨A2, c2, rfl, -, -⟩ := s2.formI
  obtain ⟨A3, c3, rfl, -, -⟩ := s3.formI
  exact ⟨A1, c1, A2, c2, A3, c3, rfl, hr, hb⟩
def MLit (c : CellM) (k : Int) (w : World) (e : Ending) (w' : World) : Prop :=
  ∃ A1 c1 A2 c2 A3 c3, e = .returned (.tuple #[.agg #[.int .i64 c.n, .slice A1 c.s.length c1, .slice A2 c.lo.length c2, .slice A3 c.hi.length c3], .int .i64 k]) ∧
    OwnC w' w.heap.size (.agg #[.int .i64 c.n, .slice A1 c.s.length c1, .slice A2 c.lo.length c2, .slice A3 c.hi.length c3]) c ∧ Below w.heap.size w w'
theorem MOwnPost.own {r : CellM × Int} {w : World} {e : Ending} {w' : World} (hp : MOwnPost r w e w') : MLit r.1 r.2 w e w' := by
  obtain ⟨v, rfl, ho, hb⟩ := hp
  have hr := ho.read
  obtain ⟨v1, v2, v3, rfl, s1, s2, s3⟩ := hr
  obtain ⟨A1, c1, rfl, -, -⟩ := s1.formI
  obtain ⟨A2, c2, rfl, -, -⟩ := s2.formI
  obtain ⟨A3, c3, rfl, -, -⟩ := s3.formI
  exact ⟨A1, c1, A2, c2, A3, c3, rfl, ho, hb⟩
theorem OwnC.stays {w w' : World} {H : Nat} {v : Value} {c : CellM} (h : OwnC w H v c) (hb : Below w.heap.size w w') : OwnC w' H v c := by
  obtain ⟨v1, v2, v3, e, h1, h2, h3, h4⟩ := h
  exact ⟨v1, v2, v3, e, own_kept h1 (fun g hg => hb.block g (h1.lt g hg).2), own_kept h2 (fun g hg => hb.block g (h2.lt g hg).2), own_kept h3 (fun g hg => hb.block g (h3.lt g hg).2), h4⟩
set_option maxRecDepth 100000 in
set_option maxHeartbeats 3200000 in
theorem walk_CellOwns (w : World) (cs0 : Array Value) (x0 : CellX) (z0 : cs0.size = 4) (h0 : rdCellZ w w.heap.size cs0.toList x0) (cs1 : Array Value) (x1 : CellX) (z1 : cs1.size = 4) (h1 : rdCellZ w w.heap.size cs1.toList x1)
    (v : Value) (l : List (List Int)) (hl : rdSlice 1 (rdSlice 1 rdInt) w w.heap.size [v] l) :
    Calls Try.prog 8 #[.agg cs0, .agg cs1, v] w (Gives (.bool true) w) := by
  obtain ⟨hv, la⟩ := cellZ_of_rd h0
  obtain ⟨hx, lb⟩ := cellZ_of_rd h1
  generalize x0.cell = a at *
  generalize x1.cell = b at *
  clear z0 h0 z1 h1
  have hv' := hv; have hx' := hx
  obtain ⟨v1, v2, v3, e0, s1, s2, s3⟩ := hv
  obtain ⟨u1, u2, u3, e1, t1, t2, t3⟩ := hx
  rw [e0] at hv' ⊢
  rw [e1] at hx' ⊢
  clear e0 e1
  obtain ⟨A1, c1, rfl, -, -⟩ := s1.formI
  obtain ⟨A2, c2, rfl, -, -⟩ := s2.formI
  obtain ⟨A3, c3, rfl, -, -⟩ := s3.formI
  obtain ⟨X1, d1, rfl, -, -⟩ := t1.formI
  obtain ⟨X2, d2, rfl, -, -⟩ := t2.formI
  obtain ⟨X3, d3, rfl, -, -⟩ := t3.formI
  clear s1 s2 s3 t1 t2 t3
  have HFW := hid (fun W (h : Below w.heap.size w W) => few_any 10 v l W (((rdRows hl).below h).more h.size) (by omega))
  have hL := fewL_len 10 l
  generalize fewL 10 l = L at *
  clear hl
  have HRA := hid (fun W (h : Below w.heap.size w W) => ((hv'.below h).more h.size))
  have HRB := hid (fun W (h : Below w.heap.size w W) => ((hx'.below h).more h.size))
  have HOA := hid (fun W (h : Below w.heap.size w W) => (own_any _ a W ((hv'.below h).more h.size) la).mono fun _ _ hp => OwnPost.lit hp)
  have HOB := hid (fun W (h : Below w.heap.size w W) => (own_any _ b W ((hx'.below h).more h.size) lb).mono fun _ _ hp => OwnPost.lit hp)
  have HM := hid (fun W (h : Below w.heap.size w W) => (merge_any _ _ a b W ((hv'.below h).more h.size) ((hx'.below h).more h.size)).mono fun _ _ hp => MOwnPost.own hp)
  clear hv' hx' la lb
  have HFD := hid (fun v W (h : RowsI W W.heap.size v L) => (fold_any 1 v L W h (by omega)).mono fun _ _ hp => MOwnPost.own hp)
  generalize mergeC a b = r at *
  obtain ⟨⟨n, s, lo, hi⟩, rk⟩ := r
  generalize foldC 1 L = r2 at *
  obtain ⟨⟨n2, s2, lo2, hi2⟩, rk2⟩ := r2
  have hsa := fun v x W => refSameC_any v x a a W
  rw [decide_eq_true (show a = a from rfl)] at hsa
  have hsb := fun v x W => refSameC_any v x b b W
  rw [decide_eq_true (show b = b from rfl)] at hsb
  have HSA := hid hsa; have HSB := hid hsb
  clear hsa hsb
  simp only at HM HFD
  go_enter Try.func8, Try.ntmps8
  obtain ⟨W0, hW0⟩ : ∃ W, W = (w.alloc (.cells #[.int .i64 a.n, .slice A1 a.s.length c1, .slice A2 a.lo.length c2, .slice A3 a.hi.length c3] 26)).alloc (.cells #[.int .i64 b.n, .slice X1 b.s.length d1, .slice X2 b.lo.length d2, .slice X3 b.hi.length d3] 26) := ⟨_, rfl⟩
  have y0 : W0.heap.size = w.heap.size + 1 + 1 := by rw [hW0]; simp
  have ka : Blk W0 w.heap.size (.int .i64 a.n) (.slice A1 a.s.length c1) (.slice A2 a.lo.length c2) (.slice A3 a.hi.length c3) := by rw [hW0]; exact (Blk.new w _ _ _ _ _).alloc (by simp) _
  have kb : Blk W0 (w.heap.size + 1) (.int .i64 b.n) (.slice X1 b.s.length d1) (.slice X2 b.lo.length d2) (.slice X3 b.hi.length d3) := by rw [hW0]; exact Blk.new' _ _ _ _ _ (by simp)
  have g0 : Below w.heap.size w W0 := by rw [hW0]; exact (bl1 w _).alloc (by simp) _
  have KA := hid ka; have KB := hid kb; have G0 := hid g0; have HW0 := hid hW0
  clear ka kb g0 hW0
  go_wp2_with fail
  rw [← HW0.out]
  refine (HFW.out _ G0.out).mono ?_
  rintro e w1 ⟨vl, rfl, hr1, hb1⟩
  have y1 := hb1.size
  have HRL := hid hr1; have G1 := hid (G0.out.trans (hb1.mono G0.out.size)); have KA1 := hid (KA.out.below hb1 (by omega)); have KB1 := hid (KB.out.below hb1 (by omega))
  clear hb1 hr1
  obtain ⟨f0, f1, f2, f3, -, -, -, -⟩ := KA1.out
  obtain ⟨f4, f5, f6, f7, -, -, -, -⟩ := KB1.out
  go_wp2_with fail
  refine (HOA.out _ G1.out).mono ?_
  rintro e w2 ⟨B1, b1, B2, b2, B3, b3, rfl, hr2, hb2⟩
  have z2 := hb2.size
  obtain ⟨W2, hW2⟩ : ∃ W, W = w2.alloc (.cells #[.int .i64 a.n, .slice B1 a.s.length b1, .slice B2 a.lo.length b2, .slice B3 a.hi.length b3] 26) := ⟨_, rfl⟩
  have kx : Blk W2 w2.heap.size (.int .i64 a.n) (.slice B1 a.s.length b1) (.slice B2 a.lo.length b2) (.slice B3 a.hi.length b3) := by rw [hW2]; exact Blk.new _ _ _ _ _ _
  have g2 : Below w2.heap.size w2 W2 := by rw [hW2]; exact bl1 _ _
  have y2 : W2.heap.size = w2.heap.size + 1 := by rw [hW2]; simp
  have gg2 := hb2.trans (g2.mono z2)
  have KX2 := hid kx; have RX2 := hid ((hr2.below g2).more g2.size); have KA2 := hid (KA1.out.below gg2 (by omega)); have KB2 := hid (KB1.out.below gg2 (by omega)); have G2 := hid gg2
  have HW2 := hid hW2
  have fb := KB2.out
  obtain ⟨m4, m5, m6, m7, -, -, -, -⟩ := fb
  rw [hW2] at m4 m5 m6 m7
  clear hb2 hr2 kx g2 gg2 hW2 f0 f1 f2 f3 f4 f5 f6 f7
  go_wp2_with fail
  rw [← HW2.out]
  refine (HOB.out _ (G1.out.trans (G2.out.mono (by omega)))).mono ?_
  rintro e w3 ⟨C1, e1, C2, e2, C3, e3, rfl, hr3, hb3⟩
  have z3 := hb3.size
  obtain ⟨W3, hW3⟩ : ∃ W, W = w3.alloc (.cells #[.int .i64 b.n, .slice C1 b.s.length e1, .slice C2 b.lo.length e2, .slice C3 b.hi.length e3] 26) := ⟨_, rfl⟩
  have ky : Blk W3 w3.heap.size (.int .i64 b.n) (.slice C1 b.s.length e1) (.slice C2 b.lo.length e2) (.slice C3 b.hi.length e3) := by rw [hW3]; exact Blk.new _ _ _ _ _ _
  have g3 : Below w3.heap.size w3 W3 := by rw [hW3]; exact bl1 _ _
  have y3 : W3.heap.size = w3.heap.size + 1 := by rw [hW3]; simp
  have gg3 := hb3.trans (g3.mono z3)
  have KY3 := hid ky; have RY3 := hid ((hr3.below g3).more g3.size); have KA3 := hid (KA2.out.below gg3 (by omega)); have KB3 := hid (KB2.out.below gg3 (by omega)); have KX3 := hid (KX2.out.below gg3 (by omega)); have RX3 := hid ((RX2.out.below gg3).more gg3.size)
  have G3 := hid (G1.out.trans ((G2.out.trans (gg3.mono (by omega))).mono (by omega)))
  have RL3 := hid (show RowsI W3 W3.heap.size vl L from (HRL.out.below (G2.out.trans (gg3.mono (by omega)))).more (by omega))
  have HW3 := hid hW3
  have fa := KA3.out; have fb := KB3.out
  obtain ⟨n0, n1, n2', n3, -, -, -, -⟩ := fa
  obtain ⟨n4, n5, n6, n7, -, -, -, -⟩ := fb
  rw [hW3] at n0 n1 n2' n3 n4 n5 n6 n7
  clear hb3 hr3 ky g3 gg3 hW3 m4 m5 m6 m7
  go_wp2_with fail
  rw [← HW3.out]
  refine (HM.out _ G3.out).mono ?_
  rintro e w4 ⟨D1, g1, D2, g2, D3, g3, rfl, ho4, hb4⟩
  have z4 := hb4.size
  obtain ⟨W4, hW4⟩ : ∃ W, W = w4.alloc (.cells #[.int .i64 n, .slice D1 s.length g1, .slice D2 lo.length g2, .slice D3 hi.length g3] 26) := ⟨_, rfl⟩
  have bw4 : Below w4.heap.size w4 W4 := by rw [hW4]; exact bl1 _ _
  have HSP := hid (spoil_any _ _ _ W4 (ho4.stays bw4) (by have := bw4.size; omega))
  have G4 := hid (hb4.trans (bw4.mono z4))
  have HW4 := hid hW4
  clear ho4 hb4 bw4 hW4 n0 n1 n2' n3 n4 n5 n6 n7
  go_wp2_with fail
  rw [← HW4.out]
  refine HSP.out.mono ?_
  rintro e w5 ⟨rfl, hb5⟩
  have G5 := hid (G4.out.trans hb5)
  have y5 := G5.out.size
  clear hb5
  go_wp2_with fail
  refine (HFD.out _ _ ((RL3.out.below G5.out).more y5)).mono ?_
  rintro e w6 ⟨E1, q1, E2, q2, E3, q3, rfl, ho6, hb6⟩
  have z6 := hb6.size
  obtain ⟨W6, hW6⟩ : ∃ W, W = w6.alloc (.cells #[.int .i64 n2, .slice E1 s2.length q1, .slice E2 lo2.length q2, .slice E3 hi2.length q3] 26) := ⟨_, rfl⟩
  have bw6 : Below w6.heap.size w6 W6 := by rw [hW6]; exact bl1 _ _
  have HSP6 := hid (spoil_any _ _ _ W6 (ho6.stays bw6) (by have := bw6.size; omega))
  have G6 := hid (G5.out.trans ((hb6.trans (bw6.mono z6)).mono y5))
  have HW6 := hid hW6
  clear ho6 hb6 bw6 hW6
  go_wp2_with fail
  rw [← HW6.out]
  refine HSP6.out.mono ?_
  rintro e w7 ⟨rfl, hb7⟩
  have G7 := hid (G6.out.trans (hb7.mono y5))
  have y7 := G7.out.size
  clear hb7
  obtain ⟨f0, f1, f2, f3, -, -, -, -⟩ := KA3.out.below G7.out (by omega)
  obtain ⟨f4, f5, f6, f7, -, -, -, -⟩ := KX3.out.below G7.out (by omega)
  go_wp2_with fail
  refine (HSA.out _ _ _ (HRA.out _ (G3.out.trans (G7.out.mono G3.out.size))) ((RX3.out.below G7.out).more y7)).mono ?_
  rintro e w8 ⟨rfl, hb8⟩
  have G8 := hid (G7.out.trans (hb8.mono y7))
  have y8 := G8.out.size
  clear hb8 f0 f1 f2 f3 f4 f5 f6 f7
  obtain ⟨f0, f1, f2, f3, -, -, -, -⟩ := KB3.out.below G8.out (by omega)
  obtain ⟨f4, f5, f6, f7, -, -, -, -⟩ := KY3.out.below G8.out (by omega)
  go_wp2_with fail
  refine (HSB.out _ _ _ (HRB.out _ (G3.out.trans (G8.out.mono G3.out.size))) ((RY3.out.below G8.out).more y8)).mono ?_
  rintro e w9 ⟨rfl, hb9⟩
  have G9 := hid (G8.out.trans (hb9.mono y8))
  have y9 := G9.out.size
  clear hb9 f0 f1 f2 f3 f4 f5 f6 f7
  go_wp2_with fail
  refine (lives_true _).mono ?_
  rintro e w10 ⟨rfl, hb10⟩
  have G10 := hid (G9.out.trans (hb10.mono y9))
  clear hb10
  go_wp2
  go_ret
  exact ⟨rfl, G3.out.trans (G10.out.mono G3.out.size)⟩
end Go.Proofs.Ytafmdpnfigkbfaa
