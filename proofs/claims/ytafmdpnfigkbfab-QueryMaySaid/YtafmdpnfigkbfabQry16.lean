/- The walk of QueryNeeds. -/
import Derived.Test.YtafmdpnfigkbfabQry15
import Derived.Test.YtafmdpnfigkbfabQNeed
import Derived.Deep.AppendLies
import Derived.Deep.RegionHeld3
namespace Go.Proofs.Ytafmdpnfigkbfab
open Go.ChangeShapes Go.WideShapes Go.ChangeAt Go.RowKit
set_option linter.unusedVariables false
set_option linter.unusedSimpArgs false

/-- Behind small and few: the two boxes, what lies in them. -/
structure Two (w W : World) (s : SchemaX) (q : QueryX) (S1 S2 S3 Q1 Q2 : Value) : Prop where
  lt : w.heap.size + 1 < W.heap.size
  b : Below w.heap.size w W
  s0 : W.cell? ⟨w.heap.size, 0, none⟩ = some S1
  s1 : W.cell? ⟨w.heap.size, 1, none⟩ = some S2
  s2 : W.cell? ⟨w.heap.size, 2, none⟩ = some S3
  q0 : W.cell? ⟨w.heap.size + 1, 0, none⟩ = some Q1
  q1 : W.cell? ⟨w.heap.size + 1, 1, none⟩ = some Q2
  sv : SchemaV W W.heap.size (.agg #[S1, S2, S3]) s
  qv : QueryV W W.heap.size (.agg #[Q1, Q2]) q
theorem Two.on {w W W' : World} {s : SchemaX} {q : QueryX} {S1 S2 S3 Q1 Q2 : Value} (h : Two w W s q S1 S2 S3 Q1 Q2) (hb : Below W.heap.size W W') : Two w W' s q S1 S2 S3 Q1 Q2 :=
  ⟨Nat.lt_of_lt_of_le h.lt hb.size, h.b.trans (hb.mono h.b.size), cellK hb (by have := h.lt; omega) h.s0, cellK hb (by have := h.lt; omega) h.s1, cellK hb (by have := h.lt; omega) h.s2, cellK hb h.lt h.q0, cellK hb h.lt h.q1, h.sv.on hb, h.qv.on hb⟩
def NsRel (ps : List (List ByteArray)) (nd : List Int) (w4 : World) (out i : Value) (wr : World) : Prop := ∃ k : Nat, k ≤ ps.length ∧ i = .int .i64 k ∧ RowL wr w4.heap.size out (shortN ps nd k) ∧ Below w4.heap.size w4 wr
theorem small_len (s : SchemaX) : (smallS s).1.length ≤ 6 := by unfold smallS; simp only [List.length_take]; omega
set_option maxRecDepth 100000 in
set_option maxHeartbeats 3200000 in
theorem walk_QueryNeeds (w : World) (cs0 : Array Value) (x0 : SchemaX) (z0 : cs0.size = 3) (h0 : rdSchema w w.heap.size cs0.toList x0) (cs1 : Array Value) (x1 : QueryX) (z1 : cs1.size = 2) (h1 : rdQuery w w.heap.size cs1.toList x1) (v : Value) (l : List (List ByteArray)) (hl : rdSlice 1 rdStrs w w.heap.size [v] l) :
    Calls Try.prog 5 #[.agg cs0, .agg cs1, v] w (Gives (.bool true) w) := by
  obtain ⟨i0, hi, hz0, hz1, hz2⟩ := info_parts info_strsQ
  have hs := schema_of_rd h0
  have hq := query_of_rd h1
  have hs0 := hs; have hq0 := hq
  obtain ⟨A1, c1, A2, c2, A3, c3, e, -, -, -⟩ := hs
  simp only [Value.agg.injEq] at e
  subst e
  obtain ⟨X1, d1, X2, d2, e, -, -⟩ := hq
  simp only [Value.agg.injEq] at e
  subst e
  have HSML := hid (fun W (hb : Below w.heap.size w W) => small_any _ x0 W w.heap.size hb.size (hs0.below hb))
  have HF := hid (fun W (hb : Below w.heap.size w W) => few_any _ x1 W w.heap.size hb.size (hq0.below hb))
  have HC := hid (fun W (hb : Below w.heap.size w W) => cut_any v l W w.heap.size hb.size (good_paths.stays hl hb))
  have hl6 := few_len x1
  have hsl := small_len x0
  have hcl := @cutL_mem l
  have hcl8 := cutL_len l
  have HCL := hid hcl
  have hps8 : (cutL l).length ≤ 8 := by rw [hcl8]; omega
  clear h0 h1 hs0 hq0 z0 z1 hl hcl hcl8
  generalize x0.1.length = k1 at *
  generalize x0.2.1.length = k2 at *
  generalize x0.2.2.length = k3 at *
  generalize x1.1.length = k4 at *
  generalize x1.2.length = k5 at *
  generalize fewQ x1 = q at *
  generalize smallS x0 = s at *
  generalize cutL l = ps at *
  obtain ⟨hq1, hq2⟩ := hl6
  obtain ⟨W0, hW0⟩ : ∃ W, W = (w.alloc (.cells #[.slice A1 k1 c1, .slice A2 k2 c2, .slice A3 k3 c3] 26)).alloc (.cells #[.slice X1 k4 d1, .slice X2 k5 d2] 30) := ⟨_, rfl⟩
  have g0 : Below w.heap.size w W0 := by rw [hW0]; exact (bl1 w _).alloc (by simp) _
  have z0 : W0.heap.size = w.heap.size + 1 + 1 := by rw [hW0]; simp
  have y0 : W0.cell? ⟨w.heap.size, 0, none⟩ = some (.slice A1 k1 c1) := by rw [hW0]; simp [go_sem]
  have y1 : W0.cell? ⟨w.heap.size, 1, none⟩ = some (.slice A2 k2 c2) := by rw [hW0]; simp [go_sem]
  have y2 : W0.cell? ⟨w.heap.size, 2, none⟩ = some (.slice A3 k3 c3) := by rw [hW0]; simp [go_sem]
  have y3 : W0.cell? ⟨w.heap.size + 1, 0, none⟩ = some (.slice X1 k4 d1) := by rw [hW0]; simp [go_sem]
  have y4 : W0.cell? ⟨w.heap.size + 1, 1, none⟩ = some (.slice X2 k5 d2) := by rw [hW0]; simp [go_sem]
  have f0 : W0.frozen? ⟨w.heap.size, 0, none⟩ = false := by rw [hW0]; simp [go_sem]
  have f1 : W0.frozen? ⟨w.heap.size, 1, none⟩ = false := by rw [hW0]; simp [go_sem]
  have f2 : W0.frozen? ⟨w.heap.size, 2, none⟩ = false := by rw [hW0]; simp [go_sem]
  have f3 : W0.frozen? ⟨w.heap.size + 1, 0, none⟩ = false := by rw [hW0]; simp [go_sem]
  have f4 : W0.frozen? ⟨w.heap.size + 1, 1, none⟩ = false := by rw [hW0]; simp [go_sem]
  have HW0 := hid hW0; have G0 := hid g0
  clear hW0 g0
  go_enter Try.func5, Try.ntmps5
  go_wp2_with fail
  rw [← HW0.out]
  refine (HSML.out _ G0.out).mono ?_
  rintro e w1 ⟨B1, b1, B2, b2, B3, b3, rfl, hsv, hb1⟩
  have z1 := hb1.size
  have k0 := cellK hb1 (by omega) y0
  have k1' := cellK hb1 (by omega) y1
  have k2' := cellK hb1 (by omega) y2
  have n0 := frozenK hb1 (by omega) f0
  have n1 := frozenK hb1 (by omega) f1
  have n2 := frozenK hb1 (by omega) f2
  obtain ⟨W1, hW1⟩ : ∃ W, W = ((w1.setCell ⟨w.heap.size, 0, none⟩ (.slice B1 s.1.length b1)).setCell ⟨w.heap.size, 1, none⟩ (.slice B2 s.2.1.length b2)).setCell ⟨w.heap.size, 2, none⟩ (.slice B3 s.2.2.length b3) := ⟨_, rfl⟩
  have bb1 : Below w.heap.size w1 W1 := by rw [hW1]; exact Below.setCell (Below.setCell (Below.setCell (Below.refl _ w1) (show w.heap.size ≤ w.heap.size from Nat.le_refl _) _) (show w.heap.size ≤ w.heap.size from Nat.le_refl _) _) (show w.heap.size ≤ w.heap.size from Nat.le_refl _) _
  have zW1 : W1.heap.size = w1.heap.size := by rw [hW1]; simp [World.setCell]
  have hfar : ∀ g, g ≠ w.heap.size → W1.heap[g]? = w1.heap[g]? := fun g hg => by rw [hW1]; exact (Below.heap_setCell _ _ _ g (by simp; omega)).trans ((Below.heap_setCell _ _ _ g (by simp; omega)).trans (Below.heap_setCell _ _ _ g (by simp; omega)))
  have m0 : W1.cell? ⟨w.heap.size, 0, none⟩ = some (.slice B1 s.1.length b1) := by rw [hW1]; exact cell_beside (by omega) (cell_beside (by omega) (cell_here k0))
  have m1 : W1.cell? ⟨w.heap.size, 1, none⟩ = some (.slice B2 s.2.1.length b2) := by rw [hW1]; exact cell_beside (by omega) (cell_here (cell_beside (by omega) k1'))
  have m2 : W1.cell? ⟨w.heap.size, 2, none⟩ = some (.slice B3 s.2.2.length b3) := by rw [hW1]; exact cell_here (cell_beside (by omega) (cell_beside (by omega) k2'))
  have hb01 := G0.out.trans ((hb1.mono (by omega)).trans bb1)
  have qb : W1.heap[w.heap.size + 1]? = W0.heap[w.heap.size + 1]? := (hfar _ (by omega)).trans (hb1.block _ (by omega))
  have y3' : W1.cell? ⟨w.heap.size + 1, 0, none⟩ = some (.slice X1 k4 d1) := (World.cell?_of_block (a := ⟨w.heap.size + 1, 0, none⟩) qb).trans y3
  have y4' : W1.cell? ⟨w.heap.size + 1, 1, none⟩ = some (.slice X2 k5 d2) := (World.cell?_of_block (a := ⟨w.heap.size + 1, 1, none⟩) qb).trans y4
  have f3' : W1.frozen? ⟨w.heap.size + 1, 0, none⟩ = false := (World.frozen?_of_block (a := ⟨w.heap.size + 1, 0, none⟩) qb).trans f3
  have f4' : W1.frozen? ⟨w.heap.size + 1, 1, none⟩ = false := (World.frozen?_of_block (a := ⟨w.heap.size + 1, 1, none⟩) qb).trans f4
  have q3 : w1.cell? ⟨w.heap.size + 1, 0, none⟩ = some (.slice X1 k4 d1) := cellK hb1 (by omega) y3
  have q4 : w1.cell? ⟨w.heap.size + 1, 1, none⟩ = some (.slice X2 k5 d2) := cellK hb1 (by omega) y4
  have HSV := hid (hsv.below bb1); have HW1 := hid hW1; have GW1 := hid hb01
  rw [hW1] at y3' y4'
  clear hsv hb1 bb1 hW1 hb01 qb hfar y0 y1 y2 y3 y4 f0 f1 f2 f3 f4
  go_wp2_with fail
  rw [← HW1.out]
  refine (HF.out _ GW1.out).mono ?_
  rintro e w2 ⟨F1, e1, F2, e2, rfl, hr, hf, hii, hb2⟩
  have z2 := hb2.size
  have k3' := cellK hb2 (by omega) ((congrArg (fun W => World.cell? W ⟨w.heap.size + 1, 0, none⟩) HW1.out).trans y3')
  have k4' := cellK hb2 (by omega) ((congrArg (fun W => World.cell? W ⟨w.heap.size + 1, 1, none⟩) HW1.out).trans y4')
  have n3 := frozenK hb2 (by omega) f3'
  have n4 := frozenK hb2 (by omega) f4'
  have m0' := cellK hb2 (by omega) m0
  have m1' := cellK hb2 (by omega) m1
  have m2' := cellK hb2 (by omega) m2
  obtain ⟨W2, hW2⟩ : ∃ W, W = (w2.setCell ⟨w.heap.size + 1, 0, none⟩ (.slice F1 q.1.length e1)).setCell ⟨w.heap.size + 1, 1, none⟩ (.slice F2 q.2.length e2) := ⟨_, rfl⟩
  have bb2 : Below w.heap.size w2 W2 := by rw [hW2]; exact Below.setCell (Below.setCell (Below.refl _ w2) (show w.heap.size ≤ w.heap.size + 1 by omega) _) (show w.heap.size ≤ w.heap.size + 1 by omega) _
  have zW2 : W2.heap.size = w2.heap.size := by rw [hW2]; simp [World.setCell]
  have htwo : Two w W2 s q (.slice B1 s.1.length b1) (.slice B2 s.2.1.length b2) (.slice B3 s.2.2.length b3) (.slice F1 q.1.length e1) (.slice F2 q.2.length e2) := by
    have hbw := GW1.out.trans ((hb2.mono (by omega)).trans bb2)
    refine ⟨by omega, hbw, ?_, ?_, ?_, ?_, ?_, (HSV.out.below ((hb2.mono (by omega)).trans bb2)).more hbw.size, few_v hr hf hii bb2 (fun g h1 h2 => by rw [hW2]; exact (Below.heap_setCell _ _ _ g (by simp; omega)).trans (Below.heap_setCell _ _ _ g (by simp; omega))) hbw.size⟩
    · rw [hW2]; exact cell_far (by omega) (cell_far (by omega) m0')
    · rw [hW2]; exact cell_far (by omega) (cell_far (by omega) m1')
    · rw [hW2]; exact cell_far (by omega) (cell_far (by omega) m2')
    · rw [hW2]; exact cell_beside (by omega) (cell_here k3')
    · rw [hW2]; exact cell_here (cell_beside (by omega) k4')
  have HW2 := hid hW2; have HT2 := hid htwo
  clear hr hf hii hb2 bb2 hW2 htwo y3' y4' f3' f4' m0 m1 m2 m0' m1' m2' k0 k1' k2' n0 n1 n2 q3 q4
  go_wp2_with fail
  rw [← HW2.out]
  refine (HC.out _ HT2.out.b).mono ?_
  rintro e w3 ⟨pv, rfl, hrow, hb3⟩
  have z3 := hb3.size
  have HT3 := hid (HT2.out.on hb3)
  have hpv := hrow.rows (N := w3.heap.size) (by have := HT2.out.b.size; omega) (Nat.le_refl _)
  obtain ⟨PA, pc, epv, hpc, hpm⟩ := hpv.open_
  simp only [List.cons.injEq, and_true] at epv
  subst epv
  have HPV := hid hpv
  clear hrow hb3 hpv k3' k4' n3 n4
  obtain ⟨tl, -, s0, s1, s2, q0, q1, -, -⟩ := HT3.out
  have HND := hid (need_any _ _ s q w3 HT3.out.sv HT3.out.qv (by omega) (by omega))
  have HKN := hid (fun h => need_key (s := s) (q := q) (ps := ps) h)
  have HPN := hid (fun h => need_passes (s := s) (q := q) (ps := ps) h)
  have HCN := hid (fun h => show q.1.length = s.1.length from corner_len (mayQ_yes (s := s) (q := q) h).2.2.1)
  have hnl : (needQ q).length = q.1.length := foldMax_len _ _
  generalize mayQ s q = res at *
  go_wp2_with fail
  refine HND.out.mono ?_
  rintro e w4 hp
  rcases hp with ⟨hres, r, rfl, hown, hb4⟩ | ⟨hres, rfl, hb4⟩
  case inr =>
    have t1 : (res != 0) = true := by simpa using hres
    have HB4 := hid hb4; have HT4 := hid (HT3.out.on hb4)
    clear hb4
    go_wp2_with fail
    refine (lives_true _).mono ?_
    rintro e w5 ⟨rfl, hb5⟩
    have HB5 := hid hb5; clear hb5
    go_wp2
    go_ret
    exact ⟨rfl, HT4.out.b.trans (HB5.out.mono HT4.out.b.size)⟩
  case inl =>
    subst hres
    have HT4 := hid (HT3.out.on hb4); have HPV4 := hid (good_paths.on HPV.out hb4)
    obtain ⟨An, cn, rfl, hcn, hmn, -⟩ := own_cells hown
    have HOWN := hid hown
    clear hown hb4 s0 s1 s2 q0 q1
    obtain ⟨tl, -, s0, s1, s2, q0, q1, -, -⟩ := HT4.out
    have hsl4 := HCN.out (by first | rfl | trivial)
    by_cases hps : ps.length = s.1.length
    case neg =>
      have t1 : ((ps.length : Int) != (s.1.length : Int)) = true := by simp; omega
      go_wp2_with fail
      refine (lives_true _).mono ?_
      rintro e w5 ⟨rfl, hb5⟩
      have HB5 := hid hb5; clear hb5
      go_wp2
      go_ret
      exact ⟨rfl, HT4.out.b.trans (HB5.out.mono HT4.out.b.size)⟩
    case pos =>
      have t1 : ((ps.length : Int) != (s.1.length : Int)) = false := by simp [hps]
      have t2 : (((needQ q).length : Int) != (ps.length : Int)) = false := by rw [hnl, hps, hsl4]; simp
      have hK := HKN.out (by first | rfl | trivial)
      have hP := HPN.out (by first | rfl | trivial) hps
      have hnp : (needQ q).length = ps.length := by omega
      generalize needQ q = nd at *
      generalize hnn : nd.length = nn at *
      have HNN := hid hnn
      clear hnn
      have HNP := hid hnp; have HPS := hid hps
      clear hps hsl4 hnl hnp
      go_wp2
      go_loopw [9, 10] (fun out i wr => NsRel ps nd w4 out i wr) (fun _ i _ => ps.length - (intOf i).toNat)
      case atStart => exact ⟨0, by omega, rfl, RowL.nil_ _ _, Below.refl _ _⟩
      case round =>
        obtain ⟨k, hk, rfl, hrow, hb⟩ := hrel
        have hs := hb.size
        have HB := hid hb; have HRW := hid hrow
        clear hb hrow
        by_cases hlt : k < ps.length
        · obtain ⟨b2, o2, AP, cP, rfl, hb2, hc2, hpp⟩ := paths_at HPV4.out hlt
          obtain ⟨A', c', e', -, -, h3⟩ := own_cells HOWN.out
          injection e' with e1' _ e3'
          subst e1'
          subst e3'
          obtain ⟨gn, rfl, -, hgn, -⟩ := h3 (by have := HNP.out; omega)
          have hcn2 := HOWN.out.cellAt (g := gn) k (by have := HNP.out; omega)
          have hgn2 : (ivals nd)[k]? = some (.int .i64 (nd.getD k 0)) := by
            have := HNN.out; have := HNP.out
            simp [ivals, List.getElem?_eq_getElem (show k < nd.length by omega)]
          have g1 := cellK HB.out hb2 hc2
          have g2 := cellK HB.out hgn (hcn2.trans hgn2)
          have hgd : ps.getD k [] = ps[k] := by rw [List.getD_eq_getElem?_getD, List.getElem?_eq_getElem hlt]; rfl
          have e1 := shortN_succ ps nd k
          have hln := shortN_len ps nd k
          rw [hgd] at e1
          have hple := HCL.out _ (List.getElem_mem hlt)
          have t3 : (0 : Int) ≤ (k : Int) := by omega
          have t4 : (k : Int) < (nn : Int) := by have := HNP.out; omega
          have t5 : (k : Int) < (ps.length : Int) := by omega
          generalize ps[k] = p at *
          generalize nd.getD k 0 = lv at *
          have HUP := hid (fun W (hb : Below wr.heap.size wr W) => refUp_any (.slice AP p.length cP) lv p W (good_strs.on (good_strs.on hpp HB.out) hb) (by omega))
          generalize upS p lv = u0 at *
          generalize hpl : p.length = pl at *
          have hb22 : b2 < wr.heap.size := by omega
          have hgn3 : gn < wr.heap.size := by omega
          have E1 := hid e1
          clear hpp hc2 hgd hcn2 hgn2 e1 h3
          obtain ⟨vs, r1, r2, r3⟩ := HRW.out
          obtain ⟨As, cs', hse⟩ := own_form r2
          subst hse
          rw [hln] at r2
          go_wp2
          go_region_held3 (fun w' => w'.cell? ⟨b2, o2 + k, none⟩ = some (.slice AP pl cP) ∧ w'.cell? ⟨gn, k, none⟩ = some (.int .i64 lv)) (go_keep)
            (first
              | (go_at_call 22; refine (HUP.out _ (Below.refl _ _).drew).mono ?_; rintro e w5 ⟨u, rfl, hu, hb5⟩; have HU := hid hu; have B5 := hid ((Below.refl wr.heap.size wr).drew.trans hb5); have z5 := B5.out.size; obtain ⟨Au, cu, rfl, -, -, -⟩ := own_cells HU.out; have m0 := cellK B5.out hb22 g1; have m1 := cellK B5.out hgn3 g2; clear hu hb5)
              | (refine step_append_lies _ (by rfl) (.tmp 60) (.tmp 70) 41 (by rfl) w4.heap.size 23 i0 (.slice none 0 0) 1 24 Try.underlying41 hi hz0 hz1 hz2 rfl (by omega) _ k vs (by rfl) ((own_stays r2 B5.out).alloc _) ⟨w5.heap.size, 0, none⟩ 1 1 [.slice Au u0.length cu] (by rfl) rfl (cell_one_at' _ _ _ rfl) (by simp; rfl) (by omega) (by unfold maxLen; omega) (by omega) (by simp; omega) (w5.heap.size + 1) (by simp) ?_; intro g cap w6 ho6 hg6 hat6 hlt6; have b6 : Below w4.heap.size (w5.alloc (.cells #[.slice Au u0.length cu] 23)) w6 := (Below.refl _ _).grown hg6 (by simp; omega) (fun j hj => (r2.lt j hj).1); have m2 := cellK b6 hb2 (cell_alloc (o := .cells #[.slice Au u0.length cu] 23) (by omega) m0); have m3 := cellK b6 hgn (cell_alloc (o := .cells #[.slice Au u0.length cu] 23) (by omega) m1)))
          have hrow' := RowL.app (x := u0) r1 (by rw [hln]; exact r2) r3 B5.out HU.out hs (by rw [hln]; exact ho6) (by rw [hln]; exact hg6) (hat6.elim (fun h => .inl (by rw [hln, h]; rfl)) (fun h => .inr (by rw [h]; simp [Value.ownBlock])))
          rw [← E1.out] at hrow'
          have HR' := hid hrow'
          have HB' := hid ((HB.out.trans (B5.out.mono hs)).trans (((Below.refl w4.heap.size w5).alloc (by omega) _).trans b6))
          clear hrow' ho6 hg6 hat6 hlt6 b6 r1 r2 r3
          go_wp2
          go_roundw
          case rel => exact ⟨k + 1, by omega, by go_num, HR'.out, HB'.out⟩
          case measure => simp [intOf]; omega
        · have hke : k = ps.length := by omega
          subst hke
          have HTR := hid (HT4.out.on HB.out)
          have HPR := hid (good_paths.on HPV4.out HB.out)
          have HS5 := hid (paths_sz HPR.out)
          have HROWS := hid (HRW.out.rows (fun p hp s hs => by
            unfold shortN at hp
            obtain ⟨i, hi, rfl⟩ := List.mem_map.1 hp
            rw [List.mem_range] at hi
            unfold upS at hs
            refine HS5.out (ps.getD i []) ?_ s (List.mem_of_mem_take hs)
            rw [List.getD_eq_getElem?_getD, List.getElem?_eq_getElem hi]; exact List.getElem_mem hi))
          have hsh : ∀ p ∈ shortN ps nd ps.length, p.length ≤ 1000 := fun p hp => by
            unfold shortN at hp
            obtain ⟨i, hi, rfl⟩ := List.mem_map.1 hp
            rw [List.mem_range] at hi
            unfold upS
            have := HCL.out (ps.getD i []) (by rw [List.getD_eq_getElem?_getD, List.getElem?_eq_getElem hi]; exact List.getElem_mem hi)
            rw [List.length_take]; omega
          have HKS := hid (key_sz (q := q) HS5.out)
          have HK1 := hid (fun W (hb : Below wr.heap.size wr W) => key_any _ _ q ps W (HTR.out.qv.on hb) (good_paths.on HPR.out hb) (by omega) (fun p hp => by have := HCL.out p hp; omega))
          have HK2 := hid (fun W (hb : Below wr.heap.size wr W) => by
            have := key_any _ _ q (shortN ps nd ps.length) W (HTR.out.qv.on hb) (good_paths.on HROWS.out hb) (by omega) hsh
            rwa [hK] at this)
          have hsm := fun v x W => samePaths_any v x (keyQ q ps) (keyQ q ps) W
          rw [decide_eq_true (show keyQ q ps = keyQ q ps from rfl)] at hsm
          have HSM := hid hsm
          have HP1 := hid (fun W (hb : Below wr.heap.size wr W) => passes_any _ _ q ps W (HTR.out.qv.on hb) (good_paths.on HPR.out hb))
          have HP2 := hid (fun W (hb : Below wr.heap.size wr W) => by
            have := passes_any _ _ q (shortN ps nd ps.length) W (HTR.out.qv.on hb) (good_paths.on HROWS.out hb)
            rwa [hP] at this)
          clear hsm hsh hK hP
          generalize keyQ q ps = ky at *
          generalize passesB q ps = pb at *
          have tpb : (pb == pb) = true := by simp
          clear s0 s1 s2 q0 q1 tl
          obtain ⟨tl, -, s0, s1, s2, q0, q1, -, -⟩ := HTR.out
          have Q0 := hid q0; have Q1 := hid q1
          obtain ⟨vs, r1, r2, -⟩ := HRW.out
          obtain ⟨As, cs', hse⟩ := own_form r2
          subst hse
          clear r1 r2
          go_wp2
          go_region_held3 (fun w' => w'.cell? ⟨w.heap.size + 1, 0, none⟩ = some (.slice F1 q.1.length e1) ∧ w'.cell? ⟨w.heap.size + 1, 1, none⟩ = some (.slice F2 q.2.length e2)) (go_keep)
            (first
              | (go_at_call_of 18 (Value.slice PA ps.length pc); refine (HK1.out _ (Below.refl _ _).drew).mono ?_; rintro e w5 ⟨r3, rfl, hr3, hb3⟩; have B3 := hid ((Below.refl wr.heap.size wr).drew.trans hb3); have R3 := hid (hr3.rows HKS.out); have m2 := cellK B3.out tl Q0.out; have m3 := cellK B3.out tl Q1.out; clear hr3 hb3)
              | (go_at_call 18; refine (HK2.out _ B3.out).mono ?_; rintro e w6 ⟨r4, rfl, hr4, hb4⟩; have B4 := hid (B3.out.trans (hb4.mono B3.out.size)); have B34 := hid hb4; have R4 := hid (hr4.rows HKS.out); have m4 := cellK B4.out tl Q0.out; have m5 := cellK B4.out tl Q1.out; clear hr4 hb4)
              | (go_at_call 17; refine (HSM.out _ _ _ (good_paths.on R3.out B34.out) R4.out).mono ?_; rintro e w7 ⟨rfl, hq5⟩; have B5 := hid (B4.out.trans (hq5.below _)); have m6 := cellK B5.out tl Q0.out; have m7 := cellK B5.out tl Q1.out; clear hq5))
          go_wp2
          go_region_held3 (fun w' => w'.cell? ⟨w.heap.size + 1, 0, none⟩ = some (.slice F1 q.1.length e1) ∧ w'.cell? ⟨w.heap.size + 1, 1, none⟩ = some (.slice F2 q.2.length e2)) (go_keep)
            (first
              | (go_at_call_of 20 (Value.slice PA ps.length pc); refine (HP1.out _ B5.out.drew).mono ?_; rintro e w8 ⟨rfl, hb6⟩; have B6 := hid (B5.out.trans ((Below.refl w7.heap.size w7).drew.trans hb6 |>.mono B5.out.size)); have m8 := cellK B6.out tl Q0.out; have m9 := cellK B6.out tl Q1.out; clear hb6)
              | (go_at_call 20; refine (HP2.out _ B6.out).mono ?_; rintro e w9 ⟨rfl, hb7⟩; have B7 := hid (B6.out.trans (hb7.mono B6.out.size)); have m10 := cellK B7.out tl Q0.out; have m11 := cellK B7.out tl Q1.out; clear hb7)
              | (go_at_call 13; refine (lives_true _).mono ?_; rintro e w10 ⟨rfl, hb8⟩; have B8 := hid (B7.out.trans (hb8.mono B7.out.size)); have m12 := cellK B8.out tl Q0.out; have m13 := cellK B8.out tl Q1.out; clear hb8))
          go_wp2
          go_ret
          exact ⟨rfl, HTR.out.b.trans (B8.out.mono HTR.out.b.size)⟩
end Go.Proofs.Ytafmdpnfigkbfab
