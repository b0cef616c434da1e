/- 1 text of this claim, in build order. -/
import Derived.Test.YtkdpclllenbgfaaDoorPmcobkhhl
/- The walk of the laws' few. -/
namespace Go.Proofs.YtkdpclllenbgfaaDoor
open Go.ChangeShapes Go.WideShapes Go.ChangeAt Go.RowKit
set_option linter.unusedVariables false
set_option linter.unusedSimpArgs false

theorem own_form {w : World} {base n : Nat} {e : TypeId} {sz : Nat} {v : Value} {xs : List Value} (h : w.ownsRow base e sz v n xs) : ∃ A c, v = .slice A n c := by
  rcases h.2 with ⟨rfl, rfl⟩ | ⟨g, cap, cur, rfl, _⟩
  · exact ⟨none, 0, rfl⟩
  · exact ⟨_, _, rfl⟩
def FwRel (M : List FilterX) (G : Value) (C B : Nat) (W1 : World) (i : Value) (wr : World) : Prop :=
  ∃ (k : Nat) (fv : Value), k ≤ M.length ∧ i = .int .i64 k ∧ wr.cell? ⟨C, 0, none⟩ = some G ∧ wr.cell? ⟨C, 1, none⟩ = some fv ∧ wr.frozen? ⟨C, 1, none⟩ = false ∧ FRow wr (C + 1) B fv (M.take k) ∧ C < wr.heap.size ∧ Below C W1 wr
def FewQPost (q : QueryX) (B : Nat) (w : World) (e : Ending) (w' : World) : Prop :=
  ∃ A1 c1 A2 c2, e = .returned (.agg #[.slice A1 q.1.length c1, .slice A2 q.2.length c2]) ∧ rdInts w' B [.slice A1 q.1.length c1] q.1 ∧ FRow w' w.heap.size B (.slice A2 q.2.length c2) q.2 ∧ (∀ f ∈ q.2, InI64 f.1 ∧ InI64 f.2.1) ∧ Below w.heap.size w w'
theorem FRow.less {w : World} {base base' B : Nat} {fv : Value} {M : List FilterX} (h : FRow w base B fv M) (hb : base' ≤ base) : FRow w base' B fv M := by
  obtain ⟨mvs, h1, h2, h3⟩ := h
  exact ⟨mvs, h1, own_lessQ h2 hb, fun j hj => ⟨(h3 j hj).1.less hb, (h3 j hj).2⟩⟩
structure FS (w W1 : World) (P1 G : Value) : Prop where
  b : Below w.heap.size w W1
  z : W1.heap.size = w.heap.size + 1 + 1 + 1
  p1 : W1.cell? ⟨w.heap.size, 1, none⟩ = some P1
  r0 : W1.cell? ⟨w.heap.size + 1, 0, none⟩ = some (.slice none 0 0)
  r1 : W1.cell? ⟨w.heap.size + 1, 1, none⟩ = some (.slice none 0 0)
  g0 : W1.frozen? ⟨w.heap.size + 1, 0, none⟩ = false
  g1 : W1.frozen? ⟨w.heap.size + 1, 1, none⟩ = false
  o0 : W1.cell? ⟨w.heap.size + 1 + 1, 0, none⟩ = some G
  o1 : W1.cell? ⟨w.heap.size + 1 + 1, 1, none⟩ = some (.slice none 0 0)
  f1 : W1.frozen? ⟨w.heap.size + 1 + 1, 1, none⟩ = false
theorem few_start (w : World) (P0 P1 G : Value) (t : TypeId) : FS w (((w.alloc (.cells #[P0, P1] t)).alloc (.cells #[.slice none 0 0, .slice none 0 0] t)).alloc (.cells #[G, .slice none 0 0] t)) P1 G := by
  refine ⟨(((bl1 w _).alloc (by simp) _).alloc (by simp; omega) _), by simp, ?_, ?_, ?_, ?_, ?_, ?_, ?_, ?_⟩ <;> simp [go_sem]
set_option maxRecDepth 100000 in
set_option maxHeartbeats 3200000 in
theorem few_any (v : Value) (q : QueryX) (w : World) (B : Nat) (hB : B ≤ w.heap.size) (hv : QueryV w B v q) :
    Calls Tryd.prog 14 #[v] w (FewQPost (fewQ q) B w) := by
  obtain ⟨i0, hi, hz0, hz1, hz2⟩ := info_parts info_filter
  obtain ⟨A1, c1, A2, c2, rfl, h1, h2⟩ := hv
  obtain ⟨hc1, hm1⟩ := h1.cap
  obtain ⟨hc2, hm2⟩ := h2.cap
  have HQ2 := hid h2
  have hways : ((6 : Int) < (q.1.length : Int) ∧ 6 ≤ q.1.length ∧ (q.1.take 6).length = 6 ∧ rdInts w B [.slice A1 6 c1] (q.1.take 6)) ∨ (¬ (6 : Int) < (q.1.length : Int) ∧ (q.1.take 6).length = q.1.length ∧ rdInts w B [.slice A1 q.1.length c1] (q.1.take 6)) := by
    by_cases h : 6 < q.1.length
    · exact .inl ⟨by omega, by omega, by rw [List.length_take]; omega, h1.head_ (by omega)⟩
    · exact .inr ⟨by omega, by rw [List.length_take]; omega, by rw [List.take_of_length_le (by omega)]; exact h1⟩
  have HML := hid (show (fewQ q).2.length = min 5 q.2.length by simp [fewQ])
  have hm5 : (fewQ q).2.length ≤ 5 := by rw [HML.out]; omega
  have hm6 : (fewQ q).2.length ≤ q.2.length := by rw [HML.out]; omega
  have hm7 : 5 ≤ (fewQ q).2.length ∨ q.2.length ≤ (fewQ q).2.length := by rw [HML.out]; omega
  have HMA := hid (fun (k : Nat) (h : k < (fewQ q).2.length) (h' : k < q.2.length) => show (fewQ q).2[k] = fewF q.2[k] by simp [fewQ])
  have hii : ∀ f ∈ (fewQ q).2, InI64 f.1 ∧ InI64 f.2.1 := by
    intro f hf
    obtain ⟨k, hk, rfl⟩ := List.mem_iff_getElem.1 hf
    rw [HMA.out k hk (by omega)]
    obtain ⟨b, off, AM, cM, -, -, -, -, -, i1, i2, -⟩ := filters_at h2 (show k < q.2.length by omega)
    exact ⟨i1, i2⟩
  have HII := hid hii
  have hg1 : (fewQ q).1 = q.1.take 6 := rfl
  have HG1 := hid hg1
  clear h1 h2 hii hg1 HML
  generalize hqm : (fewQ q).2 = M at *
  have HQM := hid hqm
  clear hqm
  generalize hgl : q.1.take 6 = gl at *
  go_enter Tryd.func14, Tryd.ntmps14
  rcases hways with ⟨y, y6, hgn, hg⟩ | ⟨y, hgn, hg⟩
  case' inl =>
    have hGe : Value.slice A1 6 c1 = .slice A1 gl.length c1 := by rw [hgn]
    have HFS := hid (few_start w (.slice A1 q.1.length c1) (.slice A2 q.2.length c2) (.slice A1 6 c1) 32)
    have HGE := hid hGe; have HG := hid hg
    clear hGe hg hgn
    go_wp2
    generalize ((w.alloc (.cells #[.slice A1 q.1.length c1, .slice A2 q.2.length c2] 32)).alloc (.cells #[.slice none 0 0, .slice none 0 0] 32)).alloc (.cells #[.slice A1 6 c1, .slice none 0 0] 32) = W1 at *
    generalize Value.slice A1 6 c1 = G at *
  case' inr =>
    have hGe : Value.slice A1 q.1.length c1 = .slice A1 gl.length c1 := by rw [hgn]
    have HFS := hid (few_start w (.slice A1 q.1.length c1) (.slice A2 q.2.length c2) (.slice A1 q.1.length c1) 32)
    have HGE := hid hGe; have HG := hid hg
    clear hGe hg hgn
    go_wp2
    generalize ((w.alloc (.cells #[.slice A1 q.1.length c1, .slice A2 q.2.length c2] 32)).alloc (.cells #[.slice none 0 0, .slice none 0 0] 32)).alloc (.cells #[.slice A1 q.1.length c1, .slice none 0 0] 32) = W1 at *
    generalize Value.slice A1 q.1.length c1 = G at *
  all_goals
    have zW := HFS.out.z
    have HB0 := hid HFS.out.b
    have p1 := HFS.out.p1
    go_loopw [4] (fun i wr => FwRel M G (w.heap.size + 1 + 1) B W1 i wr) (fun i _ => M.length - (intOf i).toNat)
    case atStart => exact ⟨0, .slice none 0 0, by omega, rfl, HFS.out.o0, HFS.out.o1, HFS.out.f1, FRow.nil_ _ _ _, by omega, Below.refl _ _⟩
    case round =>
      obtain ⟨k, fv, hk, rfl, o0, o1, of1, hrow, hCw, hb⟩ := hrel
      have hs := hb.size
      have HB := hid hb; have HRW := hid hrow
      have p1 := cellK hb (by omega) HFS.out.p1
      clear hb hrow
      by_cases hlt : k < M.length
      · have hl1 : k < q.2.length := by omega
        have hl2 : k < 5 := by omega
        obtain ⟨b, off, AM, cM, rfl, hbl, q0, q1, q2, i1, i2, hms⟩ := filters_at HQ2.out hl1
        have BW := hid (HB0.out.trans (HB.out.mono (by omega)))
        have q0 := cellK BW.out (by omega) q0
        have q1 := cellK BW.out (by omega) q1
        have q2 := cellK BW.out (by omega) q2
        have e1 : M.take (k + 1) = M.take k ++ [fewF q.2[k]] := by rw [List.take_succ_eq_append_getElem hlt, HMA.out k hlt hl1]
        have hln : (M.take k).length = k := by rw [List.length_take]; omega
        have HMS := hid (good_paths.stays hms (BW.out.mono hB))
        generalize q.2[k] = f at *
        obtain ⟨d, lv, ms⟩ := f
        simp only at q0 q1 q2
        generalize hmn : ms.length = mn at *
        have E1 := hid e1
        clear e1 hms i1 i2
        obtain ⟨Wf, hWf⟩ : ∃ W, W = wr.alloc (.cells #[.int .i64 d, .int .i64 lv, .slice AM mn cM] 57) := ⟨_, rfl⟩
        have gf : Below wr.heap.size wr Wf := by rw [hWf]; exact bl1 _ _
        have zf : Wf.heap.size = wr.heap.size + 1 := by rw [hWf]; simp
        have f0 : Wf.cell? ⟨wr.heap.size, 0, none⟩ = some (.int .i64 d) := by rw [hWf]; simp [go_sem]
        have f1 : Wf.cell? ⟨wr.heap.size, 1, none⟩ = some (.int .i64 lv) := by rw [hWf]; simp [go_sem]
        have f2 : Wf.cell? ⟨wr.heap.size, 2, none⟩ = some (.slice AM mn cM) := by rw [hWf]; simp [go_sem]
        have f3 : Wf.frozen? ⟨wr.heap.size, 2, none⟩ = false := by rw [hWf]; simp [go_sem]
        have HWf := hid hWf; have GF := hid gf
        have HCT := hid (cut_any (.slice AM mn cM) ms Wf B (by omega) (good_paths.stays HMS.out (gf.mono (by omega))))
        clear hWf gf
        go_wp2_with fail
        rw [← HWf.out]
        refine HCT.out.mono ?_
        rintro e w2 ⟨mv, rfl, hmv, hb2⟩
        have z2 := hb2.size
        have HMV := hid hmv; have B2 := hid hb2
        have m0 := cellK hb2 (by omega) f0
        have m1 := cellK hb2 (by omega) f1
        have m2 := cellK hb2 (by omega) f2
        have m3 := frozenK hb2 (by omega) f3
        have n0 := cellK (GF.out.trans (hb2.mono (by omega))) hCw o0
        have n1 := cellK (GF.out.trans (hb2.mono (by omega))) hCw o1
        have n2 := frozenK (GF.out.trans (hb2.mono (by omega))) hCw of1
        clear hb2 hmv f0 f1 f2 f3
        obtain ⟨vs', -, hv2, -⟩ := HMV.out
        obtain ⟨Am, cm, rfl, -, -, -⟩ := own_cells hv2
        clear hv2
        generalize hcn : (cutQ ms).length = cn at *
        obtain ⟨W3, hW3⟩ : ∃ W, W = w2.setCell ⟨wr.heap.size, 2, none⟩ (.slice Am cn cm) := ⟨_, rfl⟩
        obtain ⟨Wa, hWa⟩ : ∃ W, W = W3.alloc (.cells #[.int .i64 d, .int .i64 lv, .slice Am cn cm] 57) := ⟨_, rfl⟩
        have z3 : W3.heap.size = w2.heap.size := by rw [hW3]; simp [World.setCell]
        have za : Wa.heap.size = w2.heap.size + 1 := by rw [hWa]; simp [z3]
        have k3 : ∀ g, g ≠ wr.heap.size → W3.heap[g]? = w2.heap[g]? := fun g hg => by rw [hW3]; exact Below.heap_setCell _ _ _ g (by simpa using hg)
        have ka : ∀ g, g < W3.heap.size → Wa.heap[g]? = W3.heap[g]? := fun g hg => by rw [hWa]; exact (bl1 W3 _).block g hg
        have b3 : Below wr.heap.size w2 W3 := by rw [hW3]; exact Below.setCell (Below.refl _ w2) (show wr.heap.size ≤ wr.heap.size from Nat.le_refl _) _
        have ba : Below W3.heap.size W3 Wa := by rw [hWa]; exact bl1 _ _
        have hall : Below wr.heap.size wr Wa := (GF.out.trans (B2.out.mono (by omega))).trans (b3.trans (ba.mono (by omega)))
        have hrow : FRow Wa (w.heap.size + 1 + 1 + 1) B fv (M.take k) := HRW.out.kept (hall.mono (by omega)) (fun g h1 h2 => (ka g (by omega)).trans ((k3 g (by omega)).trans ((B2.out.block g (by omega)).trans (GF.out.block g h2))))
        have hmv : RowP Wa (w.heap.size + 1 + 1 + 1) B (.slice Am cn cm) (cutQ ms) := (HMV.out.kept ((b3.trans (ba.mono (by omega))).mono (by omega)) (fun g hg => (ka g (by have := (HMV.out.lt g hg).2; omega)).trans (k3 g (by have := (HMV.out.lt g hg).1; omega)))).less (by omega)
        have hn : ∀ g, (Value.slice Am cn cm).ownBlock = some g → fv.ownBlock ≠ some g := fun g hg e => by
          have := (HMV.out.lt g hg).1
          obtain ⟨mvs, -, h2, -⟩ := HRW.out
          have := (h2.lt g e).2
          omega
        have m4 : W3.cell? ⟨wr.heap.size, 0, none⟩ = some (.int .i64 d) := by rw [hW3]; exact cell_beside (by omega) m0
        have m5 : W3.cell? ⟨wr.heap.size, 1, none⟩ = some (.int .i64 lv) := by rw [hW3]; exact cell_beside (by omega) m1
        have m6 : W3.cell? ⟨wr.heap.size, 2, none⟩ = some (.slice Am cn cm) := by rw [hW3]; exact cell_here m2
        have n3 : W3.cell? ⟨w.heap.size + 1 + 1, 0, none⟩ = some G := cellK b3 hCw n0
        have n4 : W3.cell? ⟨w.heap.size + 1 + 1, 1, none⟩ = some fv := cellK b3 hCw n1
        have n5 := frozenK b3 hCw n2
        rw [hW3] at m4 m5 m6 n3 n4
        have HWA := hid (show Wa = (w2.setCell ⟨wr.heap.size, 2, none⟩ (.slice Am cn cm)).alloc (.cells #[.int .i64 d, .int .i64 lv, .slice Am cn cm] 57) by rw [hWa, hW3])
        have HA := hid hall; have HMV' := hid hmv; have HN := hid hn
        have N3 := hid (show Wa.cell? ⟨w.heap.size + 1 + 1, 0, none⟩ = some G by rw [← hW3] at n3; exact cellK ba (by omega) n3)
        have N4 := hid (show Wa.cell? ⟨w.heap.size + 1 + 1, 1, none⟩ = some fv by rw [← hW3] at n4; exact cellK ba (by omega) n4)
        have N5 := hid (show Wa.frozen? ⟨w.heap.size + 1 + 1, 1, none⟩ = false from frozenK ba (by omega) n5)
        obtain ⟨mvs, r1, r2, r3⟩ := hrow
        have HSRC := hid (show Src Tryd.prog 3 30 (.slice (some ⟨w2.heap.size, 0, none⟩) 1 1) 1 (fval (d, lv, cutQ ms) (.slice Am cn cm)) Wa from by
          rw [hWa]
          exact Src.ofSlice _ Tryd.underlying30 _ 1 1 _ rfl (cell3_new _ _ _ _ _ z3) (by simp [fval]; exact ⟨rfl, rfl, rfl⟩))
        clear hW3 hWa k3 ka b3 ba hall hmv hn n5 n0 n1 n2 o0 o1 of1
        go_wp2_with (at_builtin; refine stop_here ?_)
        rw [← HWA.out]
        refine go_on ?_
        refine app_own_at (.tmp 38) (.tmp 40) 30 30 rfl rfl (w.heap.size + 1 + 1 + 1) 57 i0 (.agg #[.int .i64 0, .int .i64 0, .slice none 0 0]) 3 40 Tryd.underlying30 hi hz0 hz1 hz2 rfl (by decide) fv (M.take k).length _ rfl r2 (.slice (some ⟨w2.heap.size, 0, none⟩) 1 1) 1 (fval (d, lv, cutQ ms) (.slice Am cn cm)) rfl HSRC.out (by rw [hln]; simp only [maxLen]; omega) (by rw [hln]; omega) (by omega) ?_
        intro v' w4 ho' hg' hb' hat'
        have hfr := FRow.app (f := fewF (d, lv, ms)) r1 r3 HMV'.out HN.out (hb'.mono (by omega)) ho' hg' hat'
        rw [← E1.out] at hfr
        obtain ⟨A', c', rfl⟩ := own_form ho'
        have w0 := cellK hb' (by omega) N3.out
        have w1' := cellK hb' (by omega) N4.out
        have w2' := frozenK hb' (by omega) N5.out
        have z4 := hb'.size
        have hnx : FwRel M G (w.heap.size + 1 + 1) B W1 (.int .i64 ((k : Int) + 1)) (w4.setCell ⟨w.heap.size + 1 + 1, 1, none⟩ (.slice A' ((M.take k).length + 1) c')) := by
          refine ⟨k + 1, _, by omega, by go_num, cell_beside (by omega) w0, cell_here w1', frozen_far w2', hfr.kept (Below.setCell (Below.refl _ w4) (show B ≤ w.heap.size + 1 + 1 by omega) _) (fun g h1 h2 => Below.heap_setCell _ _ _ g (by simp; omega)), by simp [World.setCell]; omega, ?_⟩
          exact (HB.out.trans ((HA.out.mono (by omega)).trans (hb'.mono (by omega)))).setCell (show w.heap.size + 1 + 1 ≤ w.heap.size + 1 + 1 from Nat.le_refl _) _
        rw [hln] at hnx
        have HNX := hid hnx
        clear hfr ho' hg' hb' hat' hnx r1 r2 r3
        go_wp2
        go_roundw
        case rel => exact HNX.out
        case measure => simp [intOf]; omega
      · have hke : k = M.length := by omega
        have hfr := HRW.out
        rw [List.take_of_length_le (by omega)] at hfr
        obtain ⟨-, A', c', hfv⟩ := hfr.rows (N := wr.heap.size) (by omega) (Nat.le_refl _) HII.out
        subst hfv
        have BW := HB0.out.trans (HB.out.mono (by omega))
        obtain ⟨Ag, cg, hge⟩ : ∃ Ag cg, G = .slice Ag gl.length cg := ⟨_, _, HGE.out⟩
        have hge0 : G = .slice Ag gl.length cg := hge
        have r0 := cellK HB.out (by omega) HFS.out.r0
        have r1 := cellK HB.out (by omega) HFS.out.r1
        have g0 := frozenK HB.out (by omega) HFS.out.g0
        have g1 := frozenK HB.out (by omega) HFS.out.g1
        have bz : Below (w.heap.size + 1) wr ((wr.setCell ⟨w.heap.size + 1, 0, none⟩ G).setCell ⟨w.heap.size + 1, 1, none⟩ (.slice A' M.length c')) := Below.setCell (Below.setCell (Below.refl _ wr) (show w.heap.size + 1 ≤ w.heap.size + 1 from Nat.le_refl _) _) (show w.heap.size + 1 ≤ w.heap.size + 1 from Nat.le_refl _) _
        have bzw := BW.trans (bz.mono (by omega))
        have hfz := (hfr.kept (bz.mono (by omega)) (fun g h1 h2 => (Below.heap_setCell _ _ _ g (by simp; omega)).trans (Below.heap_setCell _ _ _ g (by simp; omega)))).less (show w.heap.size ≤ w.heap.size + 1 + 1 + 1 by omega)
        have hqv : FewQPost (fewQ q) B w (.returned (.agg #[G, .slice A' M.length c'])) ((wr.setCell ⟨w.heap.size + 1, 0, none⟩ G).setCell ⟨w.heap.size + 1, 1, none⟩ (.slice A' M.length c')) := by
          have hgz := good_ints.stays HG.out (bzw.mono hB)
          have hq2 : (fewQ q).2 = M := HQM.out
          have hq1 := HG1.out
          refine ⟨Ag, cg, A', c', by rw [hge, hq1, hq2], ?_, ?_, ?_, bzw⟩
          · rw [hq1, ← hge]; exact hgz
          · rw [hq2]; exact hfz
          · rw [hq2]; exact HII.out
        have t0 := cell_beside (u := .slice A' M.length c') (show (1 : Nat) ≠ 0 by omega) (cell_here (u := G) r0)
        have t1 := cell_here (u := .slice A' M.length c') (cell_beside (u := G) (show (0 : Nat) ≠ 1 by omega) r1)
        have HQV := hid hqv
        clear HGE
        subst hge0
        have hways : ¬ k < q.2.length ∨ (k < q.2.length ∧ ¬ k < 5) := by omega
        clear hke hlt hk hfz hqv bz bzw hge BW hfr
        rcases hways with u1 | ⟨u1, u2⟩
        · go_wp2
          exact bodyPost_ret (v := .agg #[.slice Ag gl.length cg, .slice A' M.length c']) (by simp [results, Tryd.results14, go_sem, t0, t1]; done) rfl HQV.out
        · go_wp2
          exact bodyPost_ret (v := .agg #[.slice Ag gl.length cg, .slice A' M.length c']) (by simp [results, Tryd.results14, go_sem, t0, t1]; done) rfl HQV.out
end Go.Proofs.YtkdpclllenbgfaaDoor
