/- batch.Copy: facts through and through one's own. -/
import Derived.Test.YtompjcadhodapaaCRow
import Derived.Test.YtompjcadhodapaaClone
import Derived.Test.YtompjcadhodapaaBFew
import Derived.Deep.RegionLaw
namespace Go.Proofs.Ytompjcadhodapaa
open Go.ChangeShapes Go.WideShapes Go.ChangeAt Go.RowKit Go.Deep
set_option linter.unusedVariables false
set_option linter.unusedSimpArgs false

def CopyPost (M : List FactX) (w : World) (e : Ending) (w' : World) : Prop := ∃ r, e = .returned r ∧ CRow w' w.heap.size r M ∧ Below w.heap.size w w'
def CpRel (l : List FactX) (w : World) (out i : Value) (wr : World) : Prop := ∃ k : Nat, k ≤ l.length ∧ i = .int .i64 k ∧ CRow wr w.heap.size out (l.take k) ∧ Below w.heap.size w wr
def CpIn (ps : List (List ByteArray)) (N : Nat) (vv : Value) (Wg : World) (i : Value) (wq : World) : Prop :=
  ∃ (j : Nat) (pv : Value), j ≤ ps.length ∧ i = .int .i64 j ∧ wq.cell? ⟨N, 0, none⟩ = some pv ∧ wq.frozen? ⟨N, 0, none⟩ = false ∧ wq.cell? ⟨N, 1, none⟩ = some vv ∧ RowL wq (N + 1) pv (ps.take j) ∧ N < wq.heap.size ∧ Below N Wg wq
theorem RowL.app_n {w w1 w2 : World} {base n : Nat} {out v' u : Value} {M : List (List ByteArray)} {x : List ByteArray} {t : TypeId} {vs : List Value} (hn : n = M.length) (hvs : vs.length = M.length) (ho0 : w.ownsRow base 23 1 out n vs)
    (h3 : ∀ j, j < M.length → w.ownsRow base 9 1 (vs.getD j undef) (M.getD j []).length (svals (M.getD j [])) ∧ ∀ g, (vs.getD j undef).ownBlock = some g → out.ownBlock ≠ some g)
    (hb : Below w.heap.size w w1) (hu : w1.ownsRow w.heap.size 9 1 u x.length (svals x)) (hbase : base ≤ w.heap.size)
    (ho : w2.ownsRow base 23 1 v' (n + 1) (vs ++ [u])) (hg : (w1.alloc (.cells #[u] t)).grownBy w2 out.ownBlock) (hat : v'.ownBlock = out.ownBlock ∨ v'.ownBlock = some (w1.alloc (.cells #[u] t)).heap.size) : RowL w2 base v' (M ++ [x]) := by
  subst hn
  exact RowL.app hvs ho0 h3 hb hu hbase ho hg hat
theorem keepT_set {e : TypeId} {base b k : Nat} {w : World} {v : Value} (h : b < base) : KeepT e base w (w.setCell ⟨b, k, none⟩ v) := fun g cur hg _ => Below.heap_setCell _ _ _ g (by simp; omega)
theorem CRow.app_n {wa w4 : World} {base n : Nat} {out v' pv vv : Value} {M : List FactX} {f : FactX} {vs : List (Value × Value)} (hn : n = M.length) (h1 : vs.length = M.length) (h2 : wa.ownsRow base 35 2 out n (fvs vs))
    (h3 : ∀ j (h : j < M.length), RowL wa base (vs[j]'(by omega)).1 M[j].1 ∧ wa.ownsRow base 3 1 (vs[j]'(by omega)).2 M[j].2.length (ivals M[j].2))
    (hm : RowL wa base pv f.1) (hi : wa.ownsRow base 3 1 vv f.2.length (ivals f.2))
    (ho : w4.ownsRow base 35 2 v' (n + 1) (fvs vs ++ fv2 (pv, vv))) (hg : wa.grownBy w4 out.ownBlock) : CRow w4 base v' (M ++ [f]) := by
  subst hn
  exact CRow.app h1 h2 h3 hm hi ho hg
set_option maxRecDepth 100000 in
set_option maxHeartbeats 3200000 in
theorem copyB_any (v : Value) (l : List FactX) (w : World) (hv : rdSlice 2 rdFact w w.heap.size [v] l) (hl : l.length ≤ 1000) (h2 : ∀ f ∈ l, f.1.length ≤ 1000 ∧ f.2.length ≤ 1000 ∧ ∀ p ∈ f.1, p.length ≤ 1000) :
    Calls Try.prog 17 #[v] w (CopyPost l w) := by
  obtain ⟨i0, hi, hz0, hz1, hz2⟩ := info_parts info_strsQ
  obtain ⟨i1, hi', hz0', hz1', hz2'⟩ := info_parts info_fact
  obtain ⟨A, c, e, hc, hm⟩ := hv.open_
  simp only [List.cons.injEq, and_true] at e
  subst e
  have HV := hid hv; have H2 := hid h2
  clear hv h2
  go_enter Try.func17, Try.ntmps17
  go_wp2
  go_loopw [3, 11] (fun out i wr => CpRel l w out i wr) (fun _ i _ => l.length - (intOf i).toNat)
  case atStart => exact ⟨0, by omega, rfl, CRow.nil_ _ _, Below.refl _ _⟩
  case round =>
    obtain ⟨k, hk, rfl, hrow, hb⟩ := hrel
    have hs := hb.size
    have HB := hid hb; have HRW := hid hrow
    clear hb hrow
    by_cases hlt : k < l.length
    · obtain ⟨b, off, AP, cP, AV, cV, rfl, hbl, q0, q1, r0, r1⟩ := facts_at (good_facts.stays HV.out HB.out) hlt
      have e1 : l.take (k + 1) = l.take k ++ [l[k]] := List.take_succ_eq_append_getElem hlt
      have hln : k = (l.take k).length := by rw [List.length_take]; omega
      obtain ⟨hf1, hf2, hf3⟩ := H2.out _ (List.getElem_mem hlt)
      generalize l[k] = f at *
      obtain ⟨ps, ns⟩ := f
      simp only at q0 q1 r0 r1 e1 hf1 hf2 hf3
      obtain ⟨hpc, hpm⟩ := r0.cap
      obtain ⟨hnc, hnm⟩ := r1.cap
      obtain ⟨Wf, hWf⟩ : ∃ W, W = wr.alloc (.cells #[.slice AP ps.length cP, .slice AV ns.length cV] 35) := ⟨_, rfl⟩
      have gf : Below wr.heap.size wr Wf := by rw [hWf]; exact bl1 _ _
      have zf : Wf.heap.size = wr.heap.size + 1 := by rw [hWf]; simp
      have f0 : Wf.cell? ⟨wr.heap.size, 0, none⟩ = some (.slice AP ps.length cP) := by rw [hWf]; simp [go_sem]
      have f1 : Wf.cell? ⟨wr.heap.size, 1, none⟩ = some (.slice AV ns.length cV) := by rw [hWf]; simp [go_sem]
      have HCL := hid (cloneI_any (.slice AV ns.length cV) ns Wf (good_ints.on (good_ints.more r1 hs) gf) (by omega))
      have HWf := hid hWf; have GF := hid gf; have E1 := hid e1; have HLN := hid hln; have HF3 := hid hf3
      have R0 := hid (good_paths.on (good_paths.more r0 hs) gf)
      clear hWf gf e1 r0 r1 hln hf3
      obtain ⟨wo, rfl⟩ : ∃ wo : World, wo = wr := ⟨_, rfl⟩
      go_wp2_with fail
      rw [← HWf.out]
      refine HCL.out.mono ?_
      rintro e w2 ⟨u, rfl, hu, hb2⟩
      have z2 := hb2.size
      have k0 := cellK hb2 (by omega) f0
      have HU := hid hu
      obtain ⟨Au, cu, rfl, -, -, -⟩ := own_cells hu
      have R2 := hid (good_paths.on R0.out hb2)
      have B2 := hid (GF.out.trans (hb2.mono (by omega)))
      clear hu hb2 f0 f1
      obtain ⟨Wg, hWg⟩ : ∃ W, W = w2.alloc (.cells #[.slice none 0 0, .slice Au ns.length cu] 35) := ⟨_, rfl⟩
      have gg : Below w2.heap.size w2 Wg := by rw [hWg]; exact bl1 _ _
      have zg : Wg.heap.size = w2.heap.size + 1 := by rw [hWg]; simp
      have g0 : Wg.cell? ⟨w2.heap.size, 0, none⟩ = some (.slice none 0 0) := by rw [hWg]; simp [go_sem]
      have g1 : Wg.cell? ⟨w2.heap.size, 1, none⟩ = some (.slice Au ns.length cu) := by rw [hWg]; simp [go_sem]
      have g2 : Wg.frozen? ⟨w2.heap.size, 0, none⟩ = false := by rw [hWg]; simp [go_sem]
      have HWg := hid hWg; have GG := hid gg; have G0 := hid g0; have G1 := hid g1; have G2 := hid g2
      have k0' := cell_alloc (o := .cells #[.slice none 0 0, .slice Au ns.length cu] 35) (World.block_lt_of_cell? w2 _ k0) k0
      clear hWg gg g0 g1 g2
      go_wp2
      rw [← HWg.out]
      go_loopw [22] (fun i wq => CpIn ps w2.heap.size (.slice Au ns.length cu) Wg i wq) (fun i _ => ps.length - (intOf i).toNat)
      case atStart => exact ⟨0, _, by omega, rfl, G0.out, G2.out, G1.out, RowL.nil_ _ _, by omega, Below.refl _ _⟩
      case round =>
        obtain ⟨j, pv, hj, rfl, c0, y0, c1, hrp, hN, hb3⟩ := hrel
        have hs3 := hb3.size
        have HB3 := hid hb3; have HRP := hid hrp
        clear hb3 hrp
        by_cases hjl : j < ps.length
        · obtain ⟨b2, o2, AM, cM, rfl, hb2l, hc2, hp⟩ := paths_at R2.out hjl
          have hcw := cellK (GG.out.trans HB3.out) hb2l hc2
          have e2 : ps.take (j + 1) = ps.take j ++ [ps[j]] := List.take_succ_eq_append_getElem hjl
          have hlj : j = (ps.take j).length := by rw [List.length_take]; omega
          have hpl := HF3.out _ (List.getElem_mem hjl)
          generalize ps[j] = p at *
          have HCS := hid (fun W (hW : Qu wr W) => cloneS_any (.slice AM p.length cM) p W (good_strs.on (good_strs.on hp (GG.out.trans HB3.out)) ((hW.below _))) (by omega))
          obtain ⟨vs, u1, u2, u3⟩ := HRP.out
          rw [← hlj] at u2
          obtain ⟨Ap, cp, rfl⟩ := own_formB u2
          have E2 := hid e2; have HLJ := hid hlj; have U1 := hid u1; have U3 := hid u3
          clear hp hc2 e2 hlj u1 u3
          go_wp2
          go_region_law (first
            | (refine step_append_lies _ (by rfl) (.tmp 27) (.tmp 30) 33 (by rfl) (w2.heap.size + 1) 23 i0 (.slice none 0 0) 1 24 Try.underlying33 hi hz0 hz1 hz2 rfl (by omega) _ j vs (by rfl) ((own_stays u2 B5.out).alloc _) ⟨w5.heap.size, 0, none⟩ 1 1 _ (by rfl) rfl (cell_one_at' _ _ _ rfl) (by simp; rfl) (by omega) (by unfold maxLen; omega) (by omega) (by simp; omega) (w5.heap.size + 1) (by simp) ?_; intro g cap w6 ho6 hg6 hat6 hlt6; have m3 := (World.grownBy.cell_far hg6 ⟨w2.heap.size, 0, none⟩ (by simp; omega) (fun e => by have := (u2.lt _ e.symm).1; simp at this; omega)).trans (cell_alloc (by omega) m0); have m5 := (World.grownBy.frozen_far hg6 ⟨w2.heap.size, 0, none⟩ (by simp; omega) (fun e => by have := (u2.lt _ e.symm).1; simp at this; omega)).trans (frozen_alloc (by omega) m2))
            | (go_simp; go_at_call 33; refine (HCS.out _ ⟨1, rfl⟩).mono ?_; rintro e w5 ⟨u5, rfl, hu5, hb5⟩; have HU5 := hid hu5; have B5 := hid ((Below.refl wr.heap.size wr).drew.trans hb5); have z5 := B5.out.size; obtain ⟨A5, c5, rfl, -, -, -⟩ := own_cells HU5.out; have m0 := cellK B5.out hN c0; have m1 := cellK B5.out hN c1; have m2 := frozenK B5.out hN y0; have m4 := cell_alloc (o := .cells #[.slice A5 p.length c5] 23) (Nat.lt_of_lt_of_le hN z5) m0; clear hu5 hb5))
          all_goals
            have b6 : Below (w2.heap.size + 1) (w5.alloc (.cells #[.slice A5 p.length c5] 23)) w6 := (Below.refl _ _).grown hg6 (by simp; omega) (fun j hj => (u2.lt j hj).1)
            have hrow' := RowL.app_n HLJ.out U1.out u2 U3.out B5.out HU5.out (show w2.heap.size + 1 ≤ wr.heap.size by omega) ho6 hg6 (hat6.elim (fun h => .inl (by rw [h]; rfl)) (fun h => .inr (by rw [h]; simp [Value.ownBlock])))
            rw [← E2.out] at hrow'
            have m6 := cellK b6 (show w2.heap.size < w2.heap.size + 1 by omega) (cell_alloc (o := .cells #[.slice A5 p.length c5] 23) (by omega) m1)
            have z6 := b6.size
            rw [World.size_alloc] at z6
            have hnx : CpIn ps w2.heap.size (.slice Au ns.length cu) Wg (.int .i64 ((j : Int) + 1)) (w6.setCell ⟨w2.heap.size, 0, none⟩ (.slice (some ⟨g, 0, none⟩) (j + 1) cap)) :=
              ⟨j + 1, _, by omega, by go_num, cell_here m3, frozen_far m5, cell_beside (by omega) m6, hrow'.keepT (keepT_set (by omega)) (keepT_set (by omega)), by simp [World.setCell]; omega,
                (HB3.out.trans ((B5.out.mono (by omega)).trans ((((Below.refl w2.heap.size w5).alloc (by omega) _).trans (b6.mono (by omega)))))).setCell (Nat.le_refl _) _⟩
            have HNX := hid hnx
            clear ho6 hg6 hat6 hlt6 b6 hrow' hnx u2 m0 m1 m2 m3 m4 m5 m6 c0 c1 y0
            go_wp2
            go_roundw
            case rel => exact HNX.out
            case measure => simp [intOf]; omega
        · obtain rfl : j = ps.length := by omega
          have hrf := HRP.out
          rw [List.take_length] at hrf
          obtain ⟨vs0, -, u2, -⟩ := id hrf
          obtain ⟨Ap, cp, rfl⟩ := own_formB u2
          have HRF := hid hrf
          clear hrf u2 HRP k0 k0'
          obtain ⟨Wa, hWa⟩ : ∃ W, W = wr.alloc (.cells #[.slice Ap ps.length cp, .slice Au ns.length cu] 35) := ⟨_, rfl⟩
          have ba : Below wr.heap.size wr Wa := by rw [hWa]; exact bl1 _ _
          have za : Wa.heap.size = wr.heap.size + 1 := by rw [hWa]; simp
          have hall : Below wo.heap.size wo Wa := B2.out.trans ((GG.out.trans (HB3.out.trans (ba.mono (by omega)))).mono (by omega))
          have hrow := HRW.out.on hall
          have hmv := (HRF.out.stays ba).less (show w.heap.size ≤ w2.heap.size + 1 by omega)
          have hvi := own_lessQ (own_stays HU.out (GG.out.trans (HB3.out.trans (ba.mono (by omega))))) (show w.heap.size ≤ Wf.heap.size by omega)
          obtain ⟨mvs, hm1, hm2, hm3⟩ := hrow
          have hm2' := hm2
          rw [← HLN.out] at hm2'
          have HSRC := hid (show Src Try.prog 2 27 (.slice (some ⟨wr.heap.size, 0, none⟩) 1 1) 1 (fv2 (.slice Ap ps.length cp, .slice Au ns.length cu)) Wa from by
            rw [hWa]
            exact Src.ofSlice _ Try.underlying27 _ 1 1 _ rfl (cell2_new _ _ _ _ rfl) (by simp [fv2]; exact ⟨rfl, rfl⟩))
          have HWA := hid hWa; have HM3 := hid hm3; have HMV := hid hmv; have HVI := hid hvi; have HALL := hid hall
          clear hWa ba hm2 hm3 hmv hvi hall hN y0
          go_wp2_with (at_builtin; refine stop_here ?_)
          refine go_on ?_
          rw [← HWA.out]
          refine app_own_at (.tmp 34) (.tmp 36) 27 27 rfl rfl w.heap.size 35 i1 (.agg #[.slice none 0 0, .slice none 0 0]) 2 48 Try.underlying27 hi' hz0' hz1' hz2' rfl (by decide) _ k (fvs mvs) rfl hm2' (.slice (some ⟨wr.heap.size, 0, none⟩) 1 1) 1 _ rfl HSRC.out (by simp only [maxLen]; omega) (by omega) (by omega) ?_
          intro v' w7 ho' hg' hb7 hat'
          have hrow' := CRow.app_n (f := (ps, ns)) HLN.out hm1 hm2' HM3.out HMV.out HVI.out ho' hg'
          rw [← E1.out] at hrow'
          have HR' := hid hrow'
          have HB7 := hid (HB.out.trans ((HALL.out.mono hs).trans hb7))
          clear ho' hg' hb7 hat' hrow' hm2'
          go_wp2
          go_roundw
          case rel => exact ⟨k + 1, by omega, by go_num, HR'.out, HB7.out⟩
          case measure => simp [intOf]; omega
    · obtain rfl : k = l.length := by omega
      have hfin := HRW.out
      rw [List.take_length] at hfin
      have HF := hid hfin
      clear hfin HRW
      go_wp2
      go_ret
      exact ⟨_, rfl, HF.out, HB.out⟩
end Go.Proofs.Ytompjcadhodapaa
