/- 1 text of this claim, in build order. -/
import Derived.Test.YtompjcadhodapaaDoorPabepockl
import Derived.Test.YtompjcadhodapaaDoorPgjpeejfi
import Derived.Test.YtompjcadhodapaaDoorPbbmkadpj
/- The walk of the laws' few (facts). -/
namespace Go.Proofs.YtompjcadhodapaaDoor
open Go.ChangeShapes Go.WideShapes Go.ChangeAt Go.RowKit
set_option linter.unusedVariables false
set_option linter.unusedSimpArgs false

theorem info_fact : (Tryd.prog.info? 54).map (fun i => (i.zero, i.size, i.bytes)) = some (some (.agg #[.slice none 0 0, .slice none 0 0]), 2, 48) := by kernel_rfl
theorem own_formB {w : World} {base n : Nat} {e : TypeId} {sz : Nat} {v : Value} {xs : List Value} (h : w.ownsRow base e sz v n xs) : ∃ A c, v = .slice A n c := by
  rcases h.2 with ⟨rfl, rfl⟩ | ⟨g, cap, cur, rfl, _⟩
  · exact ⟨none, 0, rfl⟩
  · exact ⟨_, _, rfl⟩
theorem cell2_new (w : World) (x y : Value) (t : TypeId) {N : Nat} (hN : w.heap.size = N) : ∀ j u, [x, y][j]? = some u → (w.alloc (.cells #[x, y] t)).cell? ((⟨N, 0, none⟩ : Addr).add j) = some u := by
  subst hN
  intro j u hu
  rw [show ((⟨w.heap.size, 0, none⟩ : Addr).add j) = ⟨w.heap.size, j, none⟩ by simp [Addr.add]; exact fun h => h.symm, World.cell?_alloc_at _ _ _ _ rfl]
  rcases j with _ | _ | j <;> simp at hu <;> subst hu <;> rfl
theorem RowP.app_n {w w' : World} {base B n : Nat} {v' u : Value} {M : List (List ByteArray)} {vs : List Value} {x : List ByteArray} (hn : n = M.length) (h1 : vs.length = M.length) (h3 : ∀ j, j < M.length → rdStrs w B [vs.getD j undef] (M.getD j []))
    (hu : rdStrs w B [u] x) (hb : Below B w w') (ho : w'.ownsRow base 41 1 v' (n + 1) (vs ++ [u])) : RowP w' base B v' (M ++ [x]) := by
  subst hn
  exact RowP.app h1 h3 hu hb ho
def FbRel (l : List FactX) (B : Nat) (w : World) (out i : Value) (wr : World) : Prop := ∃ k : Nat, k ≤ (fewFs l).length ∧ i = .int .i64 k ∧ BRow wr w.heap.size B out ((fewFs l).take k) ∧ Below w.heap.size w wr
def FtIn (ks : List (List ByteArray)) (N B : Nat) (Wf : World) (i : Value) (wq : World) : Prop :=
  ∃ (j : Nat) (pv : Value), j ≤ ks.length ∧ i = .int .i64 j ∧ wq.cell? ⟨N, 0, none⟩ = some pv ∧ wq.frozen? ⟨N, 0, none⟩ = false ∧ wq.cell? ⟨N, 1, none⟩ = some (.slice none 0 0) ∧ wq.frozen? ⟨N, 1, none⟩ = false ∧ RowP wq (N + 1) B pv (ks.take j) ∧ N < wq.heap.size ∧ Below N Wf wq
def FewBPost (M : List FactX) (B : Nat) (w : World) (e : Ending) (w' : World) : Prop := ∃ r, e = .returned r ∧ BRow w' w.heap.size B r M ∧ Below w.heap.size w w'
set_option maxRecDepth 100000 in
set_option maxHeartbeats 3200000 in
theorem fewB_any (v : Value) (l : List FactX) (w : World) (B : Nat) (hB : B ≤ w.heap.size) (hv : rdSlice 2 rdFact w B [v] l) :
    Calls Tryd.prog 7 #[v] w (FewBPost (fewFs l) B w) := by
  obtain ⟨i0, hi, hz0, hz1, hz2⟩ := info_parts info_strsQ
  obtain ⟨i1, hi', hz0', hz1', hz2'⟩ := info_parts info_fact
  obtain ⟨A, c, e, hc, hm⟩ := hv.open_
  simp only [List.cons.injEq, and_true] at e
  subst e
  have HV := hid hv
  have x0 : (fewFs l).length = min 10 l.length := by simp [fewFs]
  have x1 : (fewFs l).length ≤ 10 := by omega
  have x2 : (fewFs l).length ≤ l.length := by omega
  have x3 : 10 ≤ (fewFs l).length ∨ l.length ≤ (fewFs l).length := by omega
  clear hv x0
  go_enter Tryd.func7, Tryd.ntmps7
  go_wp2
  go_loopw [3, 4] (fun out i wr => FbRel l B w out i wr) (fun _ i _ => (fewFs l).length - (intOf i).toNat)
  case atStart => exact ⟨0, by omega, rfl, BRow.nil_ _ _ _, Below.refl _ _⟩
  case round =>
    obtain ⟨k, hk, rfl, hrow, hb⟩ := hrel
    have hs := hb.size
    have HB := hid hb; have HRW := hid hrow
    clear hb hrow
    by_cases hlt : k < (fewFs l).length
    · have hl1 : k < l.length := by omega
      have hl2 : k < 10 := by omega
      have d1 : decide ((k : Int) < (l.length : Int)) = true := by rw [decide_eq_true_eq]; omega
      have d2 : decide ((k : Int) < 10) = true := by rw [decide_eq_true_eq]; omega
      obtain ⟨b, off, AP, cP, AV, cV, rfl, hbl, q0, q1, r0, r1⟩ := facts_at HV.out hl1
      have e1 : (fewFs l).take (k + 1) = (fewFs l).take k ++ [fewFt l[k]] := by
        rw [List.take_succ_eq_append_getElem hlt]; simp [fewFs]
      have hln : ((fewFs l).take k).length = k := by rw [List.length_take]; omega
      have hft : fewFt l[k] = ((l[k].1.take 5).map (fun p => p.take 5), l[k].2.take 5) := rfl
      have hkl : ((l[k].1.take 5).map (fun p => p.take 5)).length = min 5 l[k].1.length := by simp
      have hka : ∀ j (h : j < ((l[k].1.take 5).map (fun p => p.take 5)).length) (h' : j < l[k].1.length), ((l[k].1.take 5).map (fun p => p.take 5))[j] = l[k].1[j].take 5 := fun j h h' => by simp
      generalize l[k] = f at *
      obtain ⟨ps, ns⟩ := f
      simp only at q0 q1 r0 r1 hft hkl hka
      generalize (ps.take 5).map (fun p => p.take 5) = ks at *
      have x4 : ks.length ≤ 5 := by omega
      have x5 : ks.length ≤ ps.length := by omega
      have x6 : 5 ≤ ks.length ∨ ps.length ≤ ks.length := by omega
      obtain ⟨hpc, hpm⟩ := r0.cap
      obtain ⟨hnc, hnm⟩ := r1.cap
      obtain ⟨n2, hn2, rn, wn⟩ := cut_ways (m := 5) r1
      rw [hft] at e1
      obtain ⟨Wf, hWf⟩ : ∃ W, W = wr.alloc (.cells #[.slice none 0 0, .slice none 0 0] 54) := ⟨_, rfl⟩
      have gf : Below wr.heap.size wr Wf := by rw [hWf]; exact bl1 _ _
      have zf : Wf.heap.size = wr.heap.size + 1 := by rw [hWf]; simp
      have f0 : Wf.cell? ⟨wr.heap.size, 0, none⟩ = some (.slice none 0 0) := by rw [hWf]; simp [go_sem]
      have f1 : Wf.cell? ⟨wr.heap.size, 1, none⟩ = some (.slice none 0 0) := by rw [hWf]; simp [go_sem]
      have f2 : Wf.frozen? ⟨wr.heap.size, 0, none⟩ = false := by rw [hWf]; simp [go_sem]
      have f3 : Wf.frozen? ⟨wr.heap.size, 1, none⟩ = false := by rw [hWf]; simp [go_sem]
      have HWf := hid hWf; have GF := hid gf; have E1 := hid e1; have HKA := hid hka
      have R0 := hid r0; have RN := hid rn; have HN2 := hid hn2
      have F0 := hid f0; have F1 := hid f1; have F2 := hid f2; have F3 := hid f3
      have Q0 := hid q0; have Q1 := hid q1
      clear hWf gf e1 hka r0 r1 rn hn2 hft hkl f0 f1 f2 f3 q0 q1
      generalize (fewFs l).take k = M0 at *
      generalize ns.take 5 = n5 at *
      have hw0 : w.heap.size ≤ wr.heap.size := hs
      obtain ⟨wo, rfl⟩ : ∃ wo : World, wo = wr := ⟨_, rfl⟩
      go_wp2
      rw [← HWf.out]
      go_loopw [6] (fun i wq => FtIn ks wo.heap.size B Wf i wq) (fun i _ => ks.length - (intOf i).toNat)
      case atStart => exact ⟨0, _, by omega, rfl, F0.out, F2.out, F1.out, F3.out, RowP.nil_ _ _ _, by omega, Below.refl _ _⟩
      case round =>
        obtain ⟨j, pv, hj, rfl, c0, z0, c1, z1, hrp, hN, hb2⟩ := hrel
        have hs2 := hb2.size
        have BW := hid (HB.out.trans ((GF.out.mono hw0).trans (hb2.mono hw0)))
        have HB2 := hid hb2; have HRP := hid hrp
        have q0 := cellK BW.out (by omega) Q0.out
        have q1 := cellK BW.out (by omega) Q1.out
        clear hb2 hrp
        by_cases hjl : j < ks.length
        · have hj1 : j < ps.length := by omega
          have hj3 : j < 5 := by omega
          have d3 : decide ((j : Int) < (ps.length : Int)) = true := by rw [decide_eq_true_eq]; omega
          have d4 : decide ((j : Int) < 5) = true := by rw [decide_eq_true_eq]; omega
          have hR0 := R0.out
          obtain ⟨b2, o2, AM, cM, rfl, hb2l, hc2, hp⟩ := paths_at hR0 hj1
          have hcw := cellK BW.out (by omega) hc2
          have e2 : ks.take (j + 1) = ks.take j ++ [(ps[j]).take 5] := by
            rw [List.take_succ_eq_append_getElem hjl, HKA.out j hjl hj1]
          have hlj : (ks.take j).length = j := by rw [List.length_take]; omega
          generalize ps[j] = p at *
          obtain ⟨hpc', hpm'⟩ := hp.cap
          obtain ⟨n3, hn3, rp, wp⟩ := cut_ways (m := 5) hp
          generalize p.take 5 = p5 at *
          generalize hql : p.length = ql at *
          have E2 := hid e2
          have HX := hid (good_strs.stays rp (BW.out.mono hB))
          obtain ⟨vs, u1, u2, u3⟩ := HRP.out
          rw [hlj] at u2
          obtain ⟨Ap, cp, rfl⟩ := own_formB u2
          have U3 := hid u3; have HLJ := hid hlj; have U1 := hid u1
          clear hp hc2 e2 rp hR0 u3 hn3 hlj u1
          rcases wp with ⟨y, y5, rfl⟩ | ⟨y, rfl⟩
          all_goals
            go_wp2_with (at_builtin; refine stop_here ?_)
            refine go_on ?_
            refine app_own_at (.tmp 46) (.tmp 48) 51 51 rfl rfl (wo.heap.size + 1) 41 i0 (.slice none 0 0) 1 24 Tryd.underlying51 hi hz0 hz1 hz2 rfl (by decide) _ j vs rfl (u2.alloc _) (.slice (some ⟨wr.heap.size, 0, none⟩) 1 1) 1 [_] rfl (Src.ofSlice _ Tryd.underlying51 _ 1 1 _ rfl (cell_one_at' _ _ _ rfl) (by simp; rfl)) (by simp only [maxLen]; omega) (by omega) (by rw [World.size_alloc]; omega) ?_
            intro v' w3 ho' hg' hb3 hat'
            obtain ⟨A', c', rfl⟩ := own_formB ho'
            have hb4 : Below (wo.heap.size + 1) wr w3 := ((Below.refl _ _).alloc (by omega) _).trans hb3
            have hrow' := RowP.app_n HLJ.out.symm U1.out U3.out HX.out (hb4.mono (by omega)) ho'
            rw [← E2.out] at hrow'
            have t0 := cellK hb4 (by omega) c0
            have t1 := cellK hb4 (by omega) c1
            have t2 := frozenK hb4 (by omega) z0
            have t3 := frozenK hb4 (by omega) z1
            have z4 := hb4.size
            have hnx : FtIn ks wo.heap.size B Wf (.int .i64 ((j : Int) + 1)) (w3.setCell ⟨wo.heap.size, 0, none⟩ (.slice A' (j + 1) c')) :=
              ⟨j + 1, _, by omega, by go_num, cell_here t0, frozen_far t2, cell_beside (by omega) t1, frozen_far t3, hrow'.kept (Below.setCell (Below.refl _ w3) (show B ≤ wo.heap.size by omega) _) (fun g hg => Below.heap_setCell _ _ _ g (by have := (hrow'.lt g hg).1; simp; omega)), by simp [World.setCell]; omega, (HB2.out.trans (hb4.mono (by omega))).setCell (Nat.le_refl _) _⟩
            have HNX := hid hnx
            clear ho' hg' hb3 hb4 hrow' hat' hnx u2 t1 t3 c0 c1 z0 z1
            go_wp2
            go_roundw
            case rel => exact HNX.out
            case measure => simp [intOf]; omega
        · obtain rfl : j = ks.length := by omega
          have hrf := HRP.out
          rw [List.take_length] at hrf
          obtain ⟨vs0, -, u2, -⟩ := id hrf
          obtain ⟨Ap, cp, rfl⟩ := own_formB u2
          have hways : ¬ ks.length < ps.length ∨ (ks.length < ps.length ∧ ¬ ks.length < 5) := by omega
          have HRF := hid hrf
          have hN1 : wo.heap.size < wr.heap.size := hN
          clear hrf u2 hlt hk x4 x5 x6 HRP HKA F0 F1 F2 F3 hjl hj
          generalize hkn : ks.length = kn at *
          clear hkn
          rcases wn with ⟨y, y5, rfl⟩ | ⟨y, rfl⟩
          case' inl =>
            obtain ⟨vv, hvv⟩ : ∃ vv : Value, vv = .slice AV 5 cV := ⟨_, rfl⟩
            obtain ⟨Wz, hWz⟩ : ∃ W, W = (wr.setCell ⟨wo.heap.size, 1, none⟩ (.slice AV ns.length cV)).setCell ⟨wo.heap.size, 1, none⟩ (.slice AV 5 cV) := ⟨_, rfl⟩
            have g1 : (wr.setCell ⟨wo.heap.size, 1, none⟩ (.slice AV ns.length cV)).cell? ⟨wo.heap.size, 1, none⟩ = some (.slice AV ns.length cV) := cell_here c1
            have g2 : (wr.setCell ⟨wo.heap.size, 1, none⟩ (.slice AV ns.length cV)).frozen? ⟨wo.heap.size, 1, none⟩ = false := frozen_far z1
            have g3 : ((wr.setCell ⟨wo.heap.size, 1, none⟩ (.slice AV ns.length cV)).setCell ⟨wo.heap.size, 1, none⟩ (.slice AV 5 cV)).cell? ⟨wo.heap.size, 0, none⟩ = some (.slice Ap kn cp) := cell_beside (by omega) (cell_beside (by omega) c0)
            have g4 : ((wr.setCell ⟨wo.heap.size, 1, none⟩ (.slice AV ns.length cV)).setCell ⟨wo.heap.size, 1, none⟩ (.slice AV 5 cV)).cell? ⟨wo.heap.size, 1, none⟩ = some (.slice AV 5 cV) := cell_here g1
            have bz : Below wo.heap.size wr Wz := by rw [hWz]; exact Below.setCell (Below.setCell (Below.refl _ wr) (Nat.le_refl wo.heap.size) _) (Nat.le_refl wo.heap.size) _
            have zz : Wz.heap.size = wr.heap.size := by rw [hWz]; simp [World.setCell]
            have kz : ∀ g, wo.heap.size + 1 ≤ g → Wz.heap[g]? = wr.heap[g]? := fun g hg => by rw [hWz]; exact (Below.heap_setCell _ _ _ g (by simp; omega)).trans (Below.heap_setCell _ _ _ g (by simp; omega))
          case' inr =>
            obtain ⟨vv, hvv⟩ : ∃ vv : Value, vv = .slice AV ns.length cV := ⟨_, rfl⟩
            obtain ⟨Wz, hWz⟩ : ∃ W, W = wr.setCell ⟨wo.heap.size, 1, none⟩ (.slice AV ns.length cV) := ⟨_, rfl⟩
            have g3 : (wr.setCell ⟨wo.heap.size, 1, none⟩ (.slice AV ns.length cV)).cell? ⟨wo.heap.size, 0, none⟩ = some (.slice Ap kn cp) := cell_beside (by omega) c0
            have g4 : (wr.setCell ⟨wo.heap.size, 1, none⟩ (.slice AV ns.length cV)).cell? ⟨wo.heap.size, 1, none⟩ = some (.slice AV ns.length cV) := cell_here c1
            have bz : Below wo.heap.size wr Wz := by rw [hWz]; exact Below.setCell (Below.refl _ wr) (Nat.le_refl wo.heap.size) _
            have zz : Wz.heap.size = wr.heap.size := by rw [hWz]; simp [World.setCell]
            have kz : ∀ g, wo.heap.size + 1 ≤ g → Wz.heap[g]? = wr.heap[g]? := fun g hg => by rw [hWz]; exact (Below.heap_setCell _ _ _ g (by simp; omega))
          all_goals
            obtain ⟨Wa, hWa⟩ : ∃ W, W = Wz.alloc (.cells #[.slice Ap kn cp, vv] 54) := ⟨_, rfl⟩
            have ba : Below Wz.heap.size Wz Wa := by rw [hWa]; exact bl1 _ _
            have za : Wa.heap.size = wr.heap.size + 1 := by rw [hWa]; simp [zz]
            have bza : Below wo.heap.size wr Wa := bz.trans (ba.mono (by omega))
            have hall : Below wo.heap.size wo Wa := GF.out.trans (HB2.out.trans bza)
            have hrow := HRW.out.kept (hall.mono (by omega)) (fun g h1 h2 => hall.block g h2)
            have hmv := (HRF.out.kept (bza.mono (by omega)) (fun g hg => by have := HRF.out.lt g hg; exact (ba.block g (by omega)).trans (kz g (by omega)))).less (show w.heap.size ≤ wo.heap.size + 1 by omega)
            have hvi : rdInts Wa B [vv] n5 := by rw [hvv]; exact good_ints.stays RN.out ((BW.out.trans (bza.mono hw0)).mono hB)
            have hn : ∀ g, (Value.slice Ap kn cp).ownBlock = some g → u3.ownBlock ≠ some g := fun g hg e => by
              have := (HRF.out.lt g hg).1
              obtain ⟨mvs, -, h2, -⟩ := HRW.out
              have := (h2.lt g e).2
              omega
            have hone : vv.oneCell' = true := by rw [hvv]; rfl
            have HSRC := hid (show Src Tryd.prog 2 22 (.slice (some ⟨wr.heap.size, 0, none⟩) 1 1) 1 (fv2 (.slice Ap kn cp, vv)) Wa from by
              rw [hWa]
              exact Src.ofSlice _ Tryd.underlying22 _ 1 1 _ rfl (cell2_new _ _ _ _ zz) (by simp [fv2]; exact ⟨rfl, hone⟩))
            subst hvv
            have HWA := hid hWa
            rw [hWz] at hWa
            have HWA2 := hid hWa
            have HA := hid hall; have HMV := hid hmv; have HVI := hid hvi; have HN := hid hn
            obtain ⟨vs, s1, s2, s3⟩ := hrow
            obtain ⟨Ao, co, rfl⟩ := own_formB s2
            have S3 := hid s3
            have zz' := zz
            rw [hWz] at zz'
            clear hWa bza hall hmv hvi hn s3 bz ba kz HWA
            rcases hways with y1 | ⟨y1, y2⟩
            all_goals
              go_wp2_with (at_builtin; refine stop_here ?_)
              rw [← HWA2.out]
              refine go_on ?_
              refine app_own_at (.tmp 65) (.tmp 67) 22 22 rfl rfl w.heap.size 54 i1 (.agg #[.slice none 0 0, .slice none 0 0]) 2 48 Tryd.underlying22 hi' hz0' hz1' hz2' rfl (by decide) _ M0.length _ rfl s2 (.slice (some ⟨wr.heap.size, 0, none⟩) 1 1) 1 (fv2 (.slice Ap kn cp, _)) rfl HSRC.out (by rw [hln]; simp only [maxLen]; omega) (by rw [hln]; omega) (by omega) ?_
              intro v' w4 ho' hg' hb' hat'
              have hfr := BRow.app (f := (ks, n5)) s1 S3.out HMV.out HVI.out HN.out (hb'.mono hB) ho' hg' hat'
              rw [← E1.out] at hfr
              have HFR := hid hfr
              have HB4 := hid (HB.out.trans ((HA.out.mono hw0).trans hb'))
              clear hfr ho' hg' hb' hat'
              go_wp2
              go_roundw
              case rel => exact ⟨k + 1, by omega, by go_num, HFR.out, HB4.out⟩
              case measure => simp [intOf]; omega
    · have hke : k = (fewFs l).length := by omega
      have hfin := HRW.out
      rw [List.take_of_length_le (by omega)] at hfin
      have HF := hid hfin
      clear hfin HRW
      have hways : ¬ k < l.length ∨ (k < l.length ∧ ¬ k < 10) := by
        omega
      clear hlt hke hk
      rcases hways with y1 | ⟨y1, y2⟩
      · go_wp2
        go_ret
        exact ⟨_, rfl, HF.out, HB.out⟩
      · go_wp2
        go_ret
        exact ⟨_, rfl, HF.out, HB.out⟩
end Go.Proofs.YtompjcadhodapaaDoor
