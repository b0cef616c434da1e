/- The reference's Key. -/
import Derived.Test.YtafmdpnfigkbfabQry11
namespace Go.Proofs.Ytafmdpnfigkbfab
open Go.ChangeShapes Go.WideShapes Go.ChangeAt Go.RowKit
set_option linter.unusedVariables false
set_option linter.unusedSimpArgs false

set_option maxRecDepth 100000 in
set_option maxHeartbeats 1600000 in
theorem refKey_any (v x : Value) (q : QueryX) (ps : List (List ByteArray)) (w : World) (hv : QueryV w w.heap.size v q) (hx : rdSlice 1 rdStrs w w.heap.size [x] ps) (hq : q.1.length ≤ 1000) (hp : ∀ p ∈ ps, p.length ≤ 1000) :
    Calls Try.prog 19 #[v, x] w (KeyPost (keyQ q ps) w) := by
  obtain ⟨i0, hi, hz0, hz1, hz2⟩ := info_parts info_strsQ
  obtain ⟨A1, c1, A2, c2, rfl, h1, h2⟩ := hv
  obtain ⟨hc1, hm1⟩ := h1.cap
  obtain ⟨P, cp, e, hcp, hmp⟩ := hx.open_
  simp only [List.cons.injEq, and_true] at e
  subst e
  obtain ⟨W0, hW0⟩ : ∃ W, W = w.alloc (.cells #[.slice A1 q.1.length c1, .slice A2 q.2.length c2] 30) := ⟨_, rfl⟩
  have g0 : Below w.heap.size w W0 := by rw [hW0]; exact bl1 _ _
  have z0 : W0.heap.size = w.heap.size + 1 := by rw [hW0]; simp
  have y0 : W0.cell? ⟨w.heap.size, 0, none⟩ = some (.slice A1 q.1.length c1) := by rw [hW0]; simp [go_sem]
  have HW0 := hid hW0
  have G0 := hid g0; have Y0 := hid y0
  have H1 := hid (good_ints.on h1 g0)
  have HP := hid (good_paths.on hx g0)
  have HPL := hid hp
  clear hW0 g0 h1 h2 hx hp y0
  go_enter Try.func19, Try.ntmps19
  go_wp2
  rw [← HW0.out]
  go_loopw [5, 6] (fun out i wr => KyRel q ps W0 out i wr) (fun _ i _ => q.1.length - (intOf i).toNat)
  case atStart => exact ⟨0, by omega, rfl, RowL.nil_ _ _, Below.refl _ _⟩
  case round =>
    obtain ⟨k, hk, rfl, hrow, hb⟩ := hrel
    have hs := hb.size
    have HB := hid hb; have HRW := hid hrow
    have y0 := cellK hb (by omega) Y0.out
    clear hb hrow
    by_cases hlt : k < q.1.length
    · obtain ⟨b, off, rfl, hbl, hcell, hii⟩ := ints_at H1.out hlt
      have hcw := cellK HB.out hbl hcell
      have e1 := keyN_succ q ps k
      have hln := keyN_len q ps k
      have hka : keyAt q ps k = if k < ps.length then upS (ps.getD k []) (q.1.getD k 0) else [] := rfl
      generalize q.1.getD k 0 = lv at *
      generalize keyAt q ps k = ka at *
      have E1 := hid e1
      clear e1 hcell hii
      by_cases hkp : k < ps.length
      · obtain ⟨b2, o2, AP, cP, rfl, hb2, hc2, hpp⟩ := paths_at HP.out hkp
        have hc2' := cellK HB.out hb2 hc2
        have hgd : ps.getD k [] = ps[k] := by rw [List.getD_eq_getElem?_getD, List.getElem?_eq_getElem hkp]; rfl
        have hple := HPL.out _ (List.getElem_mem hkp)
        rw [if_pos hkp, hgd] at hka
        generalize ps[k] = p at *
        have HUP := hid (fun W (hb : Below wr.heap.size wr W) => refUp_any (.slice AP p.length cP) lv p W (good_strs.on (good_strs.on hpp HB.out) hb) (by omega))
        rw [← hka] at HUP
        generalize hpl : p.length = pl at *
        have hbl2 : b < wr.heap.size := by omega
        have hb22 : b2 < wr.heap.size := by omega
        have hw0l : w.heap.size < wr.heap.size := by omega
        clear hpp hc2 hgd hka
        go_wp2
        go_region_held3 (fun w' => w'.cell? ⟨w.heap.size, 0, none⟩ = some (.slice (some ⟨b, off, none⟩) q.1.length c1) ∧ w'.cell? ⟨b, off + k, none⟩ = some (.int .i64 lv) ∧ w'.cell? ⟨b2, o2 + k, none⟩ = some (.slice AP pl cP)) (go_keep)
          (first
            | (go_at_call 22; refine (HUP.out _ (Below.refl _ _).drew).mono ?_; rintro e w2 ⟨u, rfl, hu, hb2'⟩; have HU := hid hu; have HB2 := hid ((Below.refl wr.heap.size wr).drew.trans hb2'); have z2 := HB2.out.size; obtain ⟨Au, cu, rfl, -, -, -⟩ := own_cells HU.out; have m0 := cellK HB2.out hw0l y0; have m1 := cellK HB2.out hbl2 hcw; have m2 := cellK HB2.out hb22 hc2'; clear hu hb2'))
        obtain ⟨vs, r1, r2, r3⟩ := HRW.out
        go_wp2_with (at_builtin; refine stop_here ?_)
        refine go_on ?_
        refine app_own_at (.tmp 29) (.tmp 31) 41 41 rfl rfl W0.heap.size 23 i0 (.slice none 0 0) 1 24 Try.underlying41 hi hz0 hz1 hz2 rfl (by decide) _ (keyN q ps k).length vs rfl ((own_stays r2 HB2.out).alloc _) (.slice (some ⟨w2.heap.size, 0, none⟩) 1 1) 1 [_] rfl (Src.ofSlice _ Try.underlying41 _ 1 1 _ rfl (cell_one_at' _ _ _ rfl) (by simp; rfl)) (by rw [hln]; simp only [maxLen]; omega) (by rw [hln]; omega) (by rw [World.size_alloc]; omega) ?_
        intro v' w3 ho' hg' hb3 hat
        have hrow' := RowL.app r1 r2 r3 HB2.out (show w2.ownsRow wr.heap.size 9 1 _ _ _ from HU.out) hs ho' hg' hat
        rw [← E1.out] at hrow'
        have HR' := hid hrow'
        have HB3 := hid (((HB.out.trans (HB2.out.mono hs)).alloc (by omega) _).trans hb3)
        clear ho' hg' hb3 hat hrow' r1 r2 r3
        go_wp2
        go_roundw
        case rel => exact ⟨k + 1, by omega, by go_num, HR'.out, HB3.out⟩
        case measure => simp [intOf]; omega
      · rw [if_neg hkp] at hka
        subst hka
        obtain ⟨vs, r1, r2, r3⟩ := HRW.out
        go_wp2_with (at_builtin; refine stop_here ?_)
        refine go_on ?_
        refine app_own_at (.tmp 29) (.tmp 31) 41 41 rfl rfl W0.heap.size 23 i0 (.slice none 0 0) 1 24 Try.underlying41 hi hz0 hz1 hz2 rfl (by decide) _ (keyN q ps k).length vs rfl (r2.alloc _) (.slice (some ⟨wr.heap.size, 0, none⟩) 1 1) 1 [_] rfl (Src.ofSlice _ Try.underlying41 _ 1 1 _ rfl (cell_one_at' _ _ _ rfl) (by simp; rfl)) (by rw [hln]; simp only [maxLen]; omega) (by rw [hln]; omega) (by rw [World.size_alloc]; omega) ?_
        intro v' w3 ho' hg' hb3 hat
        have hrow' := RowL.app (x := []) r1 r2 r3 (Below.refl _ _) (World.ownsRow_nil _ _ _ _) hs ho' hg' hat
        rw [← E1.out] at hrow'
        have HR' := hid hrow'
        have HB3 := hid ((HB.out.alloc hs _).trans hb3)
        clear ho' hg' hb3 hat hrow' r1 r2 r3
        go_wp2
        go_roundw
        case rel => exact ⟨k + 1, by omega, by go_num, HR'.out, HB3.out⟩
        case measure => simp [intOf]; omega
    · obtain rfl : k = q.1.length := by omega
      have hfin := HRW.out
      rw [keyN_all] at hfin
      have HF := hid (hfin.less (show w.heap.size ≤ W0.heap.size by omega))
      clear hfin HRW
      go_wp2
      go_ret
      exact ⟨_, rfl, HF.out, G0.out.trans (HB.out.mono (by omega))⟩
end Go.Proofs.Ytafmdpnfigkbfab
