/- 1 text of this claim, in build order. -/
import Derived.Test.YtkdpclllenbgfaaDoorPcohkhlaf
import Derived.Deep.LoopGhost
import Derived.ScopeJumps
import Derived.WalkMore
/- query.Passes, query.Key; rows of lists of texts. -/
namespace Go.Proofs.YtkdpclllenbgfaaDoor
open Go.ChangeShapes Go.WideShapes Go.ChangeAt Go.RowKit
set_option linter.unusedVariables false
set_option linter.unusedSimpArgs false

def PsRel (q : QueryX) (ps : List (List ByteArray)) (W0 : World) (g : Nat) (i : Value) (wr : World) : Prop := ∃ k : Nat, k + g = q.2.length ∧ i = .int .i64 k ∧ (∀ j (h : j < q.2.length), j < k → passF ps q.2[j] = true) ∧ Below W0.heap.size W0 wr
def MbRel (p : List ByteArray) (ms : List (List ByteArray)) (Wf : World) (g : Nat) (i : Value) (wr : World) : Prop := ∃ k : Nat, k + g = ms.length ∧ i = .int .i64 k ∧ (∀ j (h : j < ms.length), j < k → underB p ms[j] = false) ∧ Below Wf.heap.size Wf wr
theorem any_no {α : Type} {p : α → Bool} {l : List α} (h : ∀ j (h : j < l.length), p l[j] = false) : l.any p = false := List.any_eq_false.2 (fun x hx => by
  obtain ⟨j, hj, rfl⟩ := List.mem_iff_getElem.1 hx
  rw [h j hj]; simp)
set_option maxRecDepth 100000 in
set_option maxHeartbeats 1600000 in
theorem passes_any (v x : Value) (q : QueryX) (ps : List (List ByteArray)) (w : World) (hv : QueryV w w.heap.size v q) (hx : rdSlice 1 rdStrs w w.heap.size [x] ps) :
    Calls Tryd.prog 31 #[v, x] w (Gives (.bool (passesB q ps)) w) := by
  obtain ⟨A1, c1, A2, c2, rfl, h1, h2⟩ := hv
  obtain ⟨hc2, hm2⟩ := h2.cap
  obtain ⟨P, cp, e, hcp, hmp⟩ := hx.open_
  simp only [List.cons.injEq, and_true] at e
  subst e
  obtain ⟨W0, hW0⟩ : ∃ W, W = w.alloc (.cells #[.slice A1 q.1.length c1, .slice A2 q.2.length c2] 32) := ⟨_, rfl⟩
  have g0 : Below w.heap.size w W0 := by rw [hW0]; exact bl1 _ _
  have z0 : W0.heap.size = w.heap.size + 1 := by rw [hW0]; simp
  have y1 : W0.cell? ⟨w.heap.size, 1, none⟩ = some (.slice A2 q.2.length c2) := by rw [hW0]; simp [go_sem]
  have HW0 := hid hW0
  have G0 := hid g0; have Y1 := hid y1
  have H2 := hid (good_filters.on h2 g0)
  have HP := hid (good_paths.on hx g0)
  have hall : passesB q ps = q.2.all (passF ps) := rfl
  generalize passesB q ps = res at *
  have HRES := hid hall
  clear hW0 g0 h1 h2 hx hall
  go_enter Tryd.func31, Tryd.ntmps31
  go_wp2
  rw [← HW0.out]
  go_step3
  go_wp2
  go_step3
  go_wp2
  clear y1
  go_loopg [12] q.2.length (fun g i wr => PsRel q ps W0 g i wr)
  case atStart => exact ⟨0, by omega, rfl, fun j h h' => by omega, Below.refl _ _⟩
  case round =>
    obtain ⟨k, hk, rfl, hall, hb⟩ := hrel
    have hs := hb.size
    have HB := hid hb; have HALL := hid hall
    clear hb hall
    by_cases hlt : k < q.2.length
    · obtain ⟨b, off, AM, cM, rfl, hbl, q0, q1, q2, i1, i2, hms⟩ := filters_at (good_filters.stays H2.out HB.out) hlt
      have hno := fun h => all_no (p := passF ps) hlt h
      have hyes : passF ps q.2[k] = true → ∀ j (h : j < q.2.length), j < k + 1 → passF ps q.2[j] = true := fun h j hj hjk => by
        by_cases e : j = k
        · subst e; exact h
        · exact HALL.out j hj (by omega)
      have hpf : passF ps q.2[k] = (inQ q.2[k].1 ((ps.length : Int) - 1) && q.2[k].2.2.any (fun m => underB (ps.getD q.2[k].1.toNat []) m)) := rfl
      rw [hpf] at hno hyes
      clear hpf
      generalize q.2[k] = f at *
      obtain ⟨d, lv, ms⟩ := f
      simp only at hno hyes q0 q1 q2 hms i1 i2
      obtain ⟨hcM, hmM⟩ := hms.cap
      have HIN := hid (in_any d ((ps.length : Int) - 1))
      have t1 : IntKind.i64.wrap ((ps.length : Int) - 1) = (ps.length : Int) - 1 := IntWalk.i64_in _ (by omega)
      obtain ⟨Wf, hWf⟩ : ∃ W, W = wr.alloc (.cells #[.int .i64 d, .int .i64 lv, .slice AM ms.length cM] 57) := ⟨_, rfl⟩
      have gf : Below wr.heap.size wr Wf := by rw [hWf]; exact bl1 _ _
      have zf : Wf.heap.size = wr.heap.size + 1 := by rw [hWf]; simp
      have f0 : Wf.cell? ⟨wr.heap.size, 0, none⟩ = some (.int .i64 d) := by rw [hWf]; simp [go_sem]
      have f1 : Wf.cell? ⟨wr.heap.size, 1, none⟩ = some (.int .i64 lv) := by rw [hWf]; simp [go_sem]
      have f2 : Wf.cell? ⟨wr.heap.size, 2, none⟩ = some (.slice AM ms.length cM) := by rw [hWf]; simp [go_sem]
      have HWf := hid hWf; have GF := hid gf; have F0 := hid f0; have F2 := hid f2
      have GW := hid (HB.out.trans (gf.mono hs))
      have HMS := hid (good_paths.on (good_paths.more hms hs) gf)
      have hib : inQ d ((ps.length : Int) - 1) = true → ∃ dn : Nat, d = (dn : Int) ∧ dn < ps.length := fun h => by
        unfold inQ at h
        simp at h
        exact ⟨d.toNat, by omega, by omega⟩
      have HIB := hid hib
      generalize inQ d ((ps.length : Int) - 1) = bi at *
      have HNO := hid hno; have HYES := hid hyes
      clear hWf gf f0 f1 f2 hms hno hyes i1 i2 hib
      go_wp2_with fail
      rw [← HWf.out]
      refine (HIN.out _).mono ?_
      rintro e w2 ⟨rfl, hq2⟩
      have B2 := hid (hq2.below Wf.heap.size)
      clear hq2
      cases bi
      · have HN := hid (HNO.out (by first | rfl | trivial))
        go_wp2
        go_ret
        exact ⟨by rw [HRES.out, HN.out]; rfl, G0.out.trans ((GW.out.trans (B2.out.mono (by omega))).mono (by omega))⟩
      · obtain ⟨dn, rfl, hdn⟩ := HIB.out (by first | rfl | trivial)
        obtain ⟨b2, o2, AP, cP, rfl, hb2, hcp2, hpp⟩ := paths_at HP.out hdn
        have hgd : ps.getD ((dn : Int)).toNat [] = ps[dn] := by rw [Int.toNat_natCast, List.getD_eq_getElem?_getD, List.getElem?_eq_getElem hdn]; rfl
        have hno := HNO.out; have hyes := HYES.out
        rw [hgd, Bool.true_and] at hno hyes
        generalize ps[dn] = p at *
        have HNO' := hid hno; have HYES' := hid hyes; have HPP := hid hpp
        have HCP := hid hcp2
        generalize hpl : p.length = pl at *
        clear hno hyes hgd hcp2 hpp
        have m2 := cellK B2.out (by omega) F2.out
        go_wp2
        obtain ⟨wo, rfl⟩ : ∃ wo : World, wo = wr := ⟨_, rfl⟩
        obtain ⟨go, rfl⟩ : ∃ go : Nat, go = gk := ⟨_, rfl⟩
        go_loopg [26] ms.length (fun g i wq => MbRel p ms Wf g i wq)
        case atStart => exact ⟨0, by omega, rfl, fun j h h' => by omega, B2.out⟩
        case round =>
          clear m2
          obtain ⟨j, hj, rfl, hall, hb⟩ := hrel
          have hs3 := hb.size
          have HB3 := hid hb; have HALL3 := hid hall
          clear hb hall
          have m0 := cellK HB3.out (by omega) F0.out
          have m2 := cellK HB3.out (by omega) F2.out
          have m3 := cellK (GW.out.trans (HB3.out.mono (by omega))) hb2 HCP.out
          by_cases hjl : j < ms.length
          · obtain ⟨b3, o3, AQ, cQ, rfl, hb3, hcq, hqq⟩ := paths_at (good_paths.on HMS.out HB3.out) hjl
            have hyes3 := fun h => any_of_at (p := fun m => underB p m) hjl h
            have hstep : underB p ms[j] = false → ∀ i (h : i < ms.length), i < j + 1 → underB p ms[i] = false := fun h i hi hij => by
              by_cases e : i = j
              · subst e; exact h
              · exact HALL3.out i hi (by omega)
            generalize ms[j] = m at *
            have HUN := hid (under_any (.slice AP pl cP) (.slice AQ m.length cQ) p m wr (good_strs.on HPP.out (GW.out.trans (HB3.out.mono (by omega)))) hqq)
            generalize underB p m = bu at *
            have HY3 := hid hyes3; have HST := hid hstep
            clear hyes3 hstep hqq
            go_wp2_with fail
            refine HUN.out.mono ?_
            rintro e w3 ⟨rfl, hq3⟩
            have B4 := hid (HB3.out.trans (hq3.below _))
            have Z4 := B4.out.size
            clear hq3
            cases bu
            · go_wp2
              go_roundg (gk - 1)
              case rel => exact ⟨j + 1, by omega, by go_num, HST.out (by first | rfl | trivial), B4.out⟩
              case measure => omega
            · go_wp2
              go_roundg (go - 1)
              case rel => exact ⟨k + 1, by omega, by go_num, HYES'.out (HY3.out (by first | rfl | trivial)), GW.out.trans (B4.out.mono (by omega))⟩
              case measure => omega
          · have hn := any_no (p := fun m => underB p m) (fun i hi => HALL3.out i hi (by omega))
            have HN := hid (HNO'.out hn)
            clear hn
            go_wp2
            go_ret
            exact ⟨by rw [HRES.out, HN.out]; rfl, G0.out.trans ((GW.out.trans (HB3.out.mono (by omega))).mono (by omega))⟩
    · have hall := all_yes (p := passF ps) (l := q.2) (fun j hj => HALL.out j hj (by omega))
      have HALL' := hid hall; clear hall
      go_wp2
      go_ret
      exact ⟨by rw [HRES.out, HALL'.out]; rfl, G0.out.trans (HB.out.mono (by omega))⟩
end Go.Proofs.YtkdpclllenbgfaaDoor
