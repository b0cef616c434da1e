/- The reference's Passes and Key. -/
import Derived.Test.YtafmdpnfigkbfabQry11
namespace Go.Proofs.Ytafmdpnfigkbfab
open Go.ChangeShapes Go.WideShapes Go.ChangeAt Go.RowKit
set_option linter.unusedVariables false
set_option linter.unusedSimpArgs false

def RpRel (q : QueryX) (ps : List (List ByteArray)) (W0 : World) (i : Value) (wr : World) : Prop := ∃ k : Nat, k ≤ q.2.length ∧ i = .int .i64 k ∧ (∀ j (h : j < q.2.length), j < k → passF ps q.2[j] = true) ∧ Below W0.heap.size W0 wr
def RmRel (p : List ByteArray) (ms : List (List ByteArray)) (Wf : World) (s i : Value) (wr : World) : Prop := ∃ k : Nat, k ≤ ms.length ∧ i = .int .i64 k ∧ s = .bool ((ms.take k).any fun m => underB p m) ∧ Below Wf.heap.size Wf wr
set_option maxRecDepth 100000 in
set_option maxHeartbeats 1600000 in
theorem refPasses_any (v x : Value) (q : QueryX) (ps : List (List ByteArray)) (w : World) (hv : QueryV w w.heap.size v q) (hx : rdSlice 1 rdStrs w w.heap.size [x] ps) :
    Calls Try.prog 21 #[v, x] w (Gives (.bool (passesB q ps)) w) := by
  obtain ⟨A1, c1, A2, c2, rfl, h1, h2⟩ := hv
  obtain ⟨hc2, hm2⟩ := h2.cap
  obtain ⟨P, cp, e, hcp, hmp⟩ := hx.open_
  simp only [List.cons.injEq, and_true] at e
  subst e
  obtain ⟨W0, hW0⟩ : ∃ W, W = w.alloc (.cells #[.slice A1 q.1.length c1, .slice A2 q.2.length c2] 30) := ⟨_, rfl⟩
  have g0 : Below w.heap.size w W0 := by rw [hW0]; exact bl1 _ _
  have z0 : W0.heap.size = w.heap.size + 1 := by rw [hW0]; simp
  have y1 : W0.cell? ⟨w.heap.size, 1, none⟩ = some (.slice A2 q.2.length c2) := by rw [hW0]; simp [go_sem]
  have HW0 := hid hW0
  have G0 := hid g0; have Y1 := hid y1
  have H2 := hid (good_filters.on h2 g0)
  have HP := hid (good_paths.on hx g0)
  have hall : passesB q ps = q.2.all (passF ps) := rfl
  generalize passesB q ps = res at *
  have HRES := hid hall
  clear hW0 g0 h1 h2 hx hall y1
  go_enter Try.func21, Try.ntmps21
  go_wp2
  rw [← HW0.out]
  go_loopw [5] (fun i wr => RpRel q ps W0 i wr) (fun i _ => q.2.length - (intOf i).toNat)
  case atStart => exact ⟨0, by omega, rfl, fun j h h' => by omega, Below.refl _ _⟩
  case round =>
    obtain ⟨k, hk, rfl, hall, hb⟩ := hrel
    have hs := hb.size
    have HB := hid hb; have HALL := hid hall
    have y1 := cellK hb (by omega) Y1.out
    clear hb hall
    by_cases hlt : k < q.2.length
    · obtain ⟨b, off, AM, cM, rfl, hbl, q0, q1, q2, i1, i2, hms⟩ := filters_at (good_filters.stays H2.out HB.out) hlt
      have hno := fun h => all_no (p := passF ps) hlt h
      have hyes : passF ps q.2[k] = true → ∀ j (h : j < q.2.length), j < k + 1 → passF ps q.2[j] = true := fun h j hj hjk => by
        by_cases e : j = k
        · subst e; exact h
        · exact HALL.out j hj (by omega)
      have hpf : passF ps q.2[k] = (inQ q.2[k].1 ((ps.length : Int) - 1) && q.2[k].2.2.any (fun m => underB (ps.getD q.2[k].1.toNat []) m)) := rfl
      rw [hpf] at hno hyes
      clear hpf
      generalize q.2[k] = f at *
      obtain ⟨d, lv, ms⟩ := f
      simp only at hno hyes q0 q1 q2 hms i1 i2
      obtain ⟨hcM, hmM⟩ := hms.cap
      obtain ⟨Wf, hWf⟩ : ∃ W, W = wr.alloc (.cells #[.int .i64 d, .int .i64 lv, .slice AM ms.length cM] 54) := ⟨_, rfl⟩
      have gf : Below wr.heap.size wr Wf := by rw [hWf]; exact bl1 _ _
      have zf : Wf.heap.size = wr.heap.size + 1 := by rw [hWf]; simp
      have f0 : Wf.cell? ⟨wr.heap.size, 0, none⟩ = some (.int .i64 d) := by rw [hWf]; simp [go_sem]
      have f2 : Wf.cell? ⟨wr.heap.size, 2, none⟩ = some (.slice AM ms.length cM) := by rw [hWf]; simp [go_sem]
      have HWf := hid hWf; have GF := hid gf; have F0 := hid f0; have F2 := hid f2
      have GW := hid (HB.out.trans (gf.mono hs))
      have HMS := hid (good_paths.on (good_paths.more hms hs) gf)
      have hways : (d < 0 ∧ inQ d ((ps.length : Int) - 1) = false) ∨ (0 ≤ d ∧ (ps.length : Int) ≤ d ∧ inQ d ((ps.length : Int) - 1) = false) ∨ (∃ dn : Nat, d = (dn : Int) ∧ dn < ps.length ∧ inQ d ((ps.length : Int) - 1) = true) := by
        unfold inQ
        by_cases a : d < 0
        · exact .inl ⟨a, by rw [decide_eq_false (by omega)]; rfl⟩
        · by_cases b : (ps.length : Int) ≤ d
          · exact .inr (.inl ⟨by omega, b, by rw [decide_eq_false (show ¬ d ≤ (ps.length : Int) - 1 by omega)]; simp⟩)
          · exact .inr (.inr ⟨d.toNat, by omega, by omega, by rw [decide_eq_true (show 0 ≤ d by omega), decide_eq_true (show d ≤ (ps.length : Int) - 1 by omega)]; rfl⟩)
      generalize inQ d ((ps.length : Int) - 1) = bi at *
      have HNO := hid hno; have HYES := hid hyes
      clear hWf gf hms hno hyes i1 i2
      rcases hways with ⟨a, rfl⟩ | ⟨a, a', rfl⟩ | ⟨dn, rfl, hdn, rfl⟩
      · have t1 : decide (d < 0) = true := decide_eq_true a
        have HN := hid (HNO.out (by first | rfl | trivial))
        go_wp2
        rw [← HWf.out]
        go_ret
        exact ⟨by rw [HRES.out, HN.out]; rfl, G0.out.trans (GW.out.mono (by omega))⟩
      · have t1 : decide (d < 0) = false := by rw [decide_eq_false_iff_not]; omega
        have t2 : decide ((ps.length : Int) ≤ d) = true := decide_eq_true a'
        have HN := hid (HNO.out (by first | rfl | trivial))
        go_wp2
        rw [← HWf.out]
        go_ret
        exact ⟨by rw [HRES.out, HN.out]; rfl, G0.out.trans (GW.out.mono (by omega))⟩
      · have t1 : decide ((dn : Int) < 0) = false := by rw [decide_eq_false_iff_not]; omega
        have t2 : decide ((ps.length : Int) ≤ (dn : Int)) = false := by rw [decide_eq_false_iff_not]; omega
        have t3 : ¬ ps.length ≤ dn := by omega
        obtain ⟨b2, o2, AP, cP, rfl, hb2, hcp2, hpp⟩ := paths_at HP.out hdn
        have hgd : ps.getD ((dn : Int)).toNat [] = ps[dn] := by rw [Int.toNat_natCast, List.getD_eq_getElem?_getD, List.getElem?_eq_getElem hdn]; rfl
        have hno := HNO.out; have hyes := HYES.out
        rw [hgd, Bool.true_and] at hno hyes
        generalize ps[dn] = p at *
        have HNO' := hid hno; have HYES' := hid hyes; have HPP := hid hpp
        have HCP := hid hcp2
        generalize hpl : p.length = pl at *
        clear hno hyes hgd hcp2 hpp
        obtain ⟨wo, rfl⟩ : ∃ wo : World, wo = wr := ⟨_, rfl⟩
        go_wp2
        rw [← HWf.out]
        go_loopw [7, 8] (fun s i wq => RmRel p ms Wf s i wq) (fun _ i _ => ms.length - (intOf i).toNat)
        case atStart => exact ⟨0, by omega, rfl, rfl, Below.refl _ _⟩
        case round =>
          clear f0 f2
          obtain ⟨j, hj, rfl, rfl, hb⟩ := hrel
          have hs3 := hb.size
          have HB3 := hid hb
          clear hb
          have m0 := cellK HB3.out (by omega) F0.out
          have m2 := cellK HB3.out (by omega) F2.out
          have m3 := cellK (GW.out.trans (HB3.out.mono (by omega))) hb2 HCP.out
          by_cases hjl : j < ms.length
          · obtain ⟨b3, o3, AQ, cQ, rfl, hb3, hcq, hqq⟩ := paths_at (good_paths.on HMS.out HB3.out) hjl
            have e1 := any_take_succ (p := fun m => underB p m) hjl
            generalize ms[j] = m at *
            have HUN := hid (fun W (hqw : Qu wr W) => refUnder_any (.slice AP pl cP) (.slice AQ m.length cQ) p m W (good_strs.on (good_strs.on HPP.out (GW.out.trans (HB3.out.mono (by omega)))) (hqw.below _)) (good_strs.on hqq (hqw.below _)))
            generalize (ms.take j).any (fun m => underB p m) = acc at *
            have E1 := hid e1
            generalize m.length = mn at *
            generalize underB p m = bu at *
            clear hqq e1
            go_wp2
            go_quiet (first | (go_at_call 39; exact Calls.quiet_of (HUN.out _ ⟨_, rfl⟩)))
            cases acc
            all_goals
              go_wp2
              go_roundw
              case rel => exact ⟨j + 1, by omega, by go_num, by rw [E1.out]; rfl, below_drewN HB3.out _⟩
              case measure => simp [intOf]; omega
          · have hje : (ms.take j).any (fun m => underB p m) = ms.any (fun m => underB p m) := by rw [List.take_of_length_le (by omega)]
            rw [hje]
            generalize ms.any (fun m => underB p m) = acc at *
            cases acc
            · have HN := hid (HNO'.out (by first | rfl | trivial))
              go_wp2
              go_ret
              exact ⟨by rw [HRES.out, HN.out]; rfl, G0.out.trans ((GW.out.trans (HB3.out.mono (by omega))).mono (by omega))⟩
            · go_wp2
              go_roundw
              case rel => exact ⟨k + 1, by omega, by go_num, HYES'.out (by first | rfl | trivial), GW.out.trans (HB3.out.mono (by omega))⟩
              case measure => simp [intOf]; omega
    · have hall := all_yes (p := passF ps) (l := q.2) (fun j hj => HALL.out j hj (by omega))
      have HALL' := hid hall; clear hall
      go_wp2
      go_ret
      exact ⟨by rw [HRES.out, HALL'.out]; rfl, G0.out.trans (HB.out.mono (by omega))⟩
end Go.Proofs.Ytafmdpnfigkbfab
