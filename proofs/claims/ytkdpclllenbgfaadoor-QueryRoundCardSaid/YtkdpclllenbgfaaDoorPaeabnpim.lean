/- 1 text of this claim, in build order. -/
import Derived.Test.YtkdpclllenbgfaaDoorPjempimgf
import Derived.Test.YtkdpclllenbgfaaDoorPjdhcoian
import Derived.Test.YtkdpclllenbgfaaDoorPpdfpbdmb
/- The reference's Same of queries (layer 12). -/
namespace Go.Proofs.YtkdpclllenbgfaaDoor
open Go.ChangeShapes Go.WideShapes Go.ChangeAt Go.RowKit
set_option linter.unusedVariables false
set_option linter.unusedSimpArgs false

def SameQPost (l r : QueryX) (w : World) (e : Ending) (w' : World) : Prop := e = .returned (.bool (decide (l = r))) ∧ Below w.heap.size w w'
set_option maxRecDepth 100000 in
set_option maxHeartbeats 1600000 in
theorem sameQ_any (v x : Value) (l r : QueryX) (w : World) (hv : QueryV w w.heap.size v l) (hx : QueryV w w.heap.size x r) :
    Calls Tryd.prog 8 #[v, x] w (SameQPost l r w) := by
  obtain ⟨A1, c1, A2, c2, rfl, h1, h2⟩ := hv
  obtain ⟨B1, d1, B2, d2, rfl, h3, h4⟩ := hx
  obtain ⟨hc2, hm2⟩ := h2.cap
  obtain ⟨hc4, hm4⟩ := h4.cap
  unfold SameQPost
  obtain ⟨G, L⟩ := l
  obtain ⟨H, R⟩ := r
  simp only at h1 h2 h3 h4 hc2 hc4 ⊢
  have hdec : ¬(G = H ∧ L = R) → decide ((G, L) = (H, R)) = false := fun h => decide_eq_false (fun e => h (by injection e with a b; exact ⟨a, b⟩))
  have hyes : G = H → L = R → decide ((G, L) = (H, R)) = true := fun h h' => decide_eq_true (by rw [h, h'])
  generalize decide ((G, L) = (H, R)) = res at *
  have HD := hid hdec; have HY := hid hyes; clear hdec hyes
  obtain ⟨W0, hW0⟩ : ∃ W, W = (w.alloc (.cells #[.slice A1 G.length c1, .slice A2 L.length c2] 32)).alloc (.cells #[.slice B1 H.length d1, .slice B2 R.length d2] 32) := ⟨_, rfl⟩
  have g0 : Below w.heap.size w W0 := by rw [hW0]; exact (bl1 _ _).alloc (by simp) _
  have z0 : W0.heap.size = w.heap.size + 1 + 1 := by rw [hW0]; simp
  have x0 : W0.cell? ⟨w.heap.size, 0, none⟩ = some (.slice A1 G.length c1) := by rw [hW0]; simp [go_sem]
  have x1 : W0.cell? ⟨w.heap.size, 1, none⟩ = some (.slice A2 L.length c2) := by rw [hW0]; simp [go_sem]
  have y0 : W0.cell? ⟨w.heap.size + 1, 0, none⟩ = some (.slice B1 H.length d1) := by rw [hW0]; simp [go_sem]
  have y1 : W0.cell? ⟨w.heap.size + 1, 1, none⟩ = some (.slice B2 R.length d2) := by rw [hW0]; simp [go_sem]
  have HSG := hid (refSame8_any _ _ G H W0 (good_ints.on h1 g0) (good_ints.on h3 g0))
  have S1 := hid (good_filters.on h2 g0); have S2 := hid (good_filters.on h4 g0)
  have X0 := hid x0; have X1 := hid x1; have Y0 := hid y0; have Y1 := hid y1; have G0 := hid g0
  have i0 := x0; have i1 := y0
  rw [hW0] at i0 i1
  have HW0 := hid hW0
  obtain ⟨bg, hbg⟩ : ∃ bg, decide (G = H) = bg := ⟨_, rfl⟩
  rw [hbg] at HSG
  have HBG := hid hbg
  clear h1 h2 h3 h4 hW0 g0 x0 x1 y0 y1 hbg
  generalize G.length = ng at *
  generalize H.length = nh at *
  go_enter Tryd.func8, Tryd.ntmps8
  go_wp2_with fail
  rw [← HW0.out]
  refine HSG.out.mono ?_
  rintro en w1 ⟨rfl, hq1⟩
  have k1 := (hq1.cell _).trans X1.out; have k2 := (hq1.cell _).trans Y1.out
  clear i0 i1
  cases bg
  · have HN := hid (HD.out (fun h => of_decide_eq_false HBG.out h.1))
    go_wp2
    go_ret
    exact ⟨by rw [HN.out]; rfl, G0.out.trans (hq1.below w.heap.size)⟩
  have HG := hid (of_decide_eq_true HBG.out)
  by_cases hl : L.length = R.length
  · have HL := hid hl
    have u0 : ((L.length : Int) != (R.length : Int)) = false := by simp [hl]
    clear hl
    go_wp2
    clear k1 k2
    go_loopw [6] (fun i wr => SameRelG L R W0 i wr) (fun i _ => L.length - (intOf i).toNat)
    case atStart => exact ⟨0, by omega, rfl, rfl, hq1⟩
    case round =>
      obtain ⟨k, hk, rfl, hsame, hq⟩ := hrel
      have HS := hid hsame; clear hsame
      have k1 := (hq.cell _).trans X1.out; have k2 := (hq.cell _).trans Y1.out
      by_cases hlt : k < L.length
      · have hlt' : k < R.length := by have := HL.out; omega
        obtain ⟨b1, o1, AM, cM, rfl, hb1, x0, x1, x2, i1, i2, r1⟩ := filters_at S1.out hlt
        obtain ⟨b2, o2, BM, dM, rfl, hb2, x3, x4, x5, i3, i4, r2⟩ := filters_at S2.out hlt'
        have p0 := (hq.cell ⟨b1, o1 + k * 3, none⟩).trans x0
        have p1 := (hq.cell ⟨b1, o1 + k * 3 + 1, none⟩).trans x1
        have p2 := (hq.cell ⟨b1, o1 + k * 3 + 2, none⟩).trans x2
        have p3 := (hq.cell ⟨b2, o2 + k * 3, none⟩).trans x3
        have p4 := (hq.cell ⟨b2, o2 + k * 3 + 1, none⟩).trans x4
        have p5 := (hq.cell ⟨b2, o2 + k * 3 + 2, none⟩).trans x5
        have e1 : L.take (k + 1) = L.take k ++ [L[k]] := List.take_succ_eq_append_getElem hlt
        have e2 : R.take (k + 1) = R.take k ++ [R[k]] := List.take_succ_eq_append_getElem hlt'
        have hgn : L[k] ≠ R[k] → L ≠ R := fun h h' => h (by subst h'; rfl)
        generalize L[k] = f1 at *
        generalize R[k] = f2 at *
        obtain ⟨da, la, ma⟩ := f1
        obtain ⟨db, lb, mb⟩ := f2
        simp only at p0 p1 p2 p3 p4 p5 r1 r2 i1 i2 i3 i4 hgn
        have HSM := hid (fun W (hqq : Qu wr W) => samePaths_any _ _ ma mb W (good_paths.on r1 ((hq.trans hqq).below _)) (good_paths.on r2 ((hq.trans hqq).below _)))
        obtain ⟨bm, hbm⟩ : ∃ bm, decide (ma = mb) = bm := ⟨_, rfl⟩
        rw [hbm] at HSM
        have HBM := hid hbm; have HGN := hid hgn
        have hpe : (da, la, ma) = (db, lb, mb) → L.take (k + 1) = R.take (k + 1) := fun h => by rw [e1, e2, HS.out, h]
        have HPE := hid hpe
        generalize ma.length = na at *
        generalize mb.length = nb at *
        clear x0 x1 x2 x3 x4 x5 r1 r2 i1 i2 i3 i4 hbm e1 e2 hgn hpe
        go_wp2
        go_quiet (first | (go_at_call 28; exact Calls.quiet_of (HSM.out _ ⟨_, rfl⟩)))
        cases bm
        · have HN := hid (HD.out (fun h => HGN.out (fun e => by injection e with _ e; injection e with _ e; exact of_decide_eq_false HBM.out e) h.2))
          go_wp2
          go_quiet (fail)
          go_wp2
          go_ret
          exact ⟨by rw [HN.out]; rfl, G0.out.trans (((hq.drewN _).drewN _).below w.heap.size)⟩
        · have HMM := hid (of_decide_eq_true HBM.out)
          by_cases hd : da = db
          case' neg =>
            have t1 : (da != db) = true := by simpa using hd
            have HN := hid (HD.out (fun h => HGN.out (fun e => by injection e with e _; exact hd e) h.2))
            clear hd
            go_wp2
            go_quiet (fail)
            go_wp2
            go_ret
            exact ⟨by rw [HN.out]; rfl, G0.out.trans (((hq.drewN _).drewN _).below w.heap.size)⟩
          case pos =>
            have t1 : (da != db) = false := by simp [hd]
            by_cases hlv : la = lb
            case' neg =>
              have t3 : (la != lb) = true := by simpa using hlv
              have HN := hid (HD.out (fun h => HGN.out (fun e => by injection e with _ e; injection e with e _; exact hlv e) h.2))
              clear hd hlv
              go_wp2
              go_quiet (fail)
              go_wp2
              go_ret
              exact ⟨by rw [HN.out]; rfl, G0.out.trans (((hq.drewN _).drewN _).below w.heap.size)⟩
            case pos =>
              have t3 : (la != lb) = false := by simp [hlv]
              have HS' := hid (HPE.out (by rw [hd, hlv, HMM.out]))
              clear hd hlv
              go_wp2
              go_quiet (fail)
              go_wp2
              go_roundw
              case rel => exact ⟨k + 1, by omega, by go_num, HS'.out, hq.drewN _⟩
              case measure => simp [intOf]; omega
      · have he1 : L = R := by
          have := HS.out
          rwa [List.take_of_length_le (by omega), List.take_of_length_le (by have := HL.out; omega)] at this
        have HN := hid (HY.out HG.out he1); clear he1 HS
        go_wp2
        go_ret
        exact ⟨by rw [HN.out]; rfl, G0.out.trans (hq.below w.heap.size)⟩
  · have u0 : ((L.length : Int) != (R.length : Int)) = true := by simp; omega
    have HN := hid (HD.out (fun h => hl (by rw [h.2])))
    clear hl
    go_wp2
    go_ret
    exact ⟨by rw [HN.out]; rfl, G0.out.trans (hq1.below w.heap.size)⟩
end Go.Proofs.YtkdpclllenbgfaaDoor
