/- The reference's Up, Under, SamePaths, Passes. -/
import Derived.Test.YtafmdpnfigkbfabQry6
namespace Go.Proofs.Ytafmdpnfigkbfab
open Go.ChangeShapes Go.WideShapes Go.ChangeAt Go.RowKit
set_option linter.unusedVariables false
set_option linter.unusedSimpArgs false

theorem refUnder_any (v x : Value) (p q : List ByteArray) (w : World) (hv : rdStrs w w.heap.size [v] p) (hx : rdStrs w w.heap.size [x] q) :
    Calls Try.prog 39 #[v, x] w (Stays (.bool (underB p q)) w) := by
  obtain ⟨A1, c1, e, hc1, hm1⟩ := hv.open_
  simp only [List.cons.injEq, and_true] at e
  subst e
  have hx0 := hx
  obtain ⟨A2, c2, e, hc2, hm2⟩ := hx.open_
  simp only [List.cons.injEq, and_true] at e
  subst e
  unfold underB
  by_cases h : q.length ≤ p.length
  · have d1 : ¬ (p.length : Int) < (q.length : Int) := by omega
    have hres : (decide (q.length ≤ p.length) && decide (p.take q.length = q)) = decide (p.take q.length = q) := by rw [decide_eq_true h, Bool.true_and]
    rw [hres]
    have HE := hid (sameS_any _ _ _ _ w (strs_sl (hv.head_ h)).1 (strs_sl hx0).1)
    generalize decide (p.take q.length = q) = res at *
    clear hv hx hx0 hres
    go_enter Try.func39, Try.ntmps39
    go_wp2_with fail
    refine HE.out.mono ?_
    rintro e w1 ⟨rfl, hq⟩
    go_wp2
    go_ret
    exact ⟨rfl, hq⟩
  · have d1 : (p.length : Int) < (q.length : Int) := by omega
    have hres : (decide (q.length ≤ p.length) && decide (p.take q.length = q)) = false := by rw [decide_eq_false h, Bool.false_and]
    rw [hres]
    clear hv hx hx0 hres
    go_enter Try.func39, Try.ntmps39
    go_wp2
    go_ret
    exact ⟨rfl, Qu.refl _⟩
def UpRel (p : List ByteArray) (w : World) (out i : Value) (wr : World) : Prop := ∃ k : Nat, k ≤ p.length ∧ i = .int .i64 k ∧ wr.ownsRow w.heap.size 9 1 out k (svals (p.take k)) ∧ Below w.heap.size w wr
set_option maxRecDepth 100000 in
set_option maxHeartbeats 800000 in
theorem refUp_any (v : Value) (n : Int) (p : List ByteArray) (w : World) (hv : rdStrs w w.heap.size [v] p) (hp : p.length ≤ 1073741824) :
    Calls Try.prog 22 #[v, .int .i64 n] w (StrsPost (upS p n) w) := by
  obtain ⟨i0, hi, hz0, hz1, hz2⟩ := info_parts info_strQ
  obtain ⟨A1, c1, e, hc1, hm1⟩ := hv.open_
  simp only [List.cons.injEq, and_true] at e
  subst e
  have HV := hid hv
  obtain ⟨u, hu⟩ : ∃ u, u = upS p n := ⟨_, rfl⟩
  have hul : u.length ≤ p.length ∧ ((u.length : Int) ≤ n ∨ u.length = 0) ∧ (u.length = p.length ∨ n ≤ (u.length : Int)) := by
    rw [hu]; unfold upS; rw [List.length_take]; omega
  obtain ⟨hu1, hu2, hu3⟩ := hul
  have HUT := hid (fun (k : Nat) (h : k < u.length) => show p.take (k + 1) = p.take k ++ [p[k]'(by omega)] from List.take_succ_eq_append_getElem (by omega))
  have HUA := hid (show p.take u.length = u by
    rw [hu]; unfold upS; rw [List.length_take, ← List.take_take]; simp)
  rw [← hu]
  clear hv hu
  go_enter Try.func22, Try.ntmps22
  go_wp2
  go_loopw [5, 6] (fun out i wr => ∃ k : Nat, k ≤ u.length ∧ i = .int .i64 k ∧ wr.ownsRow w.heap.size 9 1 out k (svals (p.take k)) ∧ Below w.heap.size w wr) (fun _ i _ => u.length - (intOf i).toNat)
  case atStart => exact ⟨0, by omega, rfl, World.ownsRow_nil _ _ _ _, Below.refl _ _⟩
  case round =>
    obtain ⟨k, hk, rfl, hown, hb⟩ := hrel
    have hs := hb.size
    have HB := hid hb; have HOW := hid hown
    clear hb hown
    by_cases hlt : k < u.length
    · have y1 : k < p.length := by omega
      have y2 : (k : Int) < n := by omega
      obtain ⟨b, off, rfl, hbl, hcell, -⟩ := strs_at HV.out y1
      have hcw := cellK HB.out hbl hcell
      have e1 := HUT.out k hlt
      generalize p[k] = s at *
      have E1 := hid e1
      clear hcell e1
      go_wp2_with (at_builtin; refine stop_here ?_)
      refine go_on ?_
      refine app_own (.tmp 18) (.tmp 23) 23 23 rfl rfl w.heap.size 9 i0 (.string ByteArray.empty) 1 16 Try.underlying23 hi hz0 hz1 hz2 rfl (by decide) _ k (svals (p.take k)) rfl (HOW.out.alloc _) (.slice (some ⟨wr.heap.size, 0, none⟩) 1 1) 1 (svals [s]) rfl (Src.ofSlice _ Try.underlying23 _ 1 1 _ rfl (cell_one_at' _ _ _ rfl) (by simp [svals]; rfl)) (by first | omega | (simp only [maxLen]; omega)) (by first | omega | (simp only [maxLen]; omega)) (by simp; omega) ?_
      intro v' w' hown' hg' hb'
      have HO' := hid (show w'.ownsRow w.heap.size 9 1 v' (k + 1) (svals (p.take (k + 1))) by rw [E1.out, svals_snoc]; exact hown')
      have HB' := hid ((HB.out.alloc hs _).trans hb')
      clear hown' hg' hb' HOW
      go_wp2
      go_roundw
      case rel => exact ⟨k + 1, by omega, by go_num, HO'.out, HB'.out⟩
      case measure => simp [intOf]; omega
    · have hke : k = u.length := by omega
      have hfin : wr.ownsRow w.heap.size 9 1 u5 u.length (svals u) := by
        have := HOW.out
        rw [hke, HUA.out] at this
        exact this
      have HF := hid hfin
      have hways : ¬ k < p.length ∨ (k < p.length ∧ ¬ (k : Int) < n) := by omega
      clear hfin hke HOW hlt hk HUT HUA hu1 hu2 hu3
      rcases hways with y1 | ⟨y1, y2⟩
      · go_wp2
        go_ret
        exact ⟨_, rfl, HF.out, HB.out⟩
      · go_wp2
        go_ret
        exact ⟨_, rfl, HF.out, HB.out⟩
set_option maxRecDepth 100000 in
set_option maxHeartbeats 800000 in
theorem samePaths_any (v x : Value) (l r : List (List ByteArray)) (w : World) (hv : rdSlice 1 rdStrs w w.heap.size [v] l) (hx : rdSlice 1 rdStrs w w.heap.size [x] r) :
    Calls Try.prog 17 #[v, x] w (Stays (.bool (decide (l = r))) w) := by
  obtain ⟨A1, c1, e, hc1, hm1⟩ := hv.open_
  simp only [List.cons.injEq, and_true] at e
  subst e
  obtain ⟨A2, c2, e, hc2, hm2⟩ := hx.open_
  simp only [List.cons.injEq, and_true] at e
  subst e
  have S1 := hid hv; have S2 := hid hx; clear hv hx
  have hdec : l ≠ r → decide (l = r) = false := fun h => decide_eq_false h
  have hyes : l = r → decide (l = r) = true := fun h => decide_eq_true h
  generalize decide (l = r) = res at *
  have HD := hid hdec; have HY := hid hyes; clear hdec hyes
  go_enter Try.func17, Try.ntmps17
  by_cases hl : l.length = r.length
  · have HL := hid hl
    have u0 : ((l.length : Int) != (r.length : Int)) = false := by simp [hl]
    clear hl
    go_wp2
    go_loopw [5] (fun i wr => SameRelG l r w i wr) (fun i _ => l.length - (intOf i).toNat)
    case atStart => exact ⟨0, by omega, rfl, rfl, Qu.refl _⟩
    case round =>
      obtain ⟨k, hk, rfl, hsame, hq⟩ := hrel
      have HS := hid hsame; clear hsame
      by_cases hlt : k < l.length
      · have hlt' : k < r.length := by have := HL.out; omega
        obtain ⟨b1, o1, AL, cL, rfl, hb1, hx1, hp1⟩ := paths_at S1.out hlt
        obtain ⟨b2, o2, AR, cR, rfl, hb2, hx2, hp2⟩ := paths_at S2.out hlt'
        have g1 : wr.cell? ⟨b1, o1 + k, none⟩ = _ := (hq.cell _).trans hx1
        have g2 : wr.cell? ⟨b2, o2 + k, none⟩ = _ := (hq.cell _).trans hx2
        clear hx1 hx2
        have e1 : l.take (k + 1) = l.take k ++ [l[k]] := List.take_succ_eq_append_getElem hlt
        have e2 : r.take (k + 1) = r.take k ++ [r[k]] := List.take_succ_eq_append_getElem hlt'
        have hgn : l[k] ≠ r[k] → l ≠ r := fun h h' => h (by subst h'; rfl)
        generalize l[k] = p1 at *
        generalize r[k] = p2 at *
        have HSM := hid (fun W (hqq : Qu wr W) => sameS_any (.slice AL p1.length cL) (.slice AR p2.length cR) p1 p2 W (strs_sl (good_strs.on hp1 ((hq.trans hqq).below _))).1 (strs_sl (good_strs.on hp2 ((hq.trans hqq).below _))).1)
        have hpe : p1 = p2 → l.take (k + 1) = r.take (k + 1) := fun h => by rw [e1, e2, HS.out, h]
        obtain ⟨bq, hbq⟩ : ∃ bq, decide (p1 = p2) = bq := ⟨_, rfl⟩
        rw [hbq] at HSM
        have HBQ := hid hbq; have HPE := hid hpe; have HGN := hid hgn
        generalize p1.length = n1 at *
        generalize p2.length = n2 at *
        clear hp1 hp2 e1 e2 hbq hpe hgn
        go_wp2
        go_quiet (first | (go_at_call 35; exact Calls.quiet_of (HSM.out _ ⟨_, rfl⟩)))
        cases bq
        · have HN := hid (HD.out (HGN.out (of_decide_eq_false HBQ.out)))
          go_wp2
          go_ret
          exact ⟨by rw [HN.out]; rfl, hq.drewN _⟩
        · have HS' := hid (HPE.out (of_decide_eq_true HBQ.out))
          go_wp2
          go_roundw
          case rel => exact ⟨k + 1, by omega, by go_num, HS'.out, hq.drewN _⟩
          case measure => simp [intOf]; omega
      · have he1 : l = r := by
          have := HS.out
          rwa [List.take_of_length_le (by omega), List.take_of_length_le (by have := HL.out; omega)] at this
        have hn := HY.out he1
        have HN := hid hn; clear he1 HS hn
        go_wp2
        go_ret
        exact ⟨by rw [HN.out]; rfl, hq⟩
  · have u0 : ((l.length : Int) != (r.length : Int)) = true := by simp; omega
    have hn := HD.out (fun e => hl (by rw [e]))
    have HN := hid hn
    clear hl hn
    go_wp2
    go_ret
    exact ⟨by rw [HN.out]; rfl, Qu.refl _⟩
end Go.Proofs.Ytafmdpnfigkbfab
