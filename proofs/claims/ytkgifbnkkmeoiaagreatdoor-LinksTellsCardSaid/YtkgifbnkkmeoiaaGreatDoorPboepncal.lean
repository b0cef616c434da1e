/- 3 texts of this claim, in build order. -/
import Derived.Test.YtkgifbnkkmeoiaaGreatDoorPjkhkmabk
import Derived.Test.YtkgifbnkkmeoiaaGreatDoorPpmbgbmgk
import Derived.BigQuiet
import Derived.Test.YtkgifbnkkmeoiaaGreatDoorPbkbinjci
import Derived.Deep.RegionLaw
/- The reference's Same of numbers (layer 8). -/
namespace Go.Proofs.YtkgifbnkkmeoiaaGreatDoor
open Go.ChangeShapes Go.WideShapes Go.ChangeAt Go.RowKit
set_option linter.unusedVariables false
set_option linter.unusedSimpArgs false

set_option maxRecDepth 100000 in
set_option maxHeartbeats 800000 in
theorem refSame8_any (v x : Value) (l r : List Int) (w : World) (hv : rdInts w w.heap.size [v] l) (hx : rdInts w w.heap.size [x] r) :
    Calls Tryz.prog 114 #[v, x] w (Stays (.bool (decide (l = r))) w) := by
  obtain ⟨A1, c1, e, hc1, hm1⟩ := hv.open_
  simp only [List.cons.injEq, and_true] at e
  subst e
  obtain ⟨A2, c2, e, hc2, hm2⟩ := hx.open_
  simp only [List.cons.injEq, and_true] at e
  subst e
  have S1 := hid hv; have S2 := hid hx; clear hv hx
  have hdec : l ≠ r → decide (l = r) = false := fun h => decide_eq_false h
  have hyes : l = r → decide (l = r) = true := fun h => decide_eq_true h
  generalize decide (l = r) = res at *
  have HD := hid hdec; have HY := hid hyes; clear hdec hyes
  go_enter Tryz.func114, Tryz.ntmps114
  by_cases hl : l.length = r.length
  · have HL := hid hl
    have u0 : ((l.length : Int) != (r.length : Int)) = false := by simp [hl]
    clear hl
    go_wp2
    go_loopw [5] (fun i wr => SameRelG l r w i wr) (fun i _ => l.length - (intOf i).toNat)
    case atStart => exact ⟨0, by omega, rfl, rfl, Qu.refl _⟩
    case round =>
      obtain ⟨k, hk, rfl, hsame, hq⟩ := hrel
      have HS := hid hsame; clear hsame
      by_cases hlt : k < l.length
      · have hlt' : k < r.length := by have := HL.out; omega
        obtain ⟨b1, o1, rfl, hb1, hx1, -⟩ := ints_at' S1.out hlt
        obtain ⟨b2, o2, rfl, hb2, hx2, -⟩ := ints_at' S2.out hlt'
        have g1 : wr.cell? ⟨b1, o1 + k, none⟩ = _ := (hq.cell _).trans hx1
        have g2 : wr.cell? ⟨b2, o2 + k, none⟩ = _ := (hq.cell _).trans hx2
        clear hx1 hx2
        have e1 : l.take (k + 1) = l.take k ++ [l[k]] := List.take_succ_eq_append_getElem hlt
        have e2 : r.take (k + 1) = r.take k ++ [r[k]] := List.take_succ_eq_append_getElem hlt'
        have hgn : l[k] ≠ r[k] → l ≠ r := fun h h' => h (by subst h'; rfl)
        generalize l[k] = p1 at *
        generalize r[k] = p2 at *
        by_cases he : p1 = p2
        · subst he
          have hs' : l.take (k + 1) = r.take (k + 1) := by rw [e1, e2, HS.out]
          have t2 : (p1 != p1) = false := by simp
          have HS' := hid hs'; clear e1 e2 hs' hgn
          go_wp2
          go_quiet (fail)
          go_wp2
          go_roundw
          case rel => exact ⟨k + 1, by omega, by go_num, HS'.out, hq.drewN _⟩
          case measure => simp [intOf]; omega
        · have hn := HD.out (hgn he)
          have t2 : (p1 != p2) = true := by simpa using he
          have HN := hid hn; clear e1 e2 hgn hn he
          go_wp2
          go_quiet (fail)
          go_wp2
          go_ret
          exact ⟨by rw [HN.out]; rfl, hq.drewN _⟩
      · have he1 : l = r := by
          have := HS.out
          rwa [List.take_of_length_le (by omega), List.take_of_length_le (by have := HL.out; omega)] at this
        have hn := HY.out he1
        have HN := hid hn; clear he1 HS hn
        go_wp2
        go_ret
        exact ⟨by rw [HN.out]; rfl, hq⟩
  · have u0 : ((l.length : Int) != (r.length : Int)) = true := by simp; omega
    have hn := HD.out (fun e => hl (by rw [e]))
    have HN := hid hn
    clear hl hn
    go_wp2
    go_ret
    exact ⟨by rw [HN.out]; rfl, Qu.refl _⟩
end Go.Proofs.YtkgifbnkkmeoiaaGreatDoor
/- The reference's Same of facts (layer 9). -/
namespace Go.Proofs.YtkgifbnkkmeoiaaGreatDoor
open Go.ChangeShapes Go.WideShapes Go.ChangeAt Go.RowKit
set_option linter.unusedVariables false
set_option linter.unusedSimpArgs false

set_option maxRecDepth 100000 in
set_option maxHeartbeats 3200000 in
theorem sameF_any (v x : Value) (l r : List FactX) (w : World) (hv : rdSlice 2 rdFact w w.heap.size [v] l) (hx : rdSlice 2 rdFact w w.heap.size [x] r) :
    Calls Tryz.prog 90 #[v, x] w (Stays (.bool (decide (l = r))) w) := by
  obtain ⟨A1, c1, e, hc1, hm1⟩ := hv.open_
  simp only [List.cons.injEq, and_true] at e
  subst e
  obtain ⟨A2, c2, e, hc2, hm2⟩ := hx.open_
  simp only [List.cons.injEq, and_true] at e
  subst e
  have S1 := hid hv; have S2 := hid hx; clear hv hx
  have hdec : l ≠ r → decide (l = r) = false := fun h => decide_eq_false h
  have hyes : l = r → decide (l = r) = true := fun h => decide_eq_true h
  generalize decide (l = r) = res at *
  have HD := hid hdec; have HY := hid hyes; clear hdec hyes
  go_enter Tryz.func90, Tryz.ntmps90
  by_cases hl : l.length = r.length
  · have HL := hid hl
    have u0 : ((l.length : Int) != (r.length : Int)) = false := by simp [hl]
    clear hl
    go_wp2
    go_loopw [5] (fun i wr => SameRelG l r w i wr) (fun i _ => l.length - (intOf i).toNat)
    case atStart => exact ⟨0, by omega, rfl, rfl, Qu.refl _⟩
    case round =>
      obtain ⟨k, hk, rfl, hsame, hq⟩ := hrel
      have HS := hid hsame; clear hsame
      by_cases hlt : k < l.length
      · have hlt' : k < r.length := by have := HL.out; omega
        obtain ⟨b1, o1, AP, cP, AV, cV, rfl, hb1, x0, x1, y0, y1⟩ := facts_at S1.out hlt
        obtain ⟨b2, o2, BP, dP, BV, dV, rfl, hb2, x2, x3, y2, y3⟩ := facts_at S2.out hlt'
        have g0 := (hq.cell ⟨b1, o1 + k * 2, none⟩).trans x0
        have g1 := (hq.cell ⟨b1, o1 + k * 2 + 1, none⟩).trans x1
        have g2 := (hq.cell ⟨b2, o2 + k * 2, none⟩).trans x2
        have g3 := (hq.cell ⟨b2, o2 + k * 2 + 1, none⟩).trans x3
        have e1 : l.take (k + 1) = l.take k ++ [l[k]] := List.take_succ_eq_append_getElem hlt
        have e2 : r.take (k + 1) = r.take k ++ [r[k]] := List.take_succ_eq_append_getElem hlt'
        have hgn : l[k] ≠ r[k] → l ≠ r := fun h h' => h (by subst h'; rfl)
        generalize l[k] = f1 at *
        generalize r[k] = f2 at *
        obtain ⟨p1, n1⟩ := f1
        obtain ⟨p2, n2⟩ := f2
        simp only at g0 g1 g2 g3 y0 y1 y2 y3 hgn
        have HSV := hid (fun W (hqq : Qu wr W) => by
          have h3 := hq.trans hqq
          have hz := h3.size
          exact refSame8_any (.slice AV n1.length cV) (.slice BV n2.length dV) n1 n2 W (hz ▸ good_ints.stays y1 (h3.below _)) (hz ▸ good_ints.stays y3 (h3.below _)))
        obtain ⟨bq, hbq⟩ : ∃ bq, decide (n1 = n2) = bq := ⟨_, rfl⟩
        rw [hbq] at HSV
        have HBQ := hid hbq; have HGN := hid hgn
        have hpe : (p1, n1) = (p2, n2) → l.take (k + 1) = r.take (k + 1) := fun h => by rw [e1, e2, HS.out, h]
        have HPE := hid hpe
        obtain ⟨hpc1, hpm1⟩ := y0.cap
        have Y0 := hid y0; have Y2 := hid y2
        generalize n1.length = m1 at *
        generalize n2.length = m2 at *
        clear x0 x1 x2 x3 y0 y1 y2 y3 e1 e2 hbq hgn hpe
        go_wp2
        go_quiet (first | (go_at_call 114; exact Calls.quiet_of (HSV.out _ ⟨_, rfl⟩)))
        cases bq
        · have HN := hid (HD.out (HGN.out (fun e => by injection e with _ e; exact of_decide_eq_false HBQ.out e)))
          clear g0 g1 g2 g3
          go_wp2
          go_quiet (fail)
          go_wp2
          go_ret
          exact ⟨by rw [HN.out]; rfl, (hq.drewN _).drewN _⟩
        · have HNN := hid (of_decide_eq_true HBQ.out)
          by_cases hpl : p1.length = p2.length
          case neg =>
            have t1 : ((p1.length : Int) != (p2.length : Int)) = true := by simp; omega
            have HN := hid (HD.out (HGN.out (fun e => by injection e with e _; exact hpl (by rw [e]))))
            clear hpl
            go_wp2
            go_quiet (fail)
            go_wp2
            go_ret
            exact ⟨by rw [HN.out]; rfl, (hq.drewN _).drewN _⟩
          case pos =>
          have t1 : ((p1.length : Int) != (p2.length : Int)) = false := by simp [hpl]
          have HPL := hid hpl
          clear hpl
          go_wp2
          go_quiet (fail)
          obtain ⟨wo, rfl⟩ : ∃ wo : World, wo = wr := ⟨_, rfl⟩
          go_wp2
          go_loopw [7] (fun i wq => SameRelG p1 p2 wo i wq) (fun i _ => p1.length - (intOf i).toNat)
          case atStart => exact ⟨0, by omega, rfl, rfl, ((Qu.refl _).drewN _).drewN _⟩
          case round =>
            obtain ⟨j, hj, rfl, hsame, hq2⟩ := hrel
            have HS2 := hid hsame; clear hsame
            have k0 := (hq2.cell ⟨b1, o1 + k * 2, none⟩).trans g0
            have k2 := (hq2.cell ⟨b2, o2 + k * 2, none⟩).trans g2
            clear g0 g1 g2 g3
            by_cases hjl : j < p1.length
            · have hjl' : j < p2.length := by have := HPL.out; omega
              obtain ⟨b3, o3, AL, cL, rfl, hb3, hx1, hp1⟩ := paths_at Y0.out hjl
              obtain ⟨b4, o4, AR, cR, rfl, hb4, hx2, hp2⟩ := paths_at Y2.out hjl'
              have k4 := ((hq.trans hq2).cell ⟨b3, o3 + j, none⟩).trans hx1
              have k5 := ((hq.trans hq2).cell ⟨b4, o4 + j, none⟩).trans hx2
              have e3 : p1.take (j + 1) = p1.take j ++ [p1[j]] := List.take_succ_eq_append_getElem hjl
              have e4 : p2.take (j + 1) = p2.take j ++ [p2[j]] := List.take_succ_eq_append_getElem hjl'
              have hgn2 : p1[j] ≠ p2[j] → p1 ≠ p2 := fun h h' => h (by subst h'; rfl)
              generalize p1[j] = s1 at *
              generalize p2[j] = s2 at *
              have HSM := hid (fun W (hqq : Qu wr W) => sameS_any (.slice AL s1.length cL) (.slice AR s2.length cR) s1 s2 W (strs_sl (good_strs.on hp1 (((hq.trans hq2).trans hqq).below _))).1 (strs_sl (good_strs.on hp2 (((hq.trans hq2).trans hqq).below _))).1)
              obtain ⟨bs, hbs⟩ : ∃ bs, decide (s1 = s2) = bs := ⟨_, rfl⟩
              rw [hbs] at HSM
              have hpe2 : s1 = s2 → p1.take (j + 1) = p2.take (j + 1) := fun h => by rw [e3, e4, HS2.out, h]
              have HBS := hid hbs; have HPE2 := hid hpe2; have HGN2 := hid hgn2
              generalize s1.length = m3 at *
              generalize s2.length = m4 at *
              clear hp1 hp2 e3 e4 hbs hpe2 hgn2 hx1 hx2
              go_wp2
              go_quiet (first | (go_at_call 115; exact Calls.quiet_of (HSM.out _ ⟨_, rfl⟩)))
              cases bs
              · have HN := hid (HD.out (HGN.out (fun e => by injection e with e _; exact HGN2.out (of_decide_eq_false HBS.out) e)))
                go_wp2
                go_ret
                exact ⟨by rw [HN.out]; rfl, hq.trans (hq2.drewN _)⟩
              · have HS' := hid (HPE2.out (of_decide_eq_true HBS.out))
                go_wp2
                go_roundw
                case rel => exact ⟨j + 1, by omega, by go_num, HS'.out, hq2.drewN _⟩
                case measure => simp [intOf]; omega
            · have he2 : p1 = p2 := by
                have := HS2.out
                rwa [List.take_of_length_le (by omega), List.take_of_length_le (by have := HPL.out; omega)] at this
              have HS' := hid (HPE.out (by rw [he2, HNN.out]))
              clear he2 HS2
              go_wp2
              go_roundw
              case rel => exact ⟨k + 1, by omega, by go_num, HS'.out, hq.trans hq2⟩
              case measure => simp [intOf]; omega
      · have he1 : l = r := by
          have := HS.out
          rwa [List.take_of_length_le (by omega), List.take_of_length_le (by have := HL.out; omega)] at this
        have hn := HY.out he1
        have HN := hid hn; clear he1 HS hn
        go_wp2
        go_ret
        exact ⟨by rw [HN.out]; rfl, hq⟩
  · have u0 : ((l.length : Int) != (r.length : Int)) = true := by simp; omega
    have hn := HD.out (fun e => hl (by rw [e]))
    have HN := hid hn
    clear hl hn
    go_wp2
    go_ret
    exact ⟨by rw [HN.out]; rfl, Qu.refl _⟩
end Go.Proofs.YtkgifbnkkmeoiaaGreatDoor
/- The reference's Same of commands, entries and rows of entries, of what is the same. -/
namespace Go.Proofs.YtkgifbnkkmeoiaaGreatDoor
open Go.ChangeShapes Go.WideShapes Go.ChangeAt Go.RowKit
set_option linter.unusedVariables false
set_option linter.unusedSimpArgs false

def SaysT (w : World) (e : Ending) (w' : World) : Prop := e = .returned (.bool true) ∧ Below w.heap.size w w'
theorem two_box {w : World} (a b : Obj) : Below w.heap.size w ((w.alloc a).alloc b) := (bl1 _ _).trans ((bl1 _ _).mono (by simp))
set_option maxRecDepth 100000 in
set_option maxHeartbeats 800000 in
theorem refSameC_eq (v x : Value) (c : CmdX) (w : World) (hv : CmdV w w.heap.size v c) (hx : CmdV w w.heap.size x c) : Calls Tryz.prog 76 #[v, x] w (SaysT w) := by
  obtain ⟨A, k, rfl, h1, -, -, -⟩ := hv
  obtain ⟨A', k', rfl, h2, -, -, -⟩ := hx
  obtain ⟨o, s, q, fs⟩ := c
  simp only at *
  obtain ⟨W1, hW1⟩ : ∃ W, W = (w.alloc (.cells #[.int .i64 o, .int .i64 s, .int .i64 q, .slice A fs.length k] 47)).alloc (.cells #[.int .i64 o, .int .i64 s, .int .i64 q, .slice A' fs.length k'] 47) := ⟨_, rfl⟩
  have hb1 : Below w.heap.size w W1 := by rw [hW1]; exact two_box _ _
  have HSF := hid (sameF_any _ _ fs fs W1 (good_facts.on h1 hb1) (good_facts.on h2 hb1))
  rw [decide_eq_true (rfl : fs = fs)] at HSF
  have hc : ∀ i u, [Value.int .i64 o, .int .i64 s, .int .i64 q, .slice A fs.length k][i]? = some u → W1.cell? ⟨w.heap.size, i, none⟩ = some u := fun i u hu => by
    rw [hW1]
    refine cell_alloc (by simp) ?_
    rw [World.cell?_alloc_at _ _ _ _ rfl]; simpa using hu
  have hd : ∀ i u, [Value.int .i64 o, .int .i64 s, .int .i64 q, .slice A' fs.length k'][i]? = some u → W1.cell? ⟨w.heap.size + 1, i, none⟩ = some u := fun i u hu => by
    rw [hW1, World.cell?_alloc_at _ _ _ _ (by simp)]; simpa using hu
  have c0 := hc 0 _ rfl; have c1 := hc 1 _ rfl; have c2 := hc 2 _ rfl; have c3 := hc 3 _ rfl
  have d0 := hd 0 _ rfl; have d1 := hd 1 _ rfl; have d2 := hd 2 _ rfl; have d3 := hd 3 _ rfl
  have HW1 := hid hW1; have HB1 := hid hb1
  obtain ⟨q1, hq1⟩ : ∃ q1, q1 = w.heap.size := ⟨_, rfl⟩
  rw [← hq1] at c0 c1 c2 c3 d0 d1 d2 d3
  have HQ := hid hq1
  clear hW1 hb1 hc hd h1 h2 hq1
  go_enter Tryz.func76, Tryz.ntmps76
  go_upto_region 1 with (fail)
  rw [← HW1.out, ← HQ.out]
  go_wp2_with fail
  (with_reducible refine HSF.out.mono ?_)
  rintro e w2 ⟨rfl, hq⟩
  have hb2 := HB1.out.trans (hq.below _)
  have HB2 := hid hb2
  have c0 := (hq.cell ⟨q1, 0, none⟩).trans c0; have c1 := (hq.cell ⟨q1, 1, none⟩).trans c1; have c2 := (hq.cell ⟨q1, 2, none⟩).trans c2
  have d0 := (hq.cell ⟨q1 + 1, 0, none⟩).trans d0; have d1 := (hq.cell ⟨q1 + 1, 1, none⟩).trans d1; have d2 := (hq.cell ⟨q1 + 1, 2, none⟩).trans d2
  clear hb2 hq
  go_wp2
  go_ret
  exact ⟨rfl, HB2.out⟩
set_option maxRecDepth 100000 in
set_option maxHeartbeats 800000 in
theorem refSameN_eq (v x : Value) (c : EntX) (w : World) (hv : EntV w w.heap.size v c) (hx : EntV w w.heap.size x c) : Calls Tryz.prog 59 #[v, x] w (SaysT w) := by
  obtain ⟨A, k, rfl, h1, i1, i2, i3, i4, i5⟩ := hv
  obtain ⟨A', k', rfl, h2, -, -, -, -, -⟩ := hx
  obtain ⟨ix, tm, o, s, q, fs⟩ := c
  simp only at *
  obtain ⟨W1, hW1⟩ : ∃ W, W = (w.alloc (.cells #[.int .i64 ix, .int .i64 tm, .int .i64 o, .int .i64 s, .int .i64 q, .slice A fs.length k] 49)).alloc (.cells #[.int .i64 ix, .int .i64 tm, .int .i64 o, .int .i64 s, .int .i64 q, .slice A' fs.length k'] 49) := ⟨_, rfl⟩
  have hb1 : Below w.heap.size w W1 := by rw [hW1]; exact two_box _ _
  have HSF := hid (refSameC_eq (.agg #[.int .i64 o, .int .i64 s, .int .i64 q, .slice A fs.length k]) (.agg #[.int .i64 o, .int .i64 s, .int .i64 q, .slice A' fs.length k']) (o, s, q, fs) W1 ⟨A, k, rfl, good_facts.on h1 hb1, i3, i4, i5⟩ ⟨A', k', rfl, good_facts.on h2 hb1, i3, i4, i5⟩)
  have hc : ∀ i u, [Value.int .i64 ix, .int .i64 tm, .int .i64 o, .int .i64 s, .int .i64 q, .slice A fs.length k][i]? = some u → W1.cell? ⟨w.heap.size, i, none⟩ = some u := fun i u hu => by
    rw [hW1]
    refine cell_alloc (by simp) ?_
    rw [World.cell?_alloc_at _ _ _ _ rfl]; simpa using hu
  have hd : ∀ i u, [Value.int .i64 ix, .int .i64 tm, .int .i64 o, .int .i64 s, .int .i64 q, .slice A' fs.length k'][i]? = some u → W1.cell? ⟨w.heap.size + 1, i, none⟩ = some u := fun i u hu => by
    rw [hW1, World.cell?_alloc_at _ _ _ _ (by simp)]; simpa using hu
  have c0 := hc 0 _ rfl; have c1 := hc 1 _ rfl; have c2 := hc 2 _ rfl; have c3 := hc 3 _ rfl; have c4 := hc 4 _ rfl; have c5 := hc 5 _ rfl
  have d0 := hd 0 _ rfl; have d1 := hd 1 _ rfl; have d2 := hd 2 _ rfl; have d3 := hd 3 _ rfl; have d4 := hd 4 _ rfl; have d5 := hd 5 _ rfl
  have hz1 : W1.heap.size = w.heap.size + 2 := by rw [hW1]; simp
  have HW1 := hid hW1; have HB1 := hid hb1; have HZ1 := hid hz1
  obtain ⟨q1, hq1⟩ : ∃ q1, q1 = w.heap.size := ⟨_, rfl⟩
  rw [← hq1] at c0 c1 c2 c3 c4 c5 d0 d1 d2 d3 d4 d5
  have HQ := hid hq1
  clear hW1 hb1 hc hd h1 h2 hq1 hz1
  go_enter Tryz.func59, Tryz.ntmps59
  go_upto_region 1 with (fail)
  rw [← HW1.out, ← HQ.out]
  go_wp2_with fail
  (with_reducible refine HSF.out.mono ?_)
  rintro e w2 ⟨rfl, hb⟩
  have HB2 := hid (HB1.out.trans (hb.mono HB1.out.size))
  have hl1 : q1 < W1.heap.size := by have := HZ1.out; have := HQ.out; omega
  have hl2 : q1 + 1 < W1.heap.size := by have := HZ1.out; have := HQ.out; omega
  have c0 := cellK hb hl1 c0; have c1 := cellK hb hl1 c1
  have d0 := cellK hb hl2 d0; have d1 := cellK hb hl2 d1
  clear hb hl1 hl2
  go_wp2
  go_ret
  exact ⟨rfl, HB2.out⟩
def SmRel (n : Nat) (w : World) (i : Value) (wr : World) : Prop := ∃ k : Nat, k ≤ n ∧ i = .int .i64 k ∧ Below w.heap.size w wr
set_option maxRecDepth 100000 in
set_option maxHeartbeats 1600000 in
theorem refSames_eq (v x : Value) (l : List EntX) (w : World) (hv : rdSlice 6 rdEnt w w.heap.size [v] l) (hx : rdSlice 6 rdEnt w w.heap.size [x] l) : Calls Tryz.prog 32 #[v, x] w (SaysT w) := by
  obtain ⟨A1, c1, e, hc1, hm1⟩ := hv.open_
  simp only [List.cons.injEq, and_true] at e
  subst e
  obtain ⟨A2, c2, e, hc2, hm2⟩ := hx.open_
  simp only [List.cons.injEq, and_true] at e
  subst e
  have S1 := hid hv; have S2 := hid hx; clear hv hx
  go_enter Tryz.func32, Tryz.ntmps32
  go_wp2
  go_loopw [5] (fun i wr => SmRel l.length w i wr) (fun i _ => l.length - (intOf i).toNat)
  case atStart => exact ⟨0, by omega, rfl, Below.refl _ _⟩
  case round =>
    obtain ⟨k, hk, rfl, hb⟩ := hrel
    by_cases hlt : k < l.length
    · obtain ⟨b1, o1, AF, cF, rfl, hb1, x0, x1, x2, x3, x4, x5, E1⟩ := ents_at S1.out hlt
      obtain ⟨b2, o2, BF, dF, rfl, hb2, y0, y1, y2, y3, y4, y5, E2⟩ := ents_at S2.out hlt
      have x0 := cellK hb hb1 x0; have x1 := cellK hb hb1 x1; have x2 := cellK hb hb1 x2; have x3 := cellK hb hb1 x3; have x4 := cellK hb hb1 x4; have x5 := cellK hb hb1 x5
      have y0 := cellK hb hb2 y0; have y1 := cellK hb hb2 y1; have y2 := cellK hb hb2 y2; have y3 := cellK hb hb2 y3; have y4 := cellK hb hb2 y4; have y5 := cellK hb hb2 y5
      have HSE := hid (fun W (hq : Qu wr W) => refSameN_eq _ _ _ W (E1.on (hb.trans (hq.below _))) (E2.on (hb.trans (hq.below _))) |>.mono (fun e w' h => (⟨h.1, (hb.trans (hq.below _)).trans (h.2.mono (hb.trans (hq.below w.heap.size)).size)⟩ : SaysT w e w')))
      generalize l[k]'hlt = x at *
      obtain ⟨ix, tm, op, ses, seq, fs⟩ := x
      simp only at *
      clear E1 E2 hb
      go_wp2
      go_region_law (go_simp; go_at_call 59; refine (HSE.out _ ⟨_, rfl⟩).mono ?_; rintro e w5 ⟨rfl, hb5⟩)
      all_goals
        have HB5 := hid hb5
        clear hb5
        go_wp2
        go_roundw
        case rel => exact ⟨k + 1, by omega, by go_num, HB5.out⟩
        case measure => simp [intOf]; omega
    · have HB := hid hb
      clear hb
      go_wp2
      go_ret
      exact ⟨rfl, HB.out⟩
end Go.Proofs.YtkgifbnkkmeoiaaGreatDoor
