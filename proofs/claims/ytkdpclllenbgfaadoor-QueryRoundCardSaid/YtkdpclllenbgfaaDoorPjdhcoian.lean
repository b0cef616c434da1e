/- 3 texts of this claim, in build order. -/
import Derived.Test.YtkdpclllenbgfaaDoorPmnaamjif
import Derived.Test.YtkdpclllenbgfaaDoorPkgejacko
/- Schemas: slices.Equal, Corner; rows of one's own that read as lists. -/
namespace Go.Proofs.YtkdpclllenbgfaaDoor
open Go.ChangeShapes Go.WideShapes Go.ChangeAt Go.RowKit
set_option linter.unusedVariables false
set_option linter.unusedSimpArgs false

theorem dims_in {w : World} {B : Nat} {v : Value} {l : List DimX} (h : rdSlice 2 rdDim w B [v] l) : ∀ d ∈ l, d.1.size ≤ maxLen ∧ d.2.length ≤ 9223372036854775807 := by
  intro d hd
  obtain ⟨i, hi, rfl⟩ := List.mem_iff_getElem.1 hd
  obtain ⟨A, c, e, -, -⟩ := h.open_
  rw [e] at h
  obtain ⟨b, off, -, -, es, -, -, hl1, ⟨-, hs⟩, hlv⟩ := h.at_ hi
  obtain ⟨AL, cL, -, hL1, hL2⟩ := hlv.open_
  exact ⟨hs, by omega⟩
theorem base_in {w : World} {B : Nat} {v : Value} {s : SchemaX} (h : rdSlice 2 rdDim w B [v] s.1) : ∀ x ∈ baseX s, InI64 x := by
  intro x hx
  unfold baseX at hx
  obtain ⟨d, hd, rfl⟩ := List.mem_map.1 hx
  have := (dims_in h d hd).2
  unfold InI64; omega
set_option maxRecDepth 100000 in
set_option maxHeartbeats 800000 in
theorem eqInts_any (v x : Value) (l r : List Int) (w : World) (hv : rdInts w w.heap.size [v] l) (hx : rdInts w w.heap.size [x] r) :
    Calls Tryd.prog 59 #[v, x] w (Stays (.bool (decide (l = r))) w) := by
  obtain ⟨A1, c1, e, hc1, hm1⟩ := hv.open_
  simp only [List.cons.injEq, and_true] at e
  subst e
  obtain ⟨A2, c2, e, hc2, hm2⟩ := hx.open_
  simp only [List.cons.injEq, and_true] at e
  subst e
  have S1 := hid hv; have S2 := hid hx; clear hv hx
  have hdec : l ≠ r → decide (l = r) = false := fun h => decide_eq_false h
  have hyes : l = r → decide (l = r) = true := fun h => decide_eq_true h
  generalize decide (l = r) = res at *
  have HD := hid hdec; have HY := hid hyes; clear hdec hyes
  go_enter Tryd.func59, Tryd.ntmps59
  by_cases hl : l.length = r.length
  · have HL := hid hl
    have u0 : ((l.length : Int) != (r.length : Int)) = false := by simp [hl]
    clear hl
    go_wp2
    go_loopw [13] (fun i wr => SameRelG l r w i wr) (fun i _ => l.length - (intOf i).toNat)
    case atStart => exact ⟨0, by omega, rfl, rfl, Qu.refl _⟩
    case round =>
      obtain ⟨k, hk, rfl, hsame, hq⟩ := hrel
      have HS := hid hsame; clear hsame
      by_cases hlt : k < l.length
      · have hlt' : k < r.length := by have := HL.out; omega
        obtain ⟨b1, o1, rfl, hb1, hx1, -⟩ := ints_at' S1.out hlt
        obtain ⟨b2, o2, rfl, hb2, hx2, -⟩ := ints_at' S2.out hlt'
        have g1 : wr.cell? ⟨b1, o1 + k, none⟩ = _ := (hq.cell _).trans hx1
        have g2 : wr.cell? ⟨b2, o2 + k, none⟩ = _ := (hq.cell _).trans hx2
        clear hx1 hx2
        have e1 : l.take (k + 1) = l.take k ++ [l[k]] := List.take_succ_eq_append_getElem hlt
        have e2 : r.take (k + 1) = r.take k ++ [r[k]] := List.take_succ_eq_append_getElem hlt'
        have hgn : l[k] ≠ r[k] → l ≠ r := fun h h' => h (by subst h'; rfl)
        generalize l[k] = p1 at *
        generalize r[k] = p2 at *
        by_cases he : p1 = p2
        · subst he
          have hs' : l.take (k + 1) = r.take (k + 1) := by rw [e1, e2, HS.out]
          have t2 : (p1 != p1) = false := by simp
          have HS' := hid hs'; clear e1 e2 hs' hgn
          go_wp2
          go_quiet (fail)
          go_wp2
          go_roundw
          case rel => exact ⟨k + 1, by omega, by go_num, HS'.out, hq.drewN _⟩
          case measure => simp [intOf]; omega
        · have hn := HD.out (hgn he)
          have t2 : (p1 != p2) = true := by simpa using he
          have HN := hid hn; clear e1 e2 hgn hn he
          go_wp2
          go_quiet (fail)
          go_wp2
          go_ret
          exact ⟨by rw [HN.out]; rfl, hq.drewN _⟩
      · have he1 : l = r := by
          have := HS.out
          rwa [List.take_of_length_le (by omega), List.take_of_length_le (by have := HL.out; omega)] at this
        have hn := HY.out he1
        have HN := hid hn; clear he1 HS hn
        go_wp2
        go_ret
        exact ⟨by rw [HN.out]; rfl, hq⟩
  · have u0 : ((l.length : Int) != (r.length : Int)) = true := by simp; omega
    have hn := HD.out (fun e => hl (by rw [e]))
    have HN := hid hn
    clear hl hn
    go_wp2
    go_ret
    exact ⟨by rw [HN.out]; rfl, Qu.refl _⟩
theorem belowZero_any (x : Int) (w : World) : Calls Tryd.prog 62 #[.int .i64 x] w (Gives (.bool (decide (x < 0))) w) := by
  go_enter Tryd.func62, Tryd.ntmps62
  go_wp2
  go_ret
  exact ⟨rfl, Below.refl _ _⟩
theorem enters_belowZero : Enters 62 := enters_of Tryd.func62 (by kernel_rfl) rfl
theorem hasNeg_any (v : Value) (l : List Int) (w : World) (hv : rdInts w w.heap.size [v] l) :
    Calls Tryd.prog 51 #[v, .func (Fn.func 62) #[] #[]] w (Gives (.bool (l.any fun n => decide (n < 0))) w) :=
  hasI_any 62 #[] (fun n => decide (n < 0)) v l w hv good_ints enters_belowZero (fun x u W hx hr hb => by
    obtain ⟨e, hs⟩ := hr
    simp only [List.cons.injEq, and_true] at e
    subst e
    exact belowZero_any x W)
set_option maxHeartbeats 800000 in
theorem corner_any (v x : Value) (s : SchemaX) (l : List Int) (w : World) (hv : SchemaV w w.heap.size v s) (hl : s.1.length ≤ 1000) (hx : rdInts w w.heap.size [x] l) :
    Calls Tryd.prog 38 #[v, x] w (Gives (.bool (cornerB s l)) w) := by
  have hv0 := hv
  obtain ⟨A1, c1, A2, c2, A3, c3, rfl, h1, h2, h3⟩ := hv
  have hin := base_in h1
  have HBS := hid (fun W (hb : Below w.heap.size w W) => base_any _ s W (hv0.on hb) hl)
  have HX := hid (fun W (hb : Below w.heap.size w W) => good_ints.on hx hb)
  have HIN := hid hin
  unfold cornerB
  clear hv0 h1 h2 h3 hx hin
  generalize baseX s = bs at *
  have HCV := hid (fun (r : Value) (W : World) (hr : rdInts W W.heap.size [r] bs) (hb : Below w.heap.size w W) => covers_any r x bs l W hr (HX.out W hb))
  have HNG := hid (fun (W : World) (hb : Below w.heap.size w W) => hasNeg_any x l W (HX.out W hb))
  clear HX
  generalize coversB bs l = cv at *
  generalize (l.any fun n => decide (n < 0)) = ng at *
  go_enter Tryd.func38, Tryd.ntmps38
  go_wp2_with fail
  refine (HBS.out _ (by repeat' first | with_reducible exact Below.refl _ _ | assumption | (with_reducible refine Below.alloc ?_ ?_ _) | (with_reducible refine Below.setCell ?_ ?_ _) | (with_reducible refine Below.drew ?_) | (with_reducible refine below_drewN ?_ _) | (with_reducible refine Below.trans ?_ (Below.mono ‹_› ?_)) | omega | (with_reducible refine le_alloc ?_) | (with_reducible refine le_setCell ?_) | (with_reducible refine le_drew ?_) | (with_reducible refine le_drewN ?_) | (with_reducible refine Nat.le_trans ?_ (Below.size ‹_›)) | (simp <;> omega))).mono ?_
  rintro e w1 ⟨r, rfl, hown, hb1⟩
  have HB1 := hid (show Below w.heap.size w w1 from ((bl1 w _).trans (hb1.mono (by simp))))
  have HR := hid (rdInts_of_own rfl hown HIN.out)
  clear hown hb1
  go_wp2_with fail
  refine (HCV.out _ _ HR.out HB1.out).mono ?_
  rintro e w2 ⟨rfl, hq⟩
  have HB2 := hid (HB1.out.trans (hq.below _))
  clear hq
  cases cv
  · go_wp2
    go_ret
    exact ⟨rfl, HB2.out⟩
  · go_wp2_with fail
    refine (HNG.out _ HB2.out).mono ?_
    rintro e w3 ⟨rfl, hb3⟩
    have HB3 := hid (HB2.out.trans (hb3.mono HB2.out.size))
    clear hb3
    go_wp2
    go_ret
    exact ⟨rfl, HB3.out⟩
end Go.Proofs.YtkdpclllenbgfaaDoor
/- The reference's Same of numbers (layer 8). -/
namespace Go.Proofs.YtkdpclllenbgfaaDoor
open Go.ChangeShapes Go.WideShapes Go.ChangeAt Go.RowKit
set_option linter.unusedVariables false
set_option linter.unusedSimpArgs false

set_option maxRecDepth 100000 in
set_option maxHeartbeats 800000 in
theorem refSame8_any (v x : Value) (l r : List Int) (w : World) (hv : rdInts w w.heap.size [v] l) (hx : rdInts w w.heap.size [x] r) :
    Calls Tryd.prog 27 #[v, x] w (Stays (.bool (decide (l = r))) w) := by
  obtain ⟨A1, c1, e, hc1, hm1⟩ := hv.open_
  simp only [List.cons.injEq, and_true] at e
  subst e
  obtain ⟨A2, c2, e, hc2, hm2⟩ := hx.open_
  simp only [List.cons.injEq, and_true] at e
  subst e
  have S1 := hid hv; have S2 := hid hx; clear hv hx
  have hdec : l ≠ r → decide (l = r) = false := fun h => decide_eq_false h
  have hyes : l = r → decide (l = r) = true := fun h => decide_eq_true h
  generalize decide (l = r) = res at *
  have HD := hid hdec; have HY := hid hyes; clear hdec hyes
  go_enter Tryd.func27, Tryd.ntmps27
  by_cases hl : l.length = r.length
  · have HL := hid hl
    have u0 : ((l.length : Int) != (r.length : Int)) = false := by simp [hl]
    clear hl
    go_wp2
    go_loopw [5] (fun i wr => SameRelG l r w i wr) (fun i _ => l.length - (intOf i).toNat)
    case atStart => exact ⟨0, by omega, rfl, rfl, Qu.refl _⟩
    case round =>
      obtain ⟨k, hk, rfl, hsame, hq⟩ := hrel
      have HS := hid hsame; clear hsame
      by_cases hlt : k < l.length
      · have hlt' : k < r.length := by have := HL.out; omega
        obtain ⟨b1, o1, rfl, hb1, hx1, -⟩ := ints_at' S1.out hlt
        obtain ⟨b2, o2, rfl, hb2, hx2, -⟩ := ints_at' S2.out hlt'
        have g1 : wr.cell? ⟨b1, o1 + k, none⟩ = _ := (hq.cell _).trans hx1
        have g2 : wr.cell? ⟨b2, o2 + k, none⟩ = _ := (hq.cell _).trans hx2
        clear hx1 hx2
        have e1 : l.take (k + 1) = l.take k ++ [l[k]] := List.take_succ_eq_append_getElem hlt
        have e2 : r.take (k + 1) = r.take k ++ [r[k]] := List.take_succ_eq_append_getElem hlt'
        have hgn : l[k] ≠ r[k] → l ≠ r := fun h h' => h (by subst h'; rfl)
        generalize l[k] = p1 at *
        generalize r[k] = p2 at *
        by_cases he : p1 = p2
        · subst he
          have hs' : l.take (k + 1) = r.take (k + 1) := by rw [e1, e2, HS.out]
          have t2 : (p1 != p1) = false := by simp
          have HS' := hid hs'; clear e1 e2 hs' hgn
          go_wp2
          go_quiet (fail)
          go_wp2
          go_roundw
          case rel => exact ⟨k + 1, by omega, by go_num, HS'.out, hq.drewN _⟩
          case measure => simp [intOf]; omega
        · have hn := HD.out (hgn he)
          have t2 : (p1 != p2) = true := by simpa using he
          have HN := hid hn; clear e1 e2 hgn hn he
          go_wp2
          go_quiet (fail)
          go_wp2
          go_ret
          exact ⟨by rw [HN.out]; rfl, hq.drewN _⟩
      · have he1 : l = r := by
          have := HS.out
          rwa [List.take_of_length_le (by omega), List.take_of_length_le (by have := HL.out; omega)] at this
        have hn := HY.out he1
        have HN := hid hn; clear he1 HS hn
        go_wp2
        go_ret
        exact ⟨by rw [HN.out]; rfl, hq⟩
  · have u0 : ((l.length : Int) != (r.length : Int)) = true := by simp; omega
    have hn := HD.out (fun e => hl (by rw [e]))
    have HN := hid hn
    clear hl hn
    go_wp2
    go_ret
    exact ⟨by rw [HN.out]; rfl, Qu.refl _⟩
end Go.Proofs.YtkdpclllenbgfaaDoor
/- slices.Clone at []string. -/
namespace Go.Proofs.YtkdpclllenbgfaaDoor
open Go.ChangeShapes Go.WideShapes Go.ChangeAt Go.RowKit
set_option linter.unusedVariables false
set_option linter.unusedSimpArgs false

theorem svals_oneQ (l : List ByteArray) : ∀ u ∈ svals l, u.oneCell' = true := by
  intro u hu
  obtain ⟨x, _, rfl⟩ := List.mem_map.1 hu
  rfl
def StrsPost (l : List ByteArray) (w : World) (e : Ending) (w' : World) : Prop := ∃ r, e = .returned r ∧ w'.ownsRow w.heap.size 9 1 r l.length (svals l) ∧ Below w.heap.size w w'

set_option maxRecDepth 100000 in
set_option maxHeartbeats 400000 in
theorem cloneS_any (v : Value) (l : List ByteArray) (w : World) (hv : rdStrs w w.heap.size [v] l) (hl : l.length ≤ 1073741824) :
    Calls Tryd.prog 69 #[v] w (StrsPost l w) := by
  obtain ⟨i0, hi, hz0, hz1, hz2⟩ := info_parts info_strQ
  have hv := (strs_sl hv).1
  have hv' := hv
  obtain ⟨A, c, rfl, hc1, hc2, hA⟩ := hv
  simp only [svals_len] at hc1 hv' ⊢
  have HV := hid hv'; have HA := hid hA
  clear hv' hA
  go_enter Tryd.func69, Tryd.ntmps69
  cases A with
  | none =>
    have h0 : l = [] := by
      cases l with
      | nil => rfl
      | cons x l => obtain ⟨b, off, h, _⟩ := HA.out (by simp [svals]); cases h
    have H0 := hid h0; clear h0
    have hq : ∀ W : World, (binOp .eql 41 (.slice none l.length c) (.slice none 0 0)).run Tryd.prog W = .ok (.bool true) W := fun _ => rfl
    go_wp2
    go_ret
    exact ⟨_, rfl, by rw [H0.out]; exact World.ownsRow_nil _ _ _ _, Below.refl _ _⟩
  | some x =>
    have hq : ∀ W : World, (binOp .eql 41 (.slice (some x) l.length c) (.slice none 0 0)).run Tryd.prog W = .ok (.bool false) W := fun _ => rfl
    go_wp2_with (at_builtin; refine stop_here ?_)
    refine go_on ?_
    have hown : (w.alloc (.cells #[] 9)).ownsRow w.heap.size 9 1 (.slice (some ⟨w.heap.size, 0, none⟩) 0 0) 0 [] := by
      refine ⟨rfl, .inr ⟨w.heap.size, 0, #[], rfl, Nat.le_refl _, ?_, Nat.le_refl _, by simp [maxLen], rfl, rfl⟩⟩
      exact heap_alloc_new w _
    refine app_own (.tmp 5) (.tmp 6) 41 41 rfl rfl w.heap.size 9 i0 (.string ByteArray.empty) 1 16 Tryd.underlying41 hi hz0 hz1 hz2 rfl (by omega) _ _ _ rfl hown (.slice (some x) l.length c) l.length (svals l) rfl ?_ (by unfold maxLen; omega) (by omega) (by simp) ?_
    · have hs : Sl (w.alloc (.cells #[] 9)) w.heap.size (.slice (some x) l.length c) (svals l) := by
        obtain ⟨A, c', g1, g2, g3, g4⟩ := HV.out
        refine ⟨A, c', g1, g2, g3, fun h0 => ?_⟩
        obtain ⟨b, off, g5, g6, g7⟩ := g4 h0
        exact ⟨b, off, g5, g6, fun j u hj => cell_alloc g6 (g7 j u hj)⟩
      have := src_sl _ Tryd.underlying41 hs (svals_oneQ l)
      rwa [svals_len] at this
    · intro v2 w2 hown2 hg2 hb2
      go_wp2
      go_ret
      refine ⟨v2, rfl, by simpa using hown2, ?_⟩
      exact (bl1 w _).trans hb2
end Go.Proofs.YtkdpclllenbgfaaDoor
