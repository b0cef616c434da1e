/- 1 text of this claim, in build order. -/
import Derived.Test.YtkdpclllenbgfaaDoorPiidkmdlc
/- Schemas: named, Base, Covers, Corner. -/
namespace Go.Proofs.YtkdpclllenbgfaaDoor
open Go.ChangeShapes Go.WideShapes Go.ChangeAt Go.RowKit
set_option linter.unusedVariables false
set_option linter.unusedSimpArgs false

theorem named_any (v : Value) (l : List ByteArray) (most : Nat) (w : World) (hv : rdStrs w w.heap.size [v] l) (hm : most ≤ 1000) :
    Calls Tryd.prog 56 #[v, .int .i64 (most : Int)] w (Gives (.bool (namedB l most)) w) := by
  have hv0 := hv
  obtain ⟨A, c, e, hc1, hc2⟩ := hv.open_
  simp only [List.cons.injEq, and_true] at e
  subst e
  have HH := hid (hasNamed_any _ l w hv0)
  have HAP := hid (fun W (hb : Below w.heap.size w W) (h : l.length ≤ 1000) => apart_any _ l W (good_strs.on hv0 hb) h)
  have hres : namedB l most = (decide (1 ≤ l.length) && decide (l.length ≤ most) && !(l.any fun s => !nameB s) && decide l.Nodup) := by
    unfold namedB; rw [all_any_not]
  rw [hres]
  clear hv hv0 hres
  generalize (l.any fun s => !nameB s) = b1 at *
  generalize decide l.Nodup = b2 at *
  by_cases h1 : 1 ≤ l.length
  · have d1 : decide ((1 : Int) ≤ (l.length : Int)) = true := by rw [decide_eq_true_eq]; omega
    by_cases h2 : l.length ≤ most
    · have d2 : decide ((l.length : Int) ≤ (most : Int)) = true := by rw [decide_eq_true_eq]; omega
      have hr : (decide (1 ≤ l.length) && decide (l.length ≤ most) && !b1 && b2) = (!b1 && b2) := by simp [h1, h2]
      rw [hr]
      clear hr
      go_enter Tryd.func56, Tryd.ntmps56
      go_wp2_with fail
      refine HH.out.mono ?_
      rintro e w1 ⟨rfl, hb⟩
      have HB := hid hb; clear hb
      cases b1
      · go_wp2_with fail
        refine (HAP.out _ HB.out (by omega)).mono ?_
        rintro e w2 ⟨rfl, hb2⟩
        go_wp2
        go_ret
        exact ⟨rfl, HB.out.trans (hb2.mono HB.out.size)⟩
      · go_wp2
        go_ret
        exact ⟨rfl, HB.out⟩
    · have d2 : decide ((l.length : Int) ≤ (most : Int)) = false := by rw [decide_eq_false_iff_not]; omega
      have hr : (decide (1 ≤ l.length) && decide (l.length ≤ most) && !b1 && b2) = false := by simp [h2]
      rw [hr]
      clear hr
      go_enter Tryd.func56, Tryd.ntmps56
      go_wp2
      go_ret
      exact ⟨rfl, Below.refl _ _⟩
  · have d1 : decide ((1 : Int) ≤ (l.length : Int)) = false := by rw [decide_eq_false_iff_not]; omega
    have hr : (decide (1 ≤ l.length) && decide (l.length ≤ most) && !b1 && b2) = false := by simp [h1]
    rw [hr]
    clear hr
    go_enter Tryd.func56, Tryd.ntmps56
    go_wp2
    go_ret
    exact ⟨rfl, Below.refl _ _⟩
def BaseRel (s : SchemaX) (w : World) (out i : Value) (wr : World) : Prop := ∃ k : Nat, k ≤ s.1.length ∧ i = .int .i64 k ∧ wr.ownsRow w.heap.size 3 1 out k (ivals ((baseX s).take k)) ∧ Below w.heap.size w wr
set_option maxRecDepth 100000 in
set_option maxHeartbeats 800000 in
theorem base_any (v : Value) (s : SchemaX) (w : World) (hv : SchemaV w w.heap.size v s) (hl : s.1.length ≤ 1000) :
    Calls Tryd.prog 57 #[v] w (RowPost (baseX s) w) := by
  obtain ⟨i0, hi, hz0, hz1, hz2⟩ := info_parts info_int
  obtain ⟨A1, c1, A2, c2, A3, c3, rfl, h1, h2, h3⟩ := hv
  obtain ⟨-, -, e, hc1, hc2⟩ := h1.open_
  have H1 := hid h1
  have hbl : (baseX s).length = s.1.length := by simp [baseX]
  clear h1 h2 h3
  obtain ⟨W0, hW0⟩ : ∃ W, W = w.alloc (.cells #[.slice A1 s.1.length c1, .slice A2 s.2.1.length c2, .slice A3 s.2.2.length c3] 44) := ⟨_, rfl⟩
  have g0 := hid (show Below w.heap.size w W0 by rw [hW0]; exact bl1 _ _)
  have z0 : W0.heap.size = w.heap.size + 1 := by rw [hW0]; simp
  have HW0 := hid hW0
  clear hW0
  go_enter Tryd.func57, Tryd.ntmps57
  go_wp2
  rw [← HW0.out]
  go_loopw [3, 9] (fun out i wr => BaseRel s w out i wr) (fun _ i _ => s.1.length - (intOf i).toNat)
  case atStart => exact ⟨0, by omega, rfl, World.ownsRow_nil _ _ _ _, g0.out⟩
  case round =>
    obtain ⟨k, hk, rfl, hown, hb⟩ := hrel
    have hs := hb.size
    have HB := hid hb
    by_cases hlt : k < s.1.length
    · obtain ⟨b, off, rfl, hbl, es, hel, hcell, hr⟩ := (good_dims.stays H1.out HB.out).at_ hlt
      have e1 : (baseX s).take (k + 1) = (baseX s).take k ++ [((s.1[k].2.length : Nat) : Int)] := by
        rw [List.take_succ_eq_append_getElem (by simp [baseX]; omega)]; simp [baseX]
      generalize s.1[k] = d at *
      obtain ⟨nm, ls⟩ := d
      obtain ⟨hl1, ⟨ex, -⟩, hlv⟩ := hr
      obtain ⟨AL, cL, eL, hL1, hL2⟩ := hlv.open_
      obtain rfl : es = [.string nm, .slice AL ls.length cL] := by
        rw [← List.take_append_drop 1 es, ex, eL]; rfl
      have q0 : wr.cell? ⟨b, off + k * 2, none⟩ = some (.string nm) := hcell 0 _ rfl
      have q1 : wr.cell? ⟨b, off + k * 2 + 1, none⟩ = some (.slice AL ls.length cL) := hcell 1 _ rfl
      simp only at e1
      clear hcell hlv hb ex eL hl1 hel
      have E1 := hid e1; have HOW := hid hown
      generalize ls.length = n at *
      clear e1 hown
      go_wp2_with (at_builtin; refine stop_here ?_)
      refine go_on ?_
      refine app_own (.tmp 13) (.tmp 17) 29 29 rfl rfl w.heap.size 3 i0 (.int .i64 0) 1 8 Tryd.underlying29 hi hz0 hz1 hz2 rfl (by decide) _ k (ivals ((baseX s).take k)) rfl ((HOW.out.alloc _).alloc _) (.slice (some ⟨wr.heap.size + 1, 0, none⟩) 1 1) 1 (ivals [(n : Int)]) rfl (Src.ofSlice _ Tryd.underlying29 _ 1 1 _ rfl (cell_one_at' _ _ _ (by simp)) (by simp [ivals]; rfl)) (by first | omega | (simp only [maxLen]; omega)) (by first | omega | (simp only [maxLen]; omega)) (by simp; omega) ?_
      intro v' w' hown' hg' hb'
      have hr : BaseRel s w v' (.int .i64 ((k : Int) + 1)) w' := ⟨k + 1, by omega, by go_num, by rw [E1.out, ivals_snoc]; exact hown', (((HB.out.alloc hs _).alloc (by simp; omega) _).trans hb')⟩
      have HR := hid hr
      clear hr hown' hg' hb'
      go_wp2
      go_roundw
      case rel => exact HR.out
      case measure => simp [intOf]; omega
    · obtain rfl : k = s.1.length := by omega
      have hfin : wr.ownsRow w.heap.size 3 1 u3 (baseX s).length (ivals (baseX s)) := by
        rw [hbl]; rwa [List.take_of_length_le (by omega)] at hown
      have HF := hid hfin
      clear hown hfin
      go_wp2
      go_ret
      exact ⟨_, rfl, HF.out, HB.out⟩
def CovRel (v x : List Int) (w : World) (i : Value) (wr : World) : Prop := ∃ k : Nat, k ≤ v.length ∧ i = .int .i64 k ∧ (∀ j, j < k → x.getD j 0 ≤ v.getD j 0) ∧ Qu w wr
theorem covers_iff {v x : List Int} (h : v.length = x.length) : coversB v x = true ↔ ∀ j, j < v.length → x.getD j 0 ≤ v.getD j 0 := by
  unfold coversB
  rw [decide_eq_true h, Bool.true_and, List.all_eq_true]
  constructor
  · intro h' j hj
    have := h' (decide (x.getD j 0 ≤ v.getD j 0)) (by
      rw [List.mem_iff_getElem]
      refine ⟨j, by rw [List.length_zipWith]; omega, ?_⟩
      rw [List.getElem_zipWith]
      simp [List.getD_eq_getElem?_getD, List.getElem?_eq_getElem hj, List.getElem?_eq_getElem (show j < x.length by omega)])
    simpa using this
  · intro h' b hb
    obtain ⟨j, hj, rfl⟩ := List.mem_iff_getElem.1 hb
    rw [List.length_zipWith] at hj
    rw [List.getElem_zipWith]
    have := h' j (by omega)
    rw [List.getD_eq_getElem?_getD, List.getD_eq_getElem?_getD, List.getElem?_eq_getElem (show j < v.length by omega), List.getElem?_eq_getElem (show j < x.length by omega)] at this
    simpa using this
set_option maxRecDepth 100000 in
set_option maxHeartbeats 800000 in
theorem covers_any (v x : Value) (l r : List Int) (w : World) (hv : rdInts w w.heap.size [v] l) (hx : rdInts w w.heap.size [x] r) :
    Calls Tryd.prog 61 #[v, x] w (Stays (.bool (coversB l r)) w) := by
  obtain ⟨A1, c1, e, hc1, hm1⟩ := hv.open_
  simp only [List.cons.injEq, and_true] at e
  subst e
  obtain ⟨A2, c2, e, hc2, hm2⟩ := hx.open_
  simp only [List.cons.injEq, and_true] at e
  subst e
  have S1 := hid hv; have S2 := hid hx; clear hv hx
  go_enter Tryd.func61, Tryd.ntmps61
  by_cases hl : l.length = r.length
  · have HL := hid hl
    have hci := covers_iff hl
    have HCI := hid hci
    have u0 : ((l.length : Int) != (r.length : Int)) = false := by simp [hl]
    clear hl hci
    go_wp2
    go_loopw [13] (fun i wr => CovRel l r w i wr) (fun i _ => l.length - (intOf i).toNat)
    case atStart => exact ⟨0, by omega, rfl, fun j hj => by omega, Qu.refl _⟩
    case round =>
      obtain ⟨k, hk, rfl, hsame, hq⟩ := hrel
      have HS := hid hsame; clear hsame
      by_cases hlt : k < l.length
      · have hlt' : k < r.length := by have := HL.out; omega
        obtain ⟨b1, o1, rfl, hb1, hx1, hi1⟩ := ints_at S1.out hlt
        obtain ⟨b2, o2, rfl, hb2, hx2, hi2⟩ := ints_at S2.out hlt'
        have g1 : wr.cell? ⟨b1, o1 + k, none⟩ = _ := (hq.cell _).trans hx1
        have g2 : wr.cell? ⟨b2, o2 + k, none⟩ = _ := (hq.cell _).trans hx2
        clear hx1 hx2 hi1 hi2
        have hstep : r.getD k 0 ≤ l.getD k 0 → ∀ j, j < k + 1 → r.getD j 0 ≤ l.getD j 0 := fun h j hj => by
          by_cases e : j = k
          · subst e; exact h
          · exact HS.out j (by omega)
        have hno : ¬ r.getD k 0 ≤ l.getD k 0 → coversB l r = false := fun h => by
          rw [Bool.eq_false_iff]; exact fun h' => h (HCI.out.1 h' k hlt)
        generalize l.getD k 0 = p1 at *
        generalize r.getD k 0 = p2 at *
        by_cases he : p2 ≤ p1
        · have HS' := hid (hstep he)
          have t2 : decide (p1 < p2) = false := by rw [decide_eq_false_iff_not]; omega
          clear hstep hno
          go_wp2
          go_quiet (fail)
          go_wp2
          go_roundw
          case rel => exact ⟨k + 1, by omega, by go_num, HS'.out, hq.drewN _⟩
          case measure => simp [intOf]; omega
        · have HN := hid (hno he)
          have t2 : decide (p1 < p2) = true := by rw [decide_eq_true_eq]; omega
          clear hstep hno
          go_wp2
          go_quiet (fail)
          go_wp2
          go_ret
          exact ⟨by rw [HN.out]; rfl, hq.drewN _⟩
      · have HN := hid (HCI.out.2 (fun j hj => HS.out j (by omega)))
        go_wp2
        go_ret
        exact ⟨by rw [HN.out]; rfl, hq⟩
  · have u0 : ((l.length : Int) != (r.length : Int)) = true := by simp; omega
    have hn : coversB l r = false := by unfold coversB; rw [decide_eq_false hl]; rfl
    have HN := hid hn
    clear hl hn
    go_wp2
    go_ret
    exact ⟨by rw [HN.out]; rfl, Qu.refl _⟩
end Go.Proofs.YtkdpclllenbgfaaDoor
