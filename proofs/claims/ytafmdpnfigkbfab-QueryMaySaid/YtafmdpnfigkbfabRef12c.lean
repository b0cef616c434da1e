/- The reference's Need. -/
import Derived.Test.YtafmdpnfigkbfabRef12a
import Derived.Test.YtafmdpnfigkbfabQry6
namespace Go.Proofs.Ytafmdpnfigkbfab
open Go.ChangeShapes Go.WideShapes Go.ChangeAt Go.RowKit
set_option linter.unusedVariables false
set_option linter.unusedSimpArgs false

/-- What the filters so far make of the level at a place. -/
def lvlAt (fs : List FilterX) (i : Nat) (n : Int) : Int := fs.foldl (fun n f => if f.1 = (i : Int) ∧ n < f.2.1 then f.2.1 else n) n
theorem foldMax_at (fs : List FilterX) (l : List Int) (i : Nat) (hi : i < l.length) (h0 : ∀ f ∈ fs, 0 ≤ f.1) : (fs.foldl setMax l).getD i 0 = lvlAt fs i (l.getD i 0) := by
  induction fs generalizing l with
  | nil => rfl
  | cons f fs ih =>
    rw [List.foldl_cons, ih _ (by rw [setMax_len]; exact hi) (fun g hg => h0 g (List.mem_cons_of_mem _ hg))]
    unfold lvlAt
    rw [List.foldl_cons]
    congr 1
    have hf := h0 f List.mem_cons_self
    unfold setMax
    by_cases he : f.1.toNat = i
    · rw [he, List.getD_eq_getElem?_getD (l := l.set _ _), List.getElem?_set_self hi]
      have : f.1 = (i : Int) := by omega
      simp only [this, true_and, Option.getD_some]
      split <;> omega
    · rw [List.getD_eq_getElem?_getD (l := l.set _ _), List.getElem?_set_ne he, ← List.getD_eq_getElem?_getD]
      have : f.1 ≠ (i : Int) := by omega
      simp [this]
theorem lvlAt_succ {fs : List FilterX} {k : Nat} (hk : k < fs.length) (i : Nat) (n : Int) : lvlAt (fs.take (k + 1)) i n = if fs[k].1 = (i : Int) ∧ lvlAt (fs.take k) i n < fs[k].2.1 then fs[k].2.1 else lvlAt (fs.take k) i n := by
  unfold lvlAt
  rw [List.take_succ_eq_append_getElem hk, List.foldl_append]; rfl
def RnRel (q : QueryX) (W0 : World) (out i : Value) (wr : World) : Prop := ∃ k : Nat, k ≤ q.1.length ∧ i = .int .i64 k ∧ wr.ownsRow W0.heap.size 3 1 out k (ivals ((needQ q).take k)) ∧ Below W0.heap.size W0 wr
def RnIn (q : QueryX) (i : Nat) (n : Int) (wo : World) (s5 s6 : Value) (wr : World) : Prop := ∃ j : Nat, j ≤ q.2.length ∧ s6 = .int .i64 j ∧ s5 = .int .i64 (lvlAt (q.2.take j) i n) ∧ Qu wo wr
set_option maxRecDepth 100000 in
set_option maxHeartbeats 1600000 in
theorem refNeed_any (v : Value) (q : QueryX) (w : World) (hv : QueryV w w.heap.size v q) (hq : q.1.length ≤ 1000) (h0 : ∀ f ∈ q.2, 0 ≤ f.1) :
    Calls Try.prog 15 #[v] w (RowPost (needQ q) w) := by
  obtain ⟨i0, hi, hz0, hz1, hz2⟩ := info_parts info_int
  obtain ⟨A1, c1, A2, c2, rfl, h1, h2⟩ := hv
  obtain ⟨hc1, hm1⟩ := h1.cap
  obtain ⟨hc2, hm2⟩ := h2.cap
  obtain ⟨W0, hW0⟩ : ∃ W, W = w.alloc (.cells #[.slice A1 q.1.length c1, .slice A2 q.2.length c2] 30) := ⟨_, rfl⟩
  have g0 : Below w.heap.size w W0 := by rw [hW0]; exact bl1 _ _
  have z0 : W0.heap.size = w.heap.size + 1 := by rw [hW0]; simp
  have y0 : W0.cell? ⟨w.heap.size, 0, none⟩ = some (.slice A1 q.1.length c1) := by rw [hW0]; simp [go_sem]
  have y1 : W0.cell? ⟨w.heap.size, 1, none⟩ = some (.slice A2 q.2.length c2) := by rw [hW0]; simp [go_sem]
  have HW0 := hid hW0
  have G0 := hid g0; have Y0 := hid y0; have Y1 := hid y1
  have H1 := hid (good_ints.on h1 g0)
  have H2 := hid (good_filters.on h2 g0)
  have hnl : (needQ q).length = q.1.length := foldMax_len _ _
  have HNA := hid (fun (i : Nat) (hi : i < q.1.length) => show (needQ q).getD i 0 = lvlAt q.2 i (q.1.getD i 0) from foldMax_at q.2 q.1 i hi h0)
  have HNL := hid hnl
  clear hW0 g0 y0 y1 h1 h2 hnl h0
  go_enter Try.func15, Try.ntmps15
  go_wp2
  rw [← HW0.out]
  go_loopw [3, 4] (fun out i wr => RnRel q W0 out i wr) (fun _ i _ => q.1.length - (intOf i).toNat)
  case atStart => exact ⟨0, by omega, rfl, World.ownsRow_nil _ _ _ _, Below.refl _ _⟩
  case round =>
    obtain ⟨k, hk, rfl, hown, hb⟩ := hrel
    have hs := hb.size
    have HB := hid hb; have HOW := hid hown
    have y0 := cellK hb (by omega) Y0.out
    have y1 := cellK hb (by omega) Y1.out
    have Y1r := hid y1
    clear hb hown
    by_cases hlt : k < q.1.length
    · obtain ⟨b, off, rfl, hbl, hcell, hii⟩ := ints_at H1.out hlt
      have hcw := cellK HB.out hbl hcell
      have hna := HNA.out k hlt
      have e1 : (needQ q).take (k + 1) = (needQ q).take k ++ [(needQ q).getD k 0] := by
        have := HNL.out
        rw [List.take_succ_eq_append_getElem (by omega), List.getD_eq_getElem?_getD, List.getElem?_eq_getElem (show k < (needQ q).length by omega)]; rfl
      rw [hna] at e1
      generalize q.1.getD k 0 = x0 at *
      have E1 := hid e1
      clear e1 hcell hii hna
      obtain ⟨wo, rfl⟩ : ∃ wo : World, wo = wr := ⟨_, rfl⟩
      go_wp2
      go_loopw [5, 6] (fun s5 s6 wr => RnIn q k x0 wo s5 s6 wr) (fun _ s6 _ => q.2.length - (intOf s6).toNat)
      case atStart => exact ⟨0, by omega, rfl, rfl, Qu.refl _⟩
      case round =>
        clear y0 y1 hcw
        obtain ⟨j, hj, rfl, rfl, hqu⟩ := hrel
        have HQU := hid hqu
        have y1 : wr.cell? ⟨w.heap.size, 1, none⟩ = _ := (hqu.cell _).trans Y1r.out
        clear hqu
        by_cases hjl : j < q.2.length
        · obtain ⟨b2, o2, AM, cM, rfl, hbl2, q0, q1, q2, i1, i2, hms⟩ := filters_at H2.out hjl
          have q0' : wr.cell? ⟨b2, o2 + j * 3, none⟩ = _ := (HQU.out.cell _).trans (cellK HB.out hbl2 q0)
          have q1' : wr.cell? ⟨b2, o2 + j * 3 + 1, none⟩ = _ := (HQU.out.cell _).trans (cellK HB.out hbl2 q1)
          have e2 := lvlAt_succ hjl k x0
          generalize lvlAt (q.2.take j) k x0 = n0 at *
          generalize q.2[j].1 = d at *
          generalize q.2[j].2.1 = lv at *
          have E2 := hid e2
          clear e2 q0 q1 q2 i1 i2 hms
          have hways : (d ≠ (k : Int)) ∨ (d = (k : Int) ∧ ¬ n0 < lv) ∨ (d = (k : Int) ∧ n0 < lv) := by omega
          rcases hways with a | ⟨a, a'⟩ | ⟨a, a'⟩
          · have t1 : (d == (k : Int)) = false := by rw [beq_eq_false_iff_ne]; exact a
            have HN := hid (show lvlAt (q.2.take (j + 1)) k x0 = n0 by rw [E2.out, if_neg (fun h => a h.1)])
            clear a
            go_wp2
            go_roundw
            case rel => exact ⟨j + 1, by omega, by go_num, by rw [HN.out], HQU.out⟩
            case measure => simp [intOf]; omega
          · have t1 : (d == (k : Int)) = true := by rw [beq_iff_eq]; exact a
            have t2 : decide (n0 < lv) = false := decide_eq_false a'
            have HN := hid (show lvlAt (q.2.take (j + 1)) k x0 = n0 by rw [E2.out, if_neg (fun h => a' h.2)])
            clear a a'
            go_wp2
            go_roundw
            case rel => exact ⟨j + 1, by omega, by go_num, by rw [HN.out], HQU.out⟩
            case measure => simp [intOf]; omega
          · have t1 : (d == (k : Int)) = true := by rw [beq_iff_eq]; exact a
            have t2 : decide (n0 < lv) = true := decide_eq_true a'
            have HN := hid (show lvlAt (q.2.take (j + 1)) k x0 = lv by rw [E2.out, if_pos ⟨a, a'⟩])
            clear a a'
            go_wp2
            go_roundw
            case rel => exact ⟨j + 1, by omega, by go_num, by rw [HN.out], HQU.out⟩
            case measure => simp [intOf]; omega
        · obtain rfl : j = q.2.length := by omega
          rw [List.take_of_length_le (by omega)]
          have B9 := hid (HB.out.trans ((HQU.out.below _).mono hs))
          have HOW9 := hid (own_stays HOW.out (HQU.out.below _))
          go_wp2_with (at_builtin; refine stop_here ?_)
          refine go_on ?_
          refine app_own (.tmp 50) (.tmp 52) 27 27 rfl rfl W0.heap.size 3 i0 (.int .i64 0) 1 8 Try.underlying27 hi hz0 hz1 hz2 rfl (by decide) _ k (ivals ((needQ q).take k)) rfl (HOW9.out.alloc _) (.slice (some ⟨wr.heap.size, 0, none⟩) 1 1) 1 (ivals [lvlAt q.2 k x0]) rfl (Src.ofSlice _ Try.underlying27 _ 1 1 _ rfl (cell_one_at' _ _ _ rfl) (by simp [ivals]; rfl)) (by first | omega | (simp only [maxLen]; omega)) (by first | omega | (simp only [maxLen]; omega)) (by simp; have := B9.out.size; omega) ?_
          intro v' w' hown' hg' hb'
          have hr : RnRel q W0 v' (.int .i64 ((k : Int) + 1)) w' := ⟨k + 1, by omega, by go_num, by rw [E1.out, ivals_snoc]; exact hown', ((B9.out.alloc B9.out.size _).trans hb')⟩
          have HR := hid hr
          clear hr hown' hg' hb'
          go_wp2
          go_roundw
          case rel => exact HR.out
          case measure => simp [intOf]; omega
    · obtain rfl : k = q.1.length := by omega
      have hfin : wr.ownsRow w.heap.size 3 1 u3 (needQ q).length (ivals (needQ q)) := by
        have := HOW.out
        rw [List.take_of_length_le (by rw [HNL.out]; omega)] at this
        rw [HNL.out]
        exact own_lessQ this (by omega)
      have HF := hid hfin
      clear hfin HOW
      go_wp2
      go_ret
      exact ⟨_, rfl, HF.out, G0.out.trans (HB.out.mono (by omega))⟩
end Go.Proofs.Ytafmdpnfigkbfab
