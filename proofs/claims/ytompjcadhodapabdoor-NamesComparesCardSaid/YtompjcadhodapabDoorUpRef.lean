/- The reference's Under and Up (layer 6). -/
import Derived.Test.YtompjcadhodapabDoorQry1
namespace Go.Proofs.YtompjcadhodapabDoor
open Go.ChangeShapes Go.WideShapes Go.ChangeAt Go.RowKit
set_option linter.unusedVariables false
set_option linter.unusedSimpArgs false

theorem refUnder_any (v x : Value) (p q : List ByteArray) (w : World) (hv : rdStrs w w.heap.size [v] p) (hx : rdStrs w w.heap.size [x] q) :
    Calls Tryd.prog 17 #[v, x] w (Stays (.bool (underB p q)) w) := by
  obtain ⟨A1, c1, e, hc1, hm1⟩ := hv.open_
  simp only [List.cons.injEq, and_true] at e
  subst e
  have hx0 := hx
  obtain ⟨A2, c2, e, hc2, hm2⟩ := hx.open_
  simp only [List.cons.injEq, and_true] at e
  subst e
  unfold underB
  by_cases h : q.length ≤ p.length
  · have d1 : ¬ (p.length : Int) < (q.length : Int) := by omega
    have hres : (decide (q.length ≤ p.length) && decide (p.take q.length = q)) = decide (p.take q.length = q) := by rw [decide_eq_true h, Bool.true_and]
    rw [hres]
    have HE := hid (sameS_any _ _ _ _ w (strs_sl (hv.head_ h)).1 (strs_sl hx0).1)
    generalize decide (p.take q.length = q) = res at *
    clear hv hx hx0 hres
    go_enter Tryd.func17, Tryd.ntmps17
    go_wp2_with fail
    refine HE.out.mono ?_
    rintro e w1 ⟨rfl, hq⟩
    go_wp2
    go_ret
    exact ⟨rfl, hq⟩
  · have d1 : (p.length : Int) < (q.length : Int) := by omega
    have hres : (decide (q.length ≤ p.length) && decide (p.take q.length = q)) = false := by rw [decide_eq_false h, Bool.false_and]
    rw [hres]
    clear hv hx hx0 hres
    go_enter Tryd.func17, Tryd.ntmps17
    go_wp2
    go_ret
    exact ⟨rfl, Qu.refl _⟩
def UpRel (p : List ByteArray) (w : World) (out i : Value) (wr : World) : Prop := ∃ k : Nat, k ≤ p.length ∧ i = .int .i64 k ∧ wr.ownsRow w.heap.size 9 1 out k (svals (p.take k)) ∧ Below w.heap.size w wr
set_option maxRecDepth 100000 in
set_option maxHeartbeats 800000 in
theorem refUp_any (v : Value) (n : Int) (p : List ByteArray) (w : World) (hv : rdStrs w w.heap.size [v] p) (hp : p.length ≤ 1073741824) :
    Calls Tryd.prog 15 #[v, .int .i64 n] w (StrsPost (upS p n) w) := by
  obtain ⟨i0, hi, hz0, hz1, hz2⟩ := info_parts info_strQ
  obtain ⟨A1, c1, e, hc1, hm1⟩ := hv.open_
  simp only [List.cons.injEq, and_true] at e
  subst e
  have HV := hid hv
  obtain ⟨u, hu⟩ : ∃ u, u = upS p n := ⟨_, rfl⟩
  have hul : u.length ≤ p.length ∧ ((u.length : Int) ≤ n ∨ u.length = 0) ∧ (u.length = p.length ∨ n ≤ (u.length : Int)) := by
    rw [hu]; unfold upS; rw [List.length_take]; omega
  obtain ⟨hu1, hu2, hu3⟩ := hul
  have HUT := hid (fun (k : Nat) (h : k < u.length) => show p.take (k + 1) = p.take k ++ [p[k]'(by omega)] from List.take_succ_eq_append_getElem (by omega))
  have HUA := hid (show p.take u.length = u by
    rw [hu]; unfold upS; rw [List.length_take, ← List.take_take]; simp)
  rw [← hu]
  clear hv hu
  go_enter Tryd.func15, Tryd.ntmps15
  go_wp2
  go_loopw [5, 6] (fun out i wr => ∃ k : Nat, k ≤ u.length ∧ i = .int .i64 k ∧ wr.ownsRow w.heap.size 9 1 out k (svals (p.take k)) ∧ Below w.heap.size w wr) (fun _ i _ => u.length - (intOf i).toNat)
  case atStart => exact ⟨0, by omega, rfl, World.ownsRow_nil _ _ _ _, Below.refl _ _⟩
  case round =>
    obtain ⟨k, hk, rfl, hown, hb⟩ := hrel
    have hs := hb.size
    have HB := hid hb; have HOW := hid hown
    clear hb hown
    by_cases hlt : k < u.length
    · have y1 : k < p.length := by omega
      have y2 : (k : Int) < n := by omega
      obtain ⟨b, off, rfl, hbl, hcell, -⟩ := strs_at HV.out y1
      have hcw := cellK HB.out hbl hcell
      have e1 := HUT.out k hlt
      generalize p[k] = s at *
      have E1 := hid e1
      clear hcell e1
      go_wp2_with (at_builtin; refine stop_here ?_)
      refine go_on ?_
      refine app_own (.tmp 18) (.tmp 23) 22 22 rfl rfl w.heap.size 9 i0 (.string ByteArray.empty) 1 16 Tryd.underlying22 hi hz0 hz1 hz2 rfl (by decide) _ k (svals (p.take k)) rfl (HOW.out.alloc _) (.slice (some ⟨wr.heap.size, 0, none⟩) 1 1) 1 (svals [s]) rfl (Src.ofSlice _ Tryd.underlying22 _ 1 1 _ rfl (cell_one_at' _ _ _ rfl) (by simp [svals]; rfl)) (by first | omega | (simp only [maxLen]; omega)) (by first | omega | (simp only [maxLen]; omega)) (by simp; omega) ?_
      intro v' w' hown' hg' hb'
      have HO' := hid (show w'.ownsRow w.heap.size 9 1 v' (k + 1) (svals (p.take (k + 1))) by rw [E1.out, svals_snoc]; exact hown')
      have HB' := hid ((HB.out.alloc hs _).trans hb')
      clear hown' hg' hb' HOW
      go_wp2
      go_roundw
      case rel => exact ⟨k + 1, by omega, by go_num, HO'.out, HB'.out⟩
      case measure => simp [intOf]; omega
    · have hke : k = u.length := by omega
      have hfin : wr.ownsRow w.heap.size 9 1 u5 u.length (svals u) := by
        have := HOW.out
        rw [hke, HUA.out] at this
        exact this
      have HF := hid hfin
      have hways : ¬ k < p.length ∨ (k < p.length ∧ ¬ (k : Int) < n) := by omega
      clear hfin hke HOW hlt hk HUT HUA hu1 hu2 hu3
      rcases hways with y1 | ⟨y1, y2⟩
      · go_wp2
        go_ret
        exact ⟨_, rfl, HF.out, HB.out⟩
      · go_wp2
        go_ret
        exact ⟨_, rfl, HF.out, HB.out⟩
end Go.Proofs.YtompjcadhodapabDoor
