/- 1 text of this claim, in build order. -/
import Derived.Test.YtclhnnidbhchnaaPlmndpbgl
/- The reference's Empty. -/
namespace Go.Proofs.Ytclhnnidbhchnaa
open Go.ChangeShapes Go.WideShapes Go.ChangeAt Go.RowKit
set_option linter.unusedVariables false

def CellPost (c : CellM) (w : World) (e : Ending) (w' : World) : Prop := ∃ v, e = .returned v ∧ CellR w' w'.heap.size v c ∧ Below w.heap.size w w'
def emN (m : Int) : Nat := if m ≤ 0 then 0 else if m = 1 then 1 else 2
def EmptyRel (m : Int) (w0 : World) (C : Nat) (i : Value) (wr : World) : Prop :=
  ∃ (k : Nat) (V : Nat → Value), k ≤ emN m ∧ i = .int .i64 k ∧ Bld wr (C + 1) C 0 V (fun _ => List.replicate k 0) ∧ Below C w0 wr
theorem rep_snoc (k : Nat) : List.replicate k (0 : Int) ++ [0] = List.replicate (k + 1) 0 := by rw [List.replicate_succ']
set_option maxRecDepth 100000 in
set_option maxHeartbeats 1600000 in
theorem refEmpty_any (m : Int) (w : World) :
    Calls Try.prog 47 #[.int .i64 m] w (CellPost (emptyC (emN m)) w) := by
  obtain ⟨i0, hi, hz0, hz1, hz2⟩ := info_parts info_int
  go_enter Try.func47, Try.ntmps47
  go_wp2
  go_loopw [4] (fun i wr => EmptyRel m (w.alloc (.cells #[.int .i64 0, .slice none 0 0, .slice none 0 0, .slice none 0 0] 25)) (w.heap.size + 1) i wr) (fun i _ => 2 - (intOf i).toNat)
  case atStart => exact ⟨0, _, by omega, rfl, Bld.start (by simp), (Below.refl _ _).alloc (by simp) _⟩
  case round =>
    obtain ⟨k, V, hk, rfl, hb, hw⟩ := hrel
    have h2 : emN m ≤ 2 := by unfold emN; split <;> (try split) <;> omega
    have HB := hid hb; have HW := hid hw; clear hb hw
    by_cases hlt : k < emN m
    · have hm : (k : Int) < m ∧ (k : Int) < 2 := by unfold emN at hlt; split at hlt <;> (try split at hlt) <;> omega
      obtain ⟨hm1, hm2⟩ := hm
      have sz1 : w.heap.size + 1 + 1 ≤ (wr).heap.size := HB.out.hs
      have o1 : (wr).ownsRow (w.heap.size + 1 + 1) 3 1 (V 1) (k) (ivals (List.replicate k (0 : Int))) := by have h : (wr).ownsRow (w.heap.size + 1 + 1) 3 1 (V 1) (List.replicate k (0 : Int)).length (ivals (List.replicate k (0 : Int))) := HB.out.own 1 (by omega) (by omega); rwa [show (List.replicate k (0 : Int)).length = k from by simp] at h
      obtain ⟨a1, d1, sh1, hc1, hm1, -⟩ := own_cells o1
      have q1 : (wr).cell? ⟨w.heap.size + 1, 1, none⟩ = some (V 1) := (HB.out.cj 1 (by omega) (by omega))
      rw [sh1] at q1 o1; clear hc1 hm1
      go_wp2_with (at_builtin; refine stop_here ?_)
      refine go_on ?_
      refine app_own_at (.tmp 16) (.tmp 17) 23 23 rfl rfl (w.heap.size + 1 + 1) 3 i0 (.int .i64 0) 1 8 Try.underlying23 hi hz0 hz1 hz2 rfl (by decide) (.slice a1 (k) d1) _ _ rfl (o1.alloc _) (.slice (some ⟨wr.heap.size, 0, none⟩) 1 1) 1 (ivals [0]) rfl (Src.ofSlice _ Try.underlying23 _ 1 1 _ rfl (cell_one_at _ _ _ rfl) (by simp [ivals]; rfl)) (by first | omega | (simp only [maxLen]; omega)) (by first | omega | (simp only [maxLen]; omega)) (by rw [World.size_alloc]; omega) ?_
      intro v1 w1 hown1 hg1 _ hat1
      rw [← sh1] at hg1 hat1
      obtain ⟨mm1, ff1, st1, far1⟩ := HB.out.step 1 (by omega) (by omega) (bl1 _ _) hown1 hg1 hat1
      obtain ⟨b1, e1, rfl, -, -, -⟩ := own_cells hown1
      replace mm1 : w1.cell? ⟨w.heap.size + 1, 1, none⟩ = some (.slice a1 (k) d1) := mm1.trans (congrArg some sh1)
      have HB1 := hid st1; have HF1 := hid far1; clear st1 far1 hown1 hg1 hat1 q1 o1 sh1
      have sz2 : w.heap.size + 1 + 1 ≤ (w1.setCell ⟨w.heap.size + 1, 1, none⟩ (.slice b1 (k + 1) e1)).heap.size := HB1.out.hs
      have o2 : (w1.setCell ⟨w.heap.size + 1, 1, none⟩ (.slice b1 (k + 1) e1)).ownsRow (w.heap.size + 1 + 1) 3 1 (V 2) (k) (ivals (List.replicate k (0 : Int))) := by have h : (w1.setCell ⟨w.heap.size + 1, 1, none⟩ (.slice b1 (k + 1) e1)).ownsRow (w.heap.size + 1 + 1) 3 1 (V 2) (List.replicate k (0 : Int)).length (ivals (List.replicate k (0 : Int))) := HB1.out.own 2 (by omega) (by omega); rwa [show (List.replicate k (0 : Int)).length = k from by simp] at h
      obtain ⟨a2, d2, sh2, hc2, hm2, -⟩ := own_cells o2
      have q2 : (w1.setCell ⟨w.heap.size + 1, 1, none⟩ (.slice b1 (k + 1) e1)).cell? ⟨w.heap.size + 1, 2, none⟩ = some (V 2) := (HB1.out.cj 2 (by omega) (by omega))
      rw [sh2] at q2 o2; clear hc2 hm2
      go_wp2_with (at_builtin; refine stop_here ?_)
      refine go_on ?_
      refine app_own_at (.tmp 21) (.tmp 22) 23 23 rfl rfl (w.heap.size + 1 + 1) 3 i0 (.int .i64 0) 1 8 Try.underlying23 hi hz0 hz1 hz2 rfl (by decide) (.slice a2 (k) d2) _ _ rfl (o2.alloc _) (.slice (some ⟨w1.heap.size, 0, none⟩) 1 1) 1 (ivals [0]) rfl (Src.ofSlice _ Try.underlying23 _ 1 1 _ rfl (cell_one_at _ _ _ (by simp [World.setCell])) (by simp [ivals]; rfl)) (by first | omega | (simp only [maxLen]; omega)) (by first | omega | (simp only [maxLen]; omega)) (by rw [World.size_alloc]; omega) ?_
      intro v2 w2 hown2 hg2 _ hat2
      rw [← sh2] at hg2 hat2
      obtain ⟨mm2, ff2, st2, far2⟩ := HB1.out.step 2 (by omega) (by omega) (bl1 _ _) hown2 hg2 hat2
      obtain ⟨b2, e2, rfl, -, -, -⟩ := own_cells hown2
      replace mm2 : w2.cell? ⟨w.heap.size + 1, 2, none⟩ = some (.slice a2 (k) d2) := mm2.trans (congrArg some sh2)
      have HB2 := hid st2; have HF2 := hid far2; clear st2 far2 hown2 hg2 hat2 q2 o2 sh2
      have sz3 : w.heap.size + 1 + 1 ≤ (w2.setCell ⟨w.heap.size + 1, 2, none⟩ (.slice b2 (k + 1) e2)).heap.size := HB2.out.hs
      have o3 : (w2.setCell ⟨w.heap.size + 1, 2, none⟩ (.slice b2 (k + 1) e2)).ownsRow (w.heap.size + 1 + 1) 3 1 (V 3) (k) (ivals (List.replicate k (0 : Int))) := by have h : (w2.setCell ⟨w.heap.size + 1, 2, none⟩ (.slice b2 (k + 1) e2)).ownsRow (w.heap.size + 1 + 1) 3 1 (V 3) (List.replicate k (0 : Int)).length (ivals (List.replicate k (0 : Int))) := HB2.out.own 3 (by omega) (by omega); rwa [show (List.replicate k (0 : Int)).length = k from by simp] at h
      obtain ⟨a3, d3, sh3, hc3, hm3, -⟩ := own_cells o3
      have q3 : (w2.setCell ⟨w.heap.size + 1, 2, none⟩ (.slice b2 (k + 1) e2)).cell? ⟨w.heap.size + 1, 3, none⟩ = some (V 3) := (HB2.out.cj 3 (by omega) (by omega))
      rw [sh3] at q3 o3; clear hc3 hm3
      go_wp2_with (at_builtin; refine stop_here ?_)
      refine go_on ?_
      refine app_own_at (.tmp 26) (.tmp 27) 23 23 rfl rfl (w.heap.size + 1 + 1) 3 i0 (.int .i64 0) 1 8 Try.underlying23 hi hz0 hz1 hz2 rfl (by decide) (.slice a3 (k) d3) _ _ rfl (o3.alloc _) (.slice (some ⟨w2.heap.size, 0, none⟩) 1 1) 1 (ivals [0]) rfl (Src.ofSlice _ Try.underlying23 _ 1 1 _ rfl (cell_one_at _ _ _ (by simp [World.setCell])) (by simp [ivals]; rfl)) (by first | omega | (simp only [maxLen]; omega)) (by first | omega | (simp only [maxLen]; omega)) (by rw [World.size_alloc]; omega) ?_
      intro v3 w3 hown3 hg3 _ hat3
      rw [← sh3] at hg3 hat3
      obtain ⟨mm3, ff3, st3, far3⟩ := HB2.out.step 3 (by omega) (by omega) (bl1 _ _) hown3 hg3 hat3
      obtain ⟨b3, e3, rfl, -, -, -⟩ := own_cells hown3
      replace mm3 : w3.cell? ⟨w.heap.size + 1, 3, none⟩ = some (.slice a3 (k) d3) := mm3.trans (congrArg some sh3)
      have HB3 := hid st3; have HF3 := hid far3; clear st3 far3 hown3 hg3 hat3 q3 o3 sh3
      go_wp2
      go_roundw
      case rel => exact ⟨k + 1, _, by omega, by go_num, bld_same HB3.out (fun _ _ _ => rfl) (three_of (rep_snoc k) (rep_snoc k) (rep_snoc k)), HF3.out _ _ (by omega) (by omega) (HF2.out _ _ (by omega) (by omega) (HF1.out _ _ (by omega) (by omega) HW.out))⟩
      case measure => simp [intOf]; omega
    · have hm : ¬ ((k : Int) < m ∧ (k : Int) < 2) := by unfold emN at hlt; split at hlt <;> (try split at hlt) <;> omega
      obtain rfl : k = emN m := by omega
      have k0 := HB.out.c0
      have k1 := HB.out.cj 1 (by omega) (by omega)
      have k2 := HB.out.cj 2 (by omega) (by omega)
      have k3 := HB.out.cj 3 (by omega) (by omega)
      obtain ⟨z0, z1, z2, z3, f0, f1, f2, f3⟩ := (Blk.new w (.int .i64 0) (.slice none 0 0) (.slice none 0 0) (.slice none 0 0) 25).below HW.out (by omega)
      obtain ⟨a1, d1, sh1, -, -, -⟩ := own_cells (show wr.ownsRow (w.heap.size + 1 + 1) 3 1 (V 1) (emN m) (ivals (List.replicate (emN m) 0)) by have h := HB.out.own 1 (by omega) (by omega); rwa [List.length_replicate] at h)
      obtain ⟨a2, d2, sh2, -, -, -⟩ := own_cells (show wr.ownsRow (w.heap.size + 1 + 1) 3 1 (V 2) (emN m) (ivals (List.replicate (emN m) 0)) by have h := HB.out.own 2 (by omega) (by omega); rwa [List.length_replicate] at h)
      obtain ⟨a3, d3, sh3, -, -, -⟩ := own_cells (show wr.ownsRow (w.heap.size + 1 + 1) 3 1 (V 3) (emN m) (ivals (List.replicate (emN m) 0)) by have h := HB.out.own 3 (by omega) (by omega); rwa [List.length_replicate] at h)
      have hres : ∀ v0, CellR (((((wr.setCell ⟨w.heap.size, 0, none⟩ v0).setCell ⟨w.heap.size, 1, none⟩ (V 1)).setCell ⟨w.heap.size, 2, none⟩ (V 2)).setCell ⟨w.heap.size, 3, none⟩ (V 3))) (((((wr.setCell ⟨w.heap.size, 0, none⟩ v0).setCell ⟨w.heap.size, 1, none⟩ (V 1)).setCell ⟨w.heap.size, 2, none⟩ (V 2)).setCell ⟨w.heap.size, 3, none⟩ (V 3))).heap.size (.agg #[.int .i64 0, V 1, V 2, V 3]) (emptyC (emN m)) := fun v0 => (HB.out.upd (upd4 w.heap.size wr v0 (V 1) (V 2) (V 3)) (by omega) (by omega)).read
      have hbel : ∀ v0, Below w.heap.size w (((((wr.setCell ⟨w.heap.size, 0, none⟩ v0).setCell ⟨w.heap.size, 1, none⟩ (V 1)).setCell ⟨w.heap.size, 2, none⟩ (V 2)).setCell ⟨w.heap.size, 3, none⟩ (V 3))) := fun v0 => (((bl1 w _).trans (HW.out.mono (by omega))).trans ((upd4 w.heap.size wr v0 (V 1) (V 2) (V 3)).below (Nat.le_refl _) (by have := HW.out.size; rw [World.size_alloc] at this; omega)))
      rw [sh1, sh2, sh3] at hres hbel
      rw [sh1] at k1
      rw [sh2] at k2
      rw [sh3] at k3
      have HRES := hid hres; have HBL := hid hbel; clear hres hbel sh1 sh2 sh3
      by_cases hm1 : (emN m : Int) < m
      · have hm2 : ¬ (emN m : Int) < 2 := by omega
        go_wp2
        exact bodyPost_ret (v := .agg #[.int .i64 0, Value.slice a1 (emN m) d1, .slice a2 (emN m) d2, .slice a3 (emN m) d3]) (by simp [results, Try.results47, go_sem, z0, z1, z2, z3]; done) rfl ⟨_, rfl, HRES.out (.int .i64 0), HBL.out (.int .i64 0)⟩
      · go_wp2
        exact bodyPost_ret (v := .agg #[.int .i64 0, Value.slice a1 (emN m) d1, .slice a2 (emN m) d2, .slice a3 (emN m) d3]) (by simp [results, Try.results47, go_sem, z0, z1, z2, z3]; done) rfl ⟨_, rfl, HRES.out (.int .i64 0), HBL.out (.int .i64 0)⟩
end Go.Proofs.Ytclhnnidbhchnaa
