/- 3 texts of this claim, in build order. -/
import Derived.Test.YtclhnnidbhchnaaPkihhlpba
import Derived.Test.YtclhnnidbhchnaaPlamdoeic
import Derived.Maps.OwnSet
import Derived.Maps.RangeWalk
import Derived.DeepKeys4
import Derived.Test.YtclhnnidbhchnaaPiinhkida
import Derived.Test.YtclhnnidbhchnaaPebbpdehd
/- The program's cuboid in memory: the map of its cells. -/
namespace Go.Proofs.Ytclhnnidbhchnaa
open Go.ChangeShapes Go.WideShapes Go.ChangeAt Go.RowKit Go.Maps
set_option linter.unusedVariables false
set_option linter.unusedSimpArgs false

/-- A key of the program: three codes. -/
def keyV (a b c : Int) : Value := .agg #[.int .i64 a, .int .i64 b, .int .i64 c]
def keyT (k : List Int) : Value := keyV (k.getD 0 0) (k.getD 1 0) (k.getD 2 0)
theorem key_law : Keyed Try.prog 99 := Keyed.of_law (deep_law_laid laidOut (m := 3) (by omega) (of_decide_eq_true (by kernel_rfl)) (by kernel_rfl) (by rw [Try.underlying99]))
def keyL (a b c : Int) : Lit := .string (keyBytes [.int .i64 a, .int .i64 b, .int .i64 c])
theorem wf64 {a : Int} (h : -9223372036854775808 ≤ a ∧ a ≤ 9223372036854775807) : (Lit.int .i64 a).wf = true := WalkArith.wf_i64 h
theorem keyLits_arr (a b c : Value) (d : Nat) : Try.prog.keyLits (d + 1) 99 [a, b, c] = ((Try.prog.keyLits d 3 [a]).bind fun x => (Try.prog.keyLits d 3 [b]).bind fun y => (Try.prog.keyLits d 3 [c]).bind fun z => some (x ++ (y ++ z))) := by
  have hc : Try.prog.cellsOf 99 = 3 := by kernel_rfl
  have hci : Try.prog.cellsOf 3 = 1 := by kernel_rfl
  conv => lhs; unfold Program.keyLits
  rw [Try.underlying99]
  simp only
  rw [if_pos (by rw [hc]; rfl), hci]
  have hr : List.range 3 = [0, 1, 2] := by decide
  rw [hr]
  simp only [List.mapM_cons, List.mapM_nil]
  simp
  cases Try.prog.keyLits d 3 [a] <;> cases Try.prog.keyLits d 3 [b] <;> cases Try.prog.keyLits d 3 [c] <;> simp
theorem keyLits_int (v : Value) (d : Nat) : Try.prog.keyLits (d + 1) 3 [v] = match v with | .int q' n => if q' = .i64 ∧ (Lit.int .i64 n).wf = true then some [.int .i64 n] else none | _ => none := by
  unfold Program.keyLits
  rw [Try.underlying3]
  cases v <;> rfl
theorem key_of {a b c : Int} (ha : -9223372036854775808 ≤ a ∧ a ≤ 9223372036854775807) (hb : -9223372036854775808 ≤ b ∧ b ≤ 9223372036854775807) (hc : -9223372036854775808 ≤ c ∧ c ≤ 9223372036854775807) : keyOf Try.prog 99 (keyV a b c) = some (keyL a b c) := by
  have hk : Try.prog.keyType 99 = true := by kernel_rfl
  have hcc : Try.prog.cellsOf 99 = 3 := by kernel_rfl
  have hf : (keyV a b c).formed Try.prog 99 = true := by simp [Value.formed, keyV, Try.underlying99, hcc]
  obtain ⟨n, hn⟩ : ∃ n, Try.prog.types.size + 1 = n + 1 + 1 := ⟨Try.prog.types.size - 1, by
    have : 0 < Try.prog.types.size := of_decide_eq_true (by kernel_rfl)
    omega⟩
  unfold keyOf
  rw [Try.underlying99]
  simp only [hk, hf, hn]
  have e0 : (keyV a b c).cells.toList = [.int .i64 a, .int .i64 b, .int .i64 c] := rfl
  rw [e0, keyLits_arr, keyLits_int, keyLits_int, keyLits_int]
  simp [wf64 ha, wf64 hb, wf64 hc, keyL]
set_option maxRecDepth 100000 in
/-- What is read as a key is one. -/
theorem key_inv {v : Value} {kl : Lit} (h : keyOf Try.prog 99 v = some kl) : ∃ a b c : Int, v = keyV a b c := by
  have hcc : Try.prog.cellsOf 99 = 3 := by kernel_rfl
  obtain ⟨n, hn⟩ : ∃ n, Try.prog.types.size + 1 = n + 1 + 1 := ⟨Try.prog.types.size - 1, by
    have : 0 < Try.prog.types.size := of_decide_eq_true (by kernel_rfl)
    omega⟩
  unfold keyOf at h
  rw [Try.underlying99] at h
  simp only at h
  rw [hn] at h
  by_cases hf : (Try.prog.keyType 99 && v.formed Try.prog 99) = true
  · rw [if_pos hf] at h
    rw [Bool.and_eq_true] at hf
    have hfo := hf.2
    cases v with
    | agg cs =>
      simp only [Value.formed, Try.underlying99, hcc] at hfo
      have hsz : cs.size = 3 := by simpa using hfo
      obtain ⟨x, y, z, rfl⟩ : ∃ x y z, cs = #[x, y, z] := by
        obtain ⟨l⟩ := cs
        match l, hsz with
        | [x, y, z], _ => exact ⟨x, y, z, rfl⟩
      have e0 : (Value.agg #[x, y, z]).cells.toList = [x, y, z] := rfl
      rw [e0, keyLits_arr, keyLits_int, keyLits_int, keyLits_int] at h
      cases x with
      | int qx a => cases y with
        | int qy b => cases z with
          | int qz c =>
            simp only at h
            by_cases h1 : qx = .i64 ∧ (Lit.int .i64 a).wf = true
            · by_cases h2 : qy = .i64 ∧ (Lit.int .i64 b).wf = true
              · by_cases h3 : qz = .i64 ∧ (Lit.int .i64 c).wf = true
                · exact ⟨a, b, c, by rw [h1.1, h2.1, h3.1]; rfl⟩
                · simp [h1, h2, h3] at h
              · simp [h1, h2] at h
            · simp [h1] at h
          | _ => simp at h
        | _ => simp at h
      | _ => simp at h
    | _ => simp [Value.formed, Try.underlying99] at hfo
  · rw [if_neg hf] at h
    cases h
end Go.Proofs.Ytclhnnidbhchnaa
/- The reference's cuboid: Less, Is. -/
namespace Go.Proofs.Ytclhnnidbhchnaa
open Go.ChangeShapes Go.WideShapes Go.ChangeAt Go.RowKit
set_option linter.unusedVariables false
set_option linter.unusedSimpArgs false

def LexRel (a b : List Int) (w : World) (i : Value) (wr : World) : Prop := ∃ k : Nat, k ≤ a.length ∧ k ≤ b.length ∧ i = .int .i64 k ∧ a.take k = b.take k ∧ Qu w wr
set_option maxRecDepth 100000 in
set_option maxHeartbeats 1600000 in
theorem lessR_any (v x : Value) (a b : List Int) (w : World) (B : Nat) (hv : Sl w B v (ivals a)) (hx : Sl w B x (ivals b)) :
    Calls Try.prog 70 #[v, x] w (Stays (.bool (lexB a b)) w) := by
  obtain ⟨A1, c1, rfl, hc1, hm1⟩ := hv.formI
  obtain ⟨A2, c2, rfl, hc2, hm2⟩ := hx.formI
  unfold maxLen at hm1 hm2
  have S1 := hid hv; have S2 := hid hx; clear hv hx
  go_enter Try.func70, Try.ntmps70
  go_wp2
  go_loopw [5] (fun i wr => LexRel a b w i wr) (fun i _ => a.length - (intOf i).toNat)
  case atStart => exact ⟨0, by omega, by omega, rfl, rfl, Qu.refl _⟩
  case round =>
    obtain ⟨k, hk1, hk2, rfl, ht, hq⟩ := hrel
    by_cases h1 : k < a.length
    · by_cases h2 : k < b.length
      · obtain ⟨b1, o1, rfl, hb1, hx1⟩ := S1.out.int h1
        obtain ⟨b2, o2, rfl, hb2, hx2⟩ := S2.out.int h2
        have g1 : wr.cell? ⟨b1, o1 + k, none⟩ = _ := (hq.cell _).trans hx1
        have g2 : wr.cell? ⟨b2, o2 + k, none⟩ = _ := (hq.cell _).trans hx2
        have HP := hid (fun h => lexB_part h1 h2 ht h)
        have HE := hid (fun h => take_succ_same h1 h2 ht h)
        clear hx1 hx2 ht
        generalize a.getD k 0 = p at *
        generalize b.getD k 0 = q at *
        by_cases hpq : p = q
        · have t1 : (p != q) = false := by simp [hpq]
          have HT := hid (HE.out hpq)
          clear hpq
          go_wp2
          go_quiet (fail)
          go_wp2
          go_roundw
          case rel => exact ⟨k + 1, by omega, by omega, by go_num, HT.out, hq.drewN _⟩
          case measure => simp [intOf]; omega
        · have t1 : (p != q) = true := by simpa using hpq
          have HT := hid (HP.out hpq)
          clear hpq
          go_wp2
          go_quiet (fail)
          go_wp2
          go_quiet (fail)
          go_wp2
          go_ret
          exact ⟨ret_bool HT.out.symm, (hq.drewN _).drewN _⟩
      · have HT := hid (lexB_end hk1 hk2 ht (.inr (by omega)))
        clear ht
        have hb : decide (k < b.length) = false := by rw [decide_eq_false_iff_not]; exact h2
        have hb' : decide (k < a.length) = true := by rw [decide_eq_true_eq]; exact h1
        go_wp2
        go_ret
        exact ⟨ret_bool HT.out.symm, hq⟩
    · have HT := hid (lexB_end hk1 hk2 ht (.inl (by omega)))
      clear ht
      have hb' : decide (k < a.length) = false := by rw [decide_eq_false_iff_not]; exact h1
      go_wp2
      go_ret
      exact ⟨ret_bool HT.out.symm, hq⟩
end Go.Proofs.Ytclhnnidbhchnaa
/- The reference's Empty. -/
namespace Go.Proofs.Ytclhnnidbhchnaa
open Go.ChangeShapes Go.WideShapes Go.ChangeAt Go.RowKit
set_option linter.unusedVariables false

def CellPost (c : CellM) (w : World) (e : Ending) (w' : World) : Prop := ∃ v, e = .returned v ∧ CellR w' w'.heap.size v c ∧ Below w.heap.size w w'
def emN (m : Int) : Nat := if m ≤ 0 then 0 else if m = 1 then 1 else 2
def EmptyRel (m : Int) (w0 : World) (C : Nat) (i : Value) (wr : World) : Prop :=
  ∃ (k : Nat) (V : Nat → Value), k ≤ emN m ∧ i = .int .i64 k ∧ Bld wr (C + 1) C 0 V (fun _ => List.replicate k 0) ∧ Below C w0 wr
theorem rep_snoc (k : Nat) : List.replicate k (0 : Int) ++ [0] = List.replicate (k + 1) 0 := by rw [List.replicate_succ']
set_option maxRecDepth 100000 in
set_option maxHeartbeats 1600000 in
theorem refEmpty_any (m : Int) (w : World) :
    Calls Try.prog 47 #[.int .i64 m] w (CellPost (emptyC (emN m)) w) := by
  obtain ⟨i0, hi, hz0, hz1, hz2⟩ := info_parts info_int
  go_enter Try.func47, Try.ntmps47
  go_wp2
  go_loopw [4] (fun i wr => EmptyRel m (w.alloc (.cells #[.int .i64 0, .slice none 0 0, .slice none 0 0, .slice none 0 0] 25)) (w.heap.size + 1) i wr) (fun i _ => 2 - (intOf i).toNat)
  case atStart => exact ⟨0, _, by omega, rfl, Bld.start (by simp), (Below.refl _ _).alloc (by simp) _⟩
  case round =>
    obtain ⟨k, V, hk, rfl, hb, hw⟩ := hrel
    have h2 : emN m ≤ 2 := by unfold emN; split <;> (try split) <;> omega
    have HB := hid hb; have HW := hid hw; clear hb hw
    by_cases hlt : k < emN m
    · have hm : (k : Int) < m ∧ (k : Int) < 2 := by unfold emN at hlt; split at hlt <;> (try split at hlt) <;> omega
      obtain ⟨hm1, hm2⟩ := hm
      have sz1 : w.heap.size + 1 + 1 ≤ (wr).heap.size := HB.out.hs
      have o1 : (wr).ownsRow (w.heap.size + 1 + 1) 3 1 (V 1) (k) (ivals (List.replicate k (0 : Int))) := by have h : (wr).ownsRow (w.heap.size + 1 + 1) 3 1 (V 1) (List.replicate k (0 : Int)).length (ivals (List.replicate k (0 : Int))) := HB.out.own 1 (by omega) (by omega); rwa [show (List.replicate k (0 : Int)).length = k from by simp] at h
      obtain ⟨a1, d1, sh1, hc1, hm1, -⟩ := own_cells o1
      have q1 : (wr).cell? ⟨w.heap.size + 1, 1, none⟩ = some (V 1) := (HB.out.cj 1 (by omega) (by omega))
      rw [sh1] at q1 o1; clear hc1 hm1
      go_wp2_with (at_builtin; refine stop_here ?_)
      refine go_on ?_
      refine app_own_at (.tmp 16) (.tmp 17) 23 23 rfl rfl (w.heap.size + 1 + 1) 3 i0 (.int .i64 0) 1 8 Try.underlying23 hi hz0 hz1 hz2 rfl (by decide) (.slice a1 (k) d1) _ _ rfl (o1.alloc _) (.slice (some ⟨wr.heap.size, 0, none⟩) 1 1) 1 (ivals [0]) rfl (Src.ofSlice _ Try.underlying23 _ 1 1 _ rfl (cell_one_at _ _ _ rfl) (by simp [ivals]; rfl)) (by first | omega | (simp only [maxLen]; omega)) (by first | omega | (simp only [maxLen]; omega)) (by rw [World.size_alloc]; omega) ?_
      intro v1 w1 hown1 hg1 _ hat1
      rw [← sh1] at hg1 hat1
      obtain ⟨mm1, ff1, st1, far1⟩ := HB.out.step 1 (by omega) (by omega) (bl1 _ _) hown1 hg1 hat1
      obtain ⟨b1, e1, rfl, -, -, -⟩ := own_cells hown1
      replace mm1 : w1.cell? ⟨w.heap.size + 1, 1, none⟩ = some (.slice a1 (k) d1) := mm1.trans (congrArg some sh1)
      have HB1 := hid st1; have HF1 := hid far1; clear st1 far1 hown1 hg1 hat1 q1 o1 sh1
      have sz2 : w.heap.size + 1 + 1 ≤ (w1.setCell ⟨w.heap.size + 1, 1, none⟩ (.slice b1 (k + 1) e1)).heap.size := HB1.out.hs
      have o2 : (w1.setCell ⟨w.heap.size + 1, 1, none⟩ (.slice b1 (k + 1) e1)).ownsRow (w.heap.size + 1 + 1) 3 1 (V 2) (k) (ivals (List.replicate k (0 : Int))) := by have h : (w1.setCell ⟨w.heap.size + 1, 1, none⟩ (.slice b1 (k + 1) e1)).ownsRow (w.heap.size + 1 + 1) 3 1 (V 2) (List.replicate k (0 : Int)).length (ivals (List.replicate k (0 : Int))) := HB1.out.own 2 (by omega) (by omega); rwa [show (List.replicate k (0 : Int)).length = k from by simp] at h
      obtain ⟨a2, d2, sh2, hc2, hm2, -⟩ := own_cells o2
      have q2 : (w1.setCell ⟨w.heap.size + 1, 1, none⟩ (.slice b1 (k + 1) e1)).cell? ⟨w.heap.size + 1, 2, none⟩ = some (V 2) := (HB1.out.cj 2 (by omega) (by omega))
      rw [sh2] at q2 o2; clear hc2 hm2
      go_wp2_with (at_builtin; refine stop_here ?_)
      refine go_on ?_
      refine app_own_at (.tmp 21) (.tmp 22) 23 23 rfl rfl (w.heap.size + 1 + 1) 3 i0 (.int .i64 0) 1 8 Try.underlying23 hi hz0 hz1 hz2 rfl (by decide) (.slice a2 (k) d2) _ _ rfl (o2.alloc _) (.slice (some ⟨w1.heap.size, 0, none⟩) 1 1) 1 (ivals [0]) rfl (Src.ofSlice _ Try.underlying23 _ 1 1 _ rfl (cell_one_at _ _ _ (by simp [World.setCell])) (by simp [ivals]; rfl)) (by first | omega | (simp only [maxLen]; omega)) (by first | omega | (simp only [maxLen]; omega)) (by rw [World.size_alloc]; omega) ?_
      intro v2 w2 hown2 hg2 _ hat2
      rw [← sh2] at hg2 hat2
      obtain ⟨mm2, ff2, st2, far2⟩ := HB1.out.step 2 (by omega) (by omega) (bl1 _ _) hown2 hg2 hat2
      obtain ⟨b2, e2, rfl, -, -, -⟩ := own_cells hown2
      replace mm2 : w2.cell? ⟨w.heap.size + 1, 2, none⟩ = some (.slice a2 (k) d2) := mm2.trans (congrArg some sh2)
      have HB2 := hid st2; have HF2 := hid far2; clear st2 far2 hown2 hg2 hat2 q2 o2 sh2
      have sz3 : w.heap.size + 1 + 1 ≤ (w2.setCell ⟨w.heap.size + 1, 2, none⟩ (.slice b2 (k + 1) e2)).heap.size := HB2.out.hs
      have o3 : (w2.setCell ⟨w.heap.size + 1, 2, none⟩ (.slice b2 (k + 1) e2)).ownsRow (w.heap.size + 1 + 1) 3 1 (V 3) (k) (ivals (List.replicate k (0 : Int))) := by have h : (w2.setCell ⟨w.heap.size + 1, 2, none⟩ (.slice b2 (k + 1) e2)).ownsRow (w.heap.size + 1 + 1) 3 1 (V 3) (List.replicate k (0 : Int)).length (ivals (List.replicate k (0 : Int))) := HB2.out.own 3 (by omega) (by omega); rwa [show (List.replicate k (0 : Int)).length = k from by simp] at h
      obtain ⟨a3, d3, sh3, hc3, hm3, -⟩ := own_cells o3
      have q3 : (w2.setCell ⟨w.heap.size + 1, 2, none⟩ (.slice b2 (k + 1) e2)).cell? ⟨w.heap.size + 1, 3, none⟩ = some (V 3) := (HB2.out.cj 3 (by omega) (by omega))
      rw [sh3] at q3 o3; clear hc3 hm3
      go_wp2_with (at_builtin; refine stop_here ?_)
      refine go_on ?_
      refine app_own_at (.tmp 26) (.tmp 27) 23 23 rfl rfl (w.heap.size + 1 + 1) 3 i0 (.int .i64 0) 1 8 Try.underlying23 hi hz0 hz1 hz2 rfl (by decide) (.slice a3 (k) d3) _ _ rfl (o3.alloc _) (.slice (some ⟨w2.heap.size, 0, none⟩) 1 1) 1 (ivals [0]) rfl (Src.ofSlice _ Try.underlying23 _ 1 1 _ rfl (cell_one_at _ _ _ (by simp [World.setCell])) (by simp [ivals]; rfl)) (by first | omega | (simp only [maxLen]; omega)) (by first | omega | (simp only [maxLen]; omega)) (by rw [World.size_alloc]; omega) ?_
      intro v3 w3 hown3 hg3 _ hat3
      rw [← sh3] at hg3 hat3
      obtain ⟨mm3, ff3, st3, far3⟩ := HB2.out.step 3 (by omega) (by omega) (bl1 _ _) hown3 hg3 hat3
      obtain ⟨b3, e3, rfl, -, -, -⟩ := own_cells hown3
      replace mm3 : w3.cell? ⟨w.heap.size + 1, 3, none⟩ = some (.slice a3 (k) d3) := mm3.trans (congrArg some sh3)
      have HB3 := hid st3; have HF3 := hid far3; clear st3 far3 hown3 hg3 hat3 q3 o3 sh3
      go_wp2
      go_roundw
      case rel => exact ⟨k + 1, _, by omega, by go_num, bld_same HB3.out (fun _ _ _ => rfl) (three_of (rep_snoc k) (rep_snoc k) (rep_snoc k)), HF3.out _ _ (by omega) (by omega) (HF2.out _ _ (by omega) (by omega) (HF1.out _ _ (by omega) (by omega) HW.out))⟩
      case measure => simp [intOf]; omega
    · have hm : ¬ ((k : Int) < m ∧ (k : Int) < 2) := by unfold emN at hlt; split at hlt <;> (try split at hlt) <;> omega
      obtain rfl : k = emN m := by omega
      have k0 := HB.out.c0
      have k1 := HB.out.cj 1 (by omega) (by omega)
      have k2 := HB.out.cj 2 (by omega) (by omega)
      have k3 := HB.out.cj 3 (by omega) (by omega)
      obtain ⟨z0, z1, z2, z3, f0, f1, f2, f3⟩ := (Blk.new w (.int .i64 0) (.slice none 0 0) (.slice none 0 0) (.slice none 0 0) 25).below HW.out (by omega)
      obtain ⟨a1, d1, sh1, -, -, -⟩ := own_cells (show wr.ownsRow (w.heap.size + 1 + 1) 3 1 (V 1) (emN m) (ivals (List.replicate (emN m) 0)) by have h := HB.out.own 1 (by omega) (by omega); rwa [List.length_replicate] at h)
      obtain ⟨a2, d2, sh2, -, -, -⟩ := own_cells (show wr.ownsRow (w.heap.size + 1 + 1) 3 1 (V 2) (emN m) (ivals (List.replicate (emN m) 0)) by have h := HB.out.own 2 (by omega) (by omega); rwa [List.length_replicate] at h)
      obtain ⟨a3, d3, sh3, -, -, -⟩ := own_cells (show wr.ownsRow (w.heap.size + 1 + 1) 3 1 (V 3) (emN m) (ivals (List.replicate (emN m) 0)) by have h := HB.out.own 3 (by omega) (by omega); rwa [List.length_replicate] at h)
      have hres : ∀ v0, CellR (((((wr.setCell ⟨w.heap.size, 0, none⟩ v0).setCell ⟨w.heap.size, 1, none⟩ (V 1)).setCell ⟨w.heap.size, 2, none⟩ (V 2)).setCell ⟨w.heap.size, 3, none⟩ (V 3))) (((((wr.setCell ⟨w.heap.size, 0, none⟩ v0).setCell ⟨w.heap.size, 1, none⟩ (V 1)).setCell ⟨w.heap.size, 2, none⟩ (V 2)).setCell ⟨w.heap.size, 3, none⟩ (V 3))).heap.size (.agg #[.int .i64 0, V 1, V 2, V 3]) (emptyC (emN m)) := fun v0 => (HB.out.upd (upd4 w.heap.size wr v0 (V 1) (V 2) (V 3)) (by omega) (by omega)).read
      have hbel : ∀ v0, Below w.heap.size w (((((wr.setCell ⟨w.heap.size, 0, none⟩ v0).setCell ⟨w.heap.size, 1, none⟩ (V 1)).setCell ⟨w.heap.size, 2, none⟩ (V 2)).setCell ⟨w.heap.size, 3, none⟩ (V 3))) := fun v0 => (((bl1 w _).trans (HW.out.mono (by omega))).trans ((upd4 w.heap.size wr v0 (V 1) (V 2) (V 3)).below (Nat.le_refl _) (by have := HW.out.size; rw [World.size_alloc] at this; omega)))
      rw [sh1, sh2, sh3] at hres hbel
      rw [sh1] at k1
      rw [sh2] at k2
      rw [sh3] at k3
      have HRES := hid hres; have HBL := hid hbel; clear hres hbel sh1 sh2 sh3
      by_cases hm1 : (emN m : Int) < m
      · have hm2 : ¬ (emN m : Int) < 2 := by omega
        go_wp2
        exact bodyPost_ret (v := .agg #[.int .i64 0, Value.slice a1 (emN m) d1, .slice a2 (emN m) d2, .slice a3 (emN m) d3]) (by simp [results, Try.results47, go_sem, z0, z1, z2, z3]; done) rfl ⟨_, rfl, HRES.out (.int .i64 0), HBL.out (.int .i64 0)⟩
      · go_wp2
        exact bodyPost_ret (v := .agg #[.int .i64 0, Value.slice a1 (emN m) d1, .slice a2 (emN m) d2, .slice a3 (emN m) d3]) (by simp [results, Try.results47, go_sem, z0, z1, z2, z3]; done) rfl ⟨_, rfl, HRES.out (.int .i64 0), HBL.out (.int .i64 0)⟩
end Go.Proofs.Ytclhnnidbhchnaa
