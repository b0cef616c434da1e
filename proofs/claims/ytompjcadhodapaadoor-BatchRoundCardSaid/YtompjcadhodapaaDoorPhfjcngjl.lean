/- 2 texts of this claim, in build order. -/
import Derived.Test.YtompjcadhodapaaDoorPfdpppmce
import Derived.Test.YtompjcadhodapaaDoorPhbannomp
/- slices.Clone at []int and []string. Printed by wip/gen_clone.py (first part). -/
namespace Go.Proofs.YtompjcadhodapaaDoor
open Go.ChangeShapes Go.WideShapes Go.ChangeAt Go.RowKit
set_option linter.unusedVariables false
set_option linter.unusedSimpArgs false

theorem ivals_oneQ (l : List Int) : ∀ u ∈ ivals l, u.oneCell' = true := by
  intro u hu
  obtain ⟨x, _, rfl⟩ := List.mem_map.1 hu
  rfl
theorem ints_slQ {w : World} {B : Nat} {v : Value} {l : List Int} (h : rdInts w B [v] l) : Sl w B v (ivals l) := rdSlice.sl (Value.int .i64) (fun es x hx => hx.1) h
set_option maxRecDepth 100000 in
set_option maxHeartbeats 400000 in
theorem cloneI_any (v : Value) (l : List Int) (w : World) (hv : rdInts w w.heap.size [v] l) (hl : l.length ≤ 1073741824) :
    Calls Tryd.prog 56 #[v] w (RowPost l w) := by
  obtain ⟨i0, hi, hz0, hz1, hz2⟩ := info_parts info_int
  have hv := ints_slQ hv
  have hv' := hv
  obtain ⟨A, c, rfl, hc1, hc2, hA⟩ := hv
  simp only [ivals_len] at hc1 hv' ⊢
  have HV := hid hv'; have HA := hid hA
  clear hv' hA
  go_enter Tryd.func56, Tryd.ntmps56
  cases A with
  | none =>
    have h0 : l = [] := by
      cases l with
      | nil => rfl
      | cons x l => obtain ⟨b, off, h, _⟩ := HA.out (by simp [ivals]); cases h
    have H0 := hid h0; clear h0
    have hq : ∀ W : World, (binOp .eql 52 (.slice none l.length c) (.slice none 0 0)).run Tryd.prog W = .ok (.bool true) W := fun _ => rfl
    go_wp2
    go_ret
    exact ⟨_, rfl, by rw [H0.out]; exact World.ownsRow_nil _ _ _ _, Below.refl _ _⟩
  | some x =>
    have hq : ∀ W : World, (binOp .eql 52 (.slice (some x) l.length c) (.slice none 0 0)).run Tryd.prog W = .ok (.bool false) W := fun _ => rfl
    go_wp2_with (at_builtin; refine stop_here ?_)
    refine go_on ?_
    have hown : (w.alloc (.cells #[] 3)).ownsRow w.heap.size 3 1 (.slice (some ⟨w.heap.size, 0, none⟩) 0 0) 0 [] := by
      refine ⟨rfl, .inr ⟨w.heap.size, 0, #[], rfl, Nat.le_refl _, ?_, Nat.le_refl _, by simp [maxLen], rfl, rfl⟩⟩
      exact heap_alloc_new w _
    refine app_own (.tmp 5) (.tmp 6) 52 52 rfl rfl w.heap.size 3 i0 (.int .i64 0) 1 8 Tryd.underlying52 hi hz0 hz1 hz2 rfl (by omega) _ _ _ rfl hown (.slice (some x) l.length c) l.length (ivals l) rfl ?_ (by unfold maxLen; omega) (by omega) (by simp) ?_
    · have hs : Sl (w.alloc (.cells #[] 3)) w.heap.size (.slice (some x) l.length c) (ivals l) := by
        obtain ⟨A, c', g1, g2, g3, g4⟩ := HV.out
        refine ⟨A, c', g1, g2, g3, fun h0 => ?_⟩
        obtain ⟨b, off, g5, g6, g7⟩ := g4 h0
        exact ⟨b, off, g5, g6, fun j u hj => cell_alloc g6 (g7 j u hj)⟩
      have := src_sl _ Tryd.underlying52 hs (ivals_oneQ l)
      rwa [ivals_len] at this
    · intro v2 w2 hown2 hg2 hb2
      go_wp2
      go_ret
      refine ⟨v2, rfl, by simpa using hown2, ?_⟩
      exact (bl1 w _).trans hb2
end Go.Proofs.YtompjcadhodapaaDoor
/- batch.Values. -/
namespace Go.Proofs.YtompjcadhodapaaDoor
open Go.ChangeShapes Go.WideShapes Go.ChangeAt Go.RowKit
set_option linter.unusedVariables false
set_option linter.unusedSimpArgs false

theorem info_intsB : (Tryd.prog.info? 52).map (fun i => (i.zero, i.size, i.bytes)) = some (some (.slice none 0 0), 1, 24) := by kernel_rfl
def valsOf (l : List FactX) : List (List Int) := l.map (fun f => f.2)
theorem valsOf_len (l : List FactX) : (valsOf l).length = l.length := by simp [valsOf]
theorem RowI.app_n {wa w4 : World} {base n : Nat} {out v' u : Value} {M : List (List Int)} {x : List Int} {vs : List Value} (hn : n = M.length) (h1 : vs.length = M.length) (h2 : wa.ownsRow base 52 1 out n vs)
    (h3 : ∀ j (h : j < M.length), wa.ownsRow base 3 1 (vs[j]'(by omega)) M[j].length (ivals M[j]))
    (hi : wa.ownsRow base 3 1 u x.length (ivals x))
    (ho : w4.ownsRow base 52 1 v' (n + 1) (vs ++ [u])) (hg : wa.grownBy w4 out.ownBlock) : RowI w4 base v' (M ++ [x]) := by
  subst hn
  exact RowI.app h1 h2 h3 hi ho hg
def VaRel (l : List FactX) (w : World) (out i : Value) (wr : World) : Prop := ∃ k : Nat, k ≤ l.length ∧ i = .int .i64 k ∧ RowI wr w.heap.size out (valsOf (l.take k)) ∧ Below w.heap.size w wr
def ValsPost (M : List (List Int)) (w : World) (e : Ending) (w' : World) : Prop := ∃ r, e = .returned r ∧ RowI w' w.heap.size r M ∧ Below w.heap.size w w'
set_option maxRecDepth 100000 in
set_option maxHeartbeats 1600000 in
theorem values_any (v : Value) (l : List FactX) (w : World) (hv : rdSlice 2 rdFact w w.heap.size [v] l) (hl : l.length ≤ 1000) (h2 : ∀ f ∈ l, f.2.length ≤ 1000) :
    Calls Tryd.prog 33 #[v] w (ValsPost (valsOf l) w) := by
  obtain ⟨i0, hi, hz0, hz1, hz2⟩ := info_parts info_intsB
  obtain ⟨A, c, e, hc, hm⟩ := hv.open_
  simp only [List.cons.injEq, and_true] at e
  subst e
  have HV := hid hv; have H2 := hid h2
  clear hv h2
  go_enter Tryd.func33, Tryd.ntmps33
  go_wp2
  go_loopw [3, 8] (fun out i wr => VaRel l w out i wr) (fun _ i _ => l.length - (intOf i).toNat)
  case atStart => exact ⟨0, by omega, rfl, RowI.nil_ _ _, Below.refl _ _⟩
  case round =>
    obtain ⟨k, hk, rfl, hrow, hb⟩ := hrel
    have hs := hb.size
    have HB := hid hb; have HRW := hid hrow
    clear hb hrow
    by_cases hlt : k < l.length
    · obtain ⟨b, off, AP, cP, AV, cV, rfl, hbl, q0, q1, r0, r1⟩ := facts_at (good_facts.stays HV.out HB.out) hlt
      have e1 : valsOf (l.take (k + 1)) = valsOf (l.take k) ++ [l[k].2] := by
        unfold valsOf; rw [List.take_succ_eq_append_getElem hlt, List.map_append]; rfl
      have hln : k = (valsOf (l.take k)).length := by rw [valsOf_len, List.length_take]; omega
      have hfl := H2.out _ (List.getElem_mem hlt)
      generalize l[k] = f at *
      obtain ⟨ps, ns⟩ := f
      simp only at q0 q1 r0 r1 e1 hfl
      obtain ⟨hpc, hpm⟩ := r0.cap
      obtain ⟨hnc, hnm⟩ := r1.cap
      obtain ⟨Wf, hWf⟩ : ∃ W, W = wr.alloc (.cells #[.slice AP ps.length cP, .slice AV ns.length cV] 54) := ⟨_, rfl⟩
      have gf : Below wr.heap.size wr Wf := by rw [hWf]; exact bl1 _ _
      have zf : Wf.heap.size = wr.heap.size + 1 := by rw [hWf]; simp
      have HCL := hid (cloneI_any (.slice AV ns.length cV) ns Wf (good_ints.on (good_ints.more r1 hs) gf) (by omega))
      have HWf := hid hWf; have GF := hid gf; have E1 := hid e1; have HLN := hid hln
      clear hWf gf e1 r0 r1 hln
      go_wp2_with fail
      rw [← HWf.out]
      refine HCL.out.mono ?_
      rintro e w2 ⟨u, rfl, hu, hb2⟩
      have z2 := hb2.size
      have GW := hid (GF.out.trans (hb2.mono (by omega)))
      have HU := hid hu
      obtain ⟨Au, cu, rfl, -, -, -⟩ := own_cells hu
      clear hb2 hu
      obtain ⟨vs, r1, r2, r3⟩ := HRW.out.on GW.out
      rw [← HLN.out] at r2
      have R3 := hid r3
      clear r3
      go_wp2_with (at_builtin; refine stop_here ?_)
      refine go_on ?_
      refine app_own_at (.tmp 12) (.tmp 16) 62 62 rfl rfl w.heap.size 52 i0 (.slice none 0 0) 1 24 Tryd.underlying62 hi hz0 hz1 hz2 rfl (by decide) _ k vs rfl (r2.alloc _) (.slice (some ⟨w2.heap.size, 0, none⟩) 1 1) 1 [_] rfl (Src.ofSlice _ Tryd.underlying62 _ 1 1 _ rfl (cell_one_at' _ _ _ rfl) (by simp; exact own_one _ HU.out)) (by simp only [maxLen]; omega) (by omega) (by rw [World.size_alloc]; omega) ?_
      intro v' w3 ho' hg' hb3 hat'
      have hrow' := RowI.app_n HLN.out r1 (r2.alloc _) (fun j hj => (R3.out j hj).alloc _) ((own_lessQ HU.out (show w.heap.size ≤ Wf.heap.size by omega)).alloc _) ho' hg'
      rw [← E1.out] at hrow'
      have HR' := hid hrow'
      have HB3 := hid (HB.out.trans ((GW.out.mono hs).trans (((Below.refl _ _).alloc (by omega) _).trans hb3)))
      clear ho' hg' hb3 hrow' r2 hat' R3 r1
      go_wp2
      go_roundw
      case rel => exact ⟨k + 1, by omega, by go_num, HR'.out, HB3.out⟩
      case measure => simp [intOf]; omega
    · obtain rfl : k = l.length := by omega
      have hfin := HRW.out
      rw [List.take_length] at hfin
      have HF := hid hfin
      clear hfin HRW
      go_wp2
      go_ret
      exact ⟨_, rfl, HF.out, HB.out⟩
end Go.Proofs.YtompjcadhodapaaDoor
