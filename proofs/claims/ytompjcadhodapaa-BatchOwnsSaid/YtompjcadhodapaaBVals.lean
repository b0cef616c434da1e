/- batch.Values. -/
import Derived.Test.YtompjcadhodapaaBShape
import Derived.Test.YtompjcadhodapaaClone
namespace Go.Proofs.Ytompjcadhodapaa
open Go.ChangeShapes Go.WideShapes Go.ChangeAt Go.RowKit
set_option linter.unusedVariables false
set_option linter.unusedSimpArgs false

theorem info_intsB : (Try.prog.info? 32).map (fun i => (i.zero, i.size, i.bytes)) = some (some (.slice none 0 0), 1, 24) := by kernel_rfl
def valsOf (l : List FactX) : List (List Int) := l.map (fun f => f.2)
theorem valsOf_len (l : List FactX) : (valsOf l).length = l.length := by simp [valsOf]
theorem RowI.app_n {wa w4 : World} {base n : Nat} {out v' u : Value} {M : List (List Int)} {x : List Int} {vs : List Value} (hn : n = M.length) (h1 : vs.length = M.length) (h2 : wa.ownsRow base 32 1 out n vs)
    (h3 : ∀ j (h : j < M.length), wa.ownsRow base 3 1 (vs[j]'(by omega)) M[j].length (ivals M[j]))
    (hi : wa.ownsRow base 3 1 u x.length (ivals x))
    (ho : w4.ownsRow base 32 1 v' (n + 1) (vs ++ [u])) (hg : wa.grownBy w4 out.ownBlock) : RowI w4 base v' (M ++ [x]) := by
  subst hn
  exact RowI.app h1 h2 h3 hi ho hg
def VaRel (l : List FactX) (w : World) (out i : Value) (wr : World) : Prop := ∃ k : Nat, k ≤ l.length ∧ i = .int .i64 k ∧ RowI wr w.heap.size out (valsOf (l.take k)) ∧ Below w.heap.size w wr
def ValsPost (M : List (List Int)) (w : World) (e : Ending) (w' : World) : Prop := ∃ r, e = .returned r ∧ RowI w' w.heap.size r M ∧ Below w.heap.size w w'
set_option maxRecDepth 100000 in
set_option maxHeartbeats 1600000 in
theorem values_any (v : Value) (l : List FactX) (w : World) (hv : rdSlice 2 rdFact w w.heap.size [v] l) (hl : l.length ≤ 1000) (h2 : ∀ f ∈ l, f.2.length ≤ 1000) :
    Calls Try.prog 9 #[v] w (ValsPost (valsOf l) w) := by
  obtain ⟨i0, hi, hz0, hz1, hz2⟩ := info_parts info_intsB
  obtain ⟨A, c, e, hc, hm⟩ := hv.open_
  simp only [List.cons.injEq, and_true] at e
  subst e
  have HV := hid hv; have H2 := hid h2
  clear hv h2
  go_enter Try.func9, Try.ntmps9
  go_wp2
  go_loopw [3, 8] (fun out i wr => VaRel l w out i wr) (fun _ i _ => l.length - (intOf i).toNat)
  case atStart => exact ⟨0, by omega, rfl, RowI.nil_ _ _, Below.refl _ _⟩
  case round =>
    obtain ⟨k, hk, rfl, hrow, hb⟩ := hrel
    have hs := hb.size
    have HB := hid hb; have HRW := hid hrow
    clear hb hrow
    by_cases hlt : k < l.length
    · obtain ⟨b, off, AP, cP, AV, cV, rfl, hbl, q0, q1, r0, r1⟩ := facts_at (good_facts.stays HV.out HB.out) hlt
      have e1 : valsOf (l.take (k + 1)) = valsOf (l.take k) ++ [l[k].2] := by
        unfold valsOf; rw [List.take_succ_eq_append_getElem hlt, List.map_append]; rfl
      have hln : k = (valsOf (l.take k)).length := by rw [valsOf_len, List.length_take]; omega
      have hfl := H2.out _ (List.getElem_mem hlt)
      generalize l[k] = f at *
      obtain ⟨ps, ns⟩ := f
      simp only at q0 q1 r0 r1 e1 hfl
      obtain ⟨hpc, hpm⟩ := r0.cap
      obtain ⟨hnc, hnm⟩ := r1.cap
      obtain ⟨Wf, hWf⟩ : ∃ W, W = wr.alloc (.cells #[.slice AP ps.length cP, .slice AV ns.length cV] 35) := ⟨_, rfl⟩
      have gf : Below wr.heap.size wr Wf := by rw [hWf]; exact bl1 _ _
      have zf : Wf.heap.size = wr.heap.size + 1 := by rw [hWf]; simp
      have HCL := hid (cloneI_any (.slice AV ns.length cV) ns Wf (good_ints.on (good_ints.more r1 hs) gf) (by omega))
      have HWf := hid hWf; have GF := hid gf; have E1 := hid e1; have HLN := hid hln
      clear hWf gf e1 r0 r1 hln
      go_wp2_with fail
      rw [← HWf.out]
      refine HCL.out.mono ?_
      rintro e w2 ⟨u, rfl, hu, hb2⟩
      have z2 := hb2.size
      have GW := hid (GF.out.trans (hb2.mono (by omega)))
      have HU := hid hu
      obtain ⟨Au, cu, rfl, -, -, -⟩ := own_cells hu
      clear hb2 hu
      obtain ⟨vs, r1, r2, r3⟩ := HRW.out.on GW.out
      rw [← HLN.out] at r2
      have R3 := hid r3
      clear r3
      go_wp2_with (at_builtin; refine stop_here ?_)
      refine go_on ?_
      refine app_own_at (.tmp 12) (.tmp 16) 24 24 rfl rfl w.heap.size 32 i0 (.slice none 0 0) 1 24 Try.underlying24 hi hz0 hz1 hz2 rfl (by decide) _ k vs rfl (r2.alloc _) (.slice (some ⟨w2.heap.size, 0, none⟩) 1 1) 1 [_] rfl (Src.ofSlice _ Try.underlying24 _ 1 1 _ rfl (cell_one_at' _ _ _ rfl) (by simp; exact own_one _ HU.out)) (by simp only [maxLen]; omega) (by omega) (by rw [World.size_alloc]; omega) ?_
      intro v' w3 ho' hg' hb3 hat'
      have hrow' := RowI.app_n HLN.out r1 (r2.alloc _) (fun j hj => (R3.out j hj).alloc _) ((own_lessQ HU.out (show w.heap.size ≤ Wf.heap.size by omega)).alloc _) ho' hg'
      rw [← E1.out] at hrow'
      have HR' := hid hrow'
      have HB3 := hid (HB.out.trans ((GW.out.mono hs).trans (((Below.refl _ _).alloc (by omega) _).trans hb3)))
      clear ho' hg' hb3 hrow' r2 hat' R3 r1
      go_wp2
      go_roundw
      case rel => exact ⟨k + 1, by omega, by go_num, HR'.out, HB3.out⟩
      case measure => simp [intOf]; omega
    · obtain rfl : k = l.length := by omega
      have hfin := HRW.out
      rw [List.take_length] at hfin
      have HF := hid hfin
      clear hfin HRW
      go_wp2
      go_ret
      exact ⟨_, rfl, HF.out, HB.out⟩
end Go.Proofs.Ytompjcadhodapaa
