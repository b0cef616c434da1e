/- 2 texts of this claim, in build order. -/
import Derived.Test.YtkdpclllenbgfaaDoorPkgejacko
import Derived.Test.YtkdpclllenbgfaaDoorPcohkhlaf
/- slices.Clone at []int and []string. Printed by wip/gen_clone.py (first part). -/
namespace Go.Proofs.YtkdpclllenbgfaaDoor
open Go.ChangeShapes Go.WideShapes Go.ChangeAt Go.RowKit
set_option linter.unusedVariables false
set_option linter.unusedSimpArgs false

theorem ivals_oneQ (l : List Int) : ∀ u ∈ ivals l, u.oneCell' = true := by
  intro u hu
  obtain ⟨x, _, rfl⟩ := List.mem_map.1 hu
  rfl
theorem ints_slQ {w : World} {B : Nat} {v : Value} {l : List Int} (h : rdInts w B [v] l) : Sl w B v (ivals l) := rdSlice.sl (Value.int .i64) (fun es x hx => hx.1) h
set_option maxRecDepth 100000 in
set_option maxHeartbeats 400000 in
theorem cloneI_any (v : Value) (l : List Int) (w : World) (hv : rdInts w w.heap.size [v] l) (hl : l.length ≤ 1073741824) :
    Calls Tryd.prog 47 #[v] w (RowPost l w) := by
  obtain ⟨i0, hi, hz0, hz1, hz2⟩ := info_parts info_int
  have hv := ints_slQ hv
  have hv' := hv
  obtain ⟨A, c, rfl, hc1, hc2, hA⟩ := hv
  simp only [ivals_len] at hc1 hv' ⊢
  have HV := hid hv'; have HA := hid hA
  clear hv' hA
  go_enter Tryd.func47, Tryd.ntmps47
  cases A with
  | none =>
    have h0 : l = [] := by
      cases l with
      | nil => rfl
      | cons x l => obtain ⟨b, off, h, _⟩ := HA.out (by simp [ivals]); cases h
    have H0 := hid h0; clear h0
    have hq : ∀ W : World, (binOp .eql 29 (.slice none l.length c) (.slice none 0 0)).run Tryd.prog W = .ok (.bool true) W := fun _ => rfl
    go_wp2
    go_ret
    exact ⟨_, rfl, by rw [H0.out]; exact World.ownsRow_nil _ _ _ _, Below.refl _ _⟩
  | some x =>
    have hq : ∀ W : World, (binOp .eql 29 (.slice (some x) l.length c) (.slice none 0 0)).run Tryd.prog W = .ok (.bool false) W := fun _ => rfl
    go_wp2_with (at_builtin; refine stop_here ?_)
    refine go_on ?_
    have hown : (w.alloc (.cells #[] 3)).ownsRow w.heap.size 3 1 (.slice (some ⟨w.heap.size, 0, none⟩) 0 0) 0 [] := by
      refine ⟨rfl, .inr ⟨w.heap.size, 0, #[], rfl, Nat.le_refl _, ?_, Nat.le_refl _, by simp [maxLen], rfl, rfl⟩⟩
      exact heap_alloc_new w _
    refine app_own (.tmp 5) (.tmp 6) 29 29 rfl rfl w.heap.size 3 i0 (.int .i64 0) 1 8 Tryd.underlying29 hi hz0 hz1 hz2 rfl (by omega) _ _ _ rfl hown (.slice (some x) l.length c) l.length (ivals l) rfl ?_ (by unfold maxLen; omega) (by omega) (by simp) ?_
    · have hs : Sl (w.alloc (.cells #[] 3)) w.heap.size (.slice (some x) l.length c) (ivals l) := by
        obtain ⟨A, c', g1, g2, g3, g4⟩ := HV.out
        refine ⟨A, c', g1, g2, g3, fun h0 => ?_⟩
        obtain ⟨b, off, g5, g6, g7⟩ := g4 h0
        exact ⟨b, off, g5, g6, fun j u hj => cell_alloc g6 (g7 j u hj)⟩
      have := src_sl _ Tryd.underlying29 hs (ivals_oneQ l)
      rwa [ivals_len] at this
    · intro v2 w2 hown2 hg2 hb2
      go_wp2
      go_ret
      refine ⟨v2, rfl, by simpa using hown2, ?_⟩
      exact (bl1 w _).trans hb2
end Go.Proofs.YtkdpclllenbgfaaDoor
/- query.Need. -/
namespace Go.Proofs.YtkdpclllenbgfaaDoor
open Go.ChangeShapes Go.WideShapes Go.ChangeAt Go.RowKit
set_option linter.unusedVariables false
set_option linter.unusedSimpArgs false

theorem mayQ_yes {s : SchemaX} {q : QueryX} (h : mayQ s q = 0) : mayS s = true ∧ plainQ q = true ∧ cornerB s q.1 = true ∧ q.2.all (okF s) = true := by
  unfold mayQ at h
  cases h1 : mayS s
  · rw [h1] at h; simp at h
  · cases h2 : plainQ q
    · rw [h1, h2] at h; simp at h
    · cases h3 : cornerB s q.1
      · rw [h1, h2, h3] at h; simp at h
      · cases h4 : q.2.all (okF s)
        · rw [h1, h2, h3, h4] at h; simp at h
        · exact ⟨rfl, rfl, rfl, rfl⟩
theorem corner_len {s : SchemaX} {v : List Int} (h : cornerB s v = true) : v.length = s.1.length := by
  unfold cornerB coversB at h
  rw [Bool.and_eq_true, Bool.and_eq_true] at h
  have := of_decide_eq_true h.1.1
  simp [baseX] at this
  omega
theorem need_dim {s : SchemaX} {q : QueryX} (h : mayQ s q = 0) : ∀ f ∈ q.2, 0 ≤ f.1 ∧ f.1 < (q.1.length : Int) := by
  obtain ⟨-, h2, h3, h4⟩ := mayQ_yes h
  intro f hf
  obtain ⟨k, hk, rfl⟩ := List.mem_iff_getElem.1 hf
  have h5 := plain_dim h2 hk
  have h6 := List.all_eq_true.1 h4 _ hf
  unfold okF at h6
  rw [Bool.and_eq_true, Bool.and_eq_true, Bool.and_eq_true, Bool.and_eq_true] at h6
  have h7 := of_decide_eq_true h6.1.1.1.1
  rw [corner_len h3]
  exact ⟨h5.1, h7⟩
theorem setMax_len (l : List Int) (f : FilterX) : (setMax l f).length = l.length := by unfold setMax; rw [List.length_set]
theorem foldMax_len (fs : List FilterX) (l : List Int) : (fs.foldl setMax l).length = l.length := by
  induction fs generalizing l with
  | nil => rfl
  | cons f fs ih => rw [List.foldl_cons, ih, setMax_len]
theorem own_set {w : World} {base g c i : Nat} {l : List Int} (h : w.ownsRow base 3 1 (.slice (some ⟨g, 0, none⟩) l.length c) l.length (ivals l)) (hi : i < l.length) (x : Int) :
    w.cell? ⟨g, i, none⟩ = some (.int .i64 (l.getD i 0)) ∧ w.frozen? ⟨g, i, none⟩ = false ∧ (w.setCell ⟨g, i, none⟩ (.int .i64 x)).ownsRow base 3 1 (.slice (some ⟨g, 0, none⟩) l.length c) l.length (ivals (l.set i x)) := by
  have hcell := h.cellAt (g := g) i (by omega)
  have hxs : (ivals l)[i]? = some (.int .i64 (l.getD i 0)) := by simp [ivals, List.getElem?_eq_getElem hi]
  refine ⟨hcell.trans hxs, h.frozenAt i, ?_⟩
  have := (h.stored i (.int .i64 x)).1
  rwa [show (ivals l).set i (.int .i64 x) = ivals (l.set i x) by unfold ivals; rw [List.map_set]] at this
theorem own_less {w : World} {base base' n : Nat} {e : TypeId} {sz : Nat} {v : Value} {xs : List Value} (h : w.ownsRow base e sz v n xs) (hb : base' ≤ base) : w.ownsRow base' e sz v n xs := by
  obtain ⟨h1, h2⟩ := h
  refine ⟨h1, ?_⟩
  rcases h2 with h2 | ⟨g, cap, cur, rfl, hbg, r⟩
  · exact .inl h2
  · exact .inr ⟨g, cap, cur, rfl, by omega, r⟩
def NdRel (q : QueryX) (r : Value) (w1 : World) (i : Value) (wr : World) : Prop :=
  ∃ k : Nat, k ≤ q.2.length ∧ i = .int .i64 k ∧ wr.ownsRow w1.heap.size 3 1 r q.1.length (ivals ((q.2.take k).foldl setMax q.1)) ∧ Below w1.heap.size w1 wr
def NeedP (res : Int) (l : List Int) (w : World) (e : Ending) (w' : World) : Prop :=
  (res = 0 ∧ ∃ r, e = .returned (.tuple #[r, .int .i64 0]) ∧ w'.ownsRow w.heap.size 3 1 r l.length (ivals l) ∧ Below w.heap.size w w') ∨
  (res ≠ 0 ∧ e = .returned (.tuple #[.slice none 0 0, .int .i64 res]) ∧ Below w.heap.size w w')
set_option maxRecDepth 100000 in
set_option maxHeartbeats 3200000 in
theorem need_any (v x : Value) (s : SchemaX) (q : QueryX) (w : World) (hv : SchemaV w w.heap.size v s) (hx : QueryV w w.heap.size x q) (hl : s.1.length ≤ 1000) (hq : q.1.length ≤ 1000) :
    Calls Tryd.prog 29 #[v, x] w (NeedP (mayQ s q) (needQ q) w) := by
  have hv0 := hv; have hx0 := hx
  obtain ⟨A1, c1, A2, c2, A3, c3, rfl, -, -, -⟩ := hv
  obtain ⟨X1, d1, X2, d2, rfl, g1, g2⟩ := hx
  obtain ⟨hd2, hn2⟩ := g2.cap
  obtain ⟨W0, hW0⟩ : ∃ W, W = (w.alloc (.cells #[.slice A1 s.1.length c1, .slice A2 s.2.1.length c2, .slice A3 s.2.2.length c3] 44)).alloc (.cells #[.slice X1 q.1.length d1, .slice X2 q.2.length d2] 32) := ⟨_, rfl⟩
  have g0 : Below w.heap.size w W0 := by rw [hW0]; exact (bl1 w _).alloc (by simp) _
  have z0 : W0.heap.size = w.heap.size + 1 + 1 := by rw [hW0]; simp
  have y3 : W0.cell? ⟨w.heap.size + 1, 0, none⟩ = some (.slice X1 q.1.length d1) := by rw [hW0]; simp [go_sem]
  have y4 : W0.cell? ⟨w.heap.size + 1, 1, none⟩ = some (.slice X2 q.2.length d2) := by rw [hW0]; simp [go_sem]
  have HW0 := hid hW0
  have G0 := hid g0; have Y3 := hid y3; have Y4 := hid y4
  have HMQ := hid (mayQ_any _ _ s q W0 (hv0.on g0) (hx0.on g0) hl)
  have HCL := hid (fun W (hb : Below W0.heap.size W0 W) => cloneI_any _ q.1 W (good_ints.on (good_ints.on g1 g0) hb) (by omega))
  have HQ2 := hid (good_filters.on g2 g0)
  have HND := hid (fun h => need_dim (s := s) (q := q) h)
  generalize mayQ s q = res at *
  clear hW0 g0 y3 y4 g1 g2 hv0 hx0
  go_enter Tryd.func29, Tryd.ntmps29
  go_wp2_with fail
  rw [← HW0.out]
  refine HMQ.out.mono ?_
  rintro e w1 ⟨rfl, hb1⟩
  have HB1 := hid hb1; clear hb1
  have z1 := HB1.out.size
  have k3 := cellK HB1.out (by omega) Y3.out
  have k4 := cellK HB1.out (by omega) Y4.out
  by_cases hres : res = 0
  · subst hres
    go_wp2_with fail
    refine (HCL.out _ HB1.out).mono ?_
    rintro e w2 ⟨r, rfl, hr2, hb2⟩
    obtain ⟨A, c, rfl, hc, hcm, -⟩ := own_cells hr2
    unfold maxLen at hcm
    have HR2 := hid hr2; have HB2 := hid hb2
    have z2 := hb2.size
    clear hr2 hb2 k3 k4
    have k4 := cellK (HB1.out.trans (HB2.out.mono z1)) (by omega) Y4.out
    go_wp2
    go_loopw [22] (fun i wr => NdRel q (.slice A q.1.length c) w1 i wr) (fun i _ => q.2.length - (intOf i).toNat)
    case atStart => exact ⟨0, by omega, rfl, HR2.out, HB2.out⟩
    case round =>
      obtain ⟨k, hk, rfl, hown, hb⟩ := hrel
      have hs := hb.size
      have HB := hid hb; have HOW := hid hown
      clear hb hown
      by_cases hlt : k < q.2.length
      · have GB := hid (HB1.out.trans (HB.out.mono z1))
        obtain ⟨b, off, AM, cM, rfl, hbl, q0, q1, q2, i1, i2, hms⟩ := filters_at (good_filters.stays HQ2.out GB.out) hlt
        have hdim := HND.out (by first | rfl | trivial) _ (List.getElem_mem hlt)
        have e1 : (q.2.take (k + 1)).foldl setMax q.1 = setMax ((q.2.take k).foldl setMax q.1) q.2[k] := by rw [List.take_succ_eq_append_getElem hlt, List.foldl_append]; rfl
        have hll := foldMax_len (q.2.take k) q.1
        generalize q.2[k] = f at *
        obtain ⟨fd, lv, ms⟩ := f
        simp only at hdim q0 q1 q2 hms i1 i2
        obtain ⟨d, rfl⟩ : ∃ d : Nat, fd = (d : Int) := ⟨fd.toNat, by omega⟩
        have hd : d < q.1.length := by omega
        have hset : setMax ((q.2.take k).foldl setMax q.1) ((d : Int), lv, ms) = ((q.2.take k).foldl setMax q.1).set d (max (((q.2.take k).foldl setMax q.1).getD d 0) lv) := by unfold setMax; simp
        rw [hset] at e1
        generalize hL : (q.2.take k).foldl setMax q.1 = L at *
        have hown := HOW.out
        obtain ⟨A', c', e, -, -, h3⟩ := own_cells hown
        injection e with e1' _ e3'
        subst e1'; subst e3'
        obtain ⟨g, rfl, hg1, hg2, -⟩ := h3 (by omega)
        rw [← hll] at hown
        obtain ⟨Wf, hWf⟩ : ∃ W, W = wr.alloc (.cells #[.int .i64 (d : Int), .int .i64 lv, .slice AM ms.length cM] 57) := ⟨_, rfl⟩
        have gfb : Below wr.heap.size wr Wf := by rw [hWf]; exact bl1 _ _
        have zf : Wf.heap.size = wr.heap.size + 1 := by rw [hWf]; simp
        have f0 : Wf.cell? ⟨wr.heap.size, 0, none⟩ = some (.int .i64 (d : Int)) := by rw [hWf]; simp [go_sem]
        have f1 : Wf.cell? ⟨wr.heap.size, 1, none⟩ = some (.int .i64 lv) := by rw [hWf]; simp [go_sem]
        have hownf : Wf.ownsRow w1.heap.size 3 1 (.slice (some ⟨g, 0, none⟩) L.length c) L.length (ivals L) := by rw [hWf]; exact hown.alloc _
        obtain ⟨f2, f3, gs⟩ := own_set hownf (by omega : d < L.length) (max (L.getD d 0) lv)
        have hnx : NdRel q (.slice (some ⟨g, 0, none⟩) q.1.length c) w1 (.int .i64 ((k : Int) + 1)) ((Wf.setCell ⟨g, d, none⟩ (.int .i64 (max (L.getD d 0) lv))).drew) := by
          refine ⟨k + 1, by omega, by go_num, ?_, ?_⟩
          · rw [e1, ← hll]
            exact own_kept gs (fun _ _ => rfl)
          · exact (((HB.out.trans (gfb.mono hs)).setCell (by show w1.heap.size ≤ g; omega) _).drew)
        generalize hmx : max (L.getD d 0) lv = mx at *
        generalize L.getD d 0 = x0 at *
        have HWf := hid hWf; have GFB := hid gfb; have HNX := hid hnx
        have m1 := Nat.ne_of_gt hg2; have m2 := Nat.ne_of_lt hg2
        clear hWf gfb gs hown hownf h3 hset hms i1 i2 hnx
        have hmw : (x0 < lv ∧ lv = mx) ∨ (lv ≤ x0 ∧ x0 = mx) := by omega
        rcases hmw with ⟨h, rfl⟩ | ⟨h, rfl⟩
        all_goals
          go_wp2
          rw [← HWf.out]
          go_region_with (fail)
          all_goals
            go_wp2
            go_roundw
            case rel => exact HNX.out
            case measure => simp [intOf]; omega
      · have hfin : wr.ownsRow w1.heap.size 3 1 (.slice A q.1.length c) (needQ q).length (ivals (needQ q)) := by
          have := HOW.out
          rw [List.take_of_length_le (by omega)] at this
          unfold needQ
          rwa [foldMax_len]
        have HF := hid (own_less hfin (show w.heap.size ≤ w1.heap.size by have := G0.out.size; omega))
        clear hfin HOW
        go_wp2
        go_ret2
        exact .inl ⟨rfl, _, rfl, HF.out, G0.out.trans ((HB1.out.trans (HB.out.mono z1)).mono (by omega))⟩
  · have t1 : (res != 0) = true := by simpa using hres
    go_wp2
    go_ret2
    exact .inr ⟨hres, rfl, G0.out.trans (HB1.out.mono (by omega))⟩
end Go.Proofs.YtkdpclllenbgfaaDoor
