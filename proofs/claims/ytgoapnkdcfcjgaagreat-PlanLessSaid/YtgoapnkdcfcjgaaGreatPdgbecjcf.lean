/- 4 texts of this claim, in build order. -/
import Derived.Test.YtgoapnkdcfcjgaaGreatPofmeodgm
import Derived.Test.YtgoapnkdcfcjgaaGreatPbagjfiio
import Derived.Test.YtgoapnkdcfcjgaaGreatPkohgbcdn
import Derived.Test.YtgoapnkdcfcjgaaGreatPfkamafgb
import Derived.Test.YtgoapnkdcfcjgaaGreatPmmljdcfd
import Derived.Test.YtgoapnkdcfcjgaaGreatPddhcbcnb
import Derived.BigQuiet
/- query.Need. -/
namespace Go.Proofs.YtgoapnkdcfcjgaaGreat
open Go.ChangeShapes Go.WideShapes Go.ChangeAt Go.RowKit
set_option linter.unusedVariables false
set_option linter.unusedSimpArgs false

theorem mayQ_yes {s : SchemaX} {q : QueryX} (h : mayQ s q = 0) : mayS s = true ∧ plainQ q = true ∧ cornerB s q.1 = true ∧ q.2.all (okF s) = true := by
  unfold mayQ at h
  cases h1 : mayS s
  · rw [h1] at h; simp at h
  · cases h2 : plainQ q
    · rw [h1, h2] at h; simp at h
    · cases h3 : cornerB s q.1
      · rw [h1, h2, h3] at h; simp at h
      · cases h4 : q.2.all (okF s)
        · rw [h1, h2, h3, h4] at h; simp at h
        · exact ⟨rfl, rfl, rfl, rfl⟩
theorem corner_len {s : SchemaX} {v : List Int} (h : cornerB s v = true) : v.length = s.1.length := by
  unfold cornerB coversB at h
  rw [Bool.and_eq_true, Bool.and_eq_true] at h
  have := of_decide_eq_true h.1.1
  simp [baseX] at this
  omega
theorem need_dim {s : SchemaX} {q : QueryX} (h : mayQ s q = 0) : ∀ f ∈ q.2, 0 ≤ f.1 ∧ f.1 < (q.1.length : Int) := by
  obtain ⟨-, h2, h3, h4⟩ := mayQ_yes h
  intro f hf
  obtain ⟨k, hk, rfl⟩ := List.mem_iff_getElem.1 hf
  have h5 := plain_dim h2 hk
  have h6 := List.all_eq_true.1 h4 _ hf
  unfold okF at h6
  rw [Bool.and_eq_true, Bool.and_eq_true, Bool.and_eq_true, Bool.and_eq_true] at h6
  have h7 := of_decide_eq_true h6.1.1.1.1
  rw [corner_len h3]
  exact ⟨h5.1, h7⟩
theorem setMax_len (l : List Int) (f : FilterX) : (setMax l f).length = l.length := by unfold setMax; rw [List.length_set]
theorem foldMax_len (fs : List FilterX) (l : List Int) : (fs.foldl setMax l).length = l.length := by
  induction fs generalizing l with
  | nil => rfl
  | cons f fs ih => rw [List.foldl_cons, ih, setMax_len]
theorem own_set {w : World} {base g c i : Nat} {l : List Int} (h : w.ownsRow base 3 1 (.slice (some ⟨g, 0, none⟩) l.length c) l.length (ivals l)) (hi : i < l.length) (x : Int) :
    w.cell? ⟨g, i, none⟩ = some (.int .i64 (l.getD i 0)) ∧ w.frozen? ⟨g, i, none⟩ = false ∧ (w.setCell ⟨g, i, none⟩ (.int .i64 x)).ownsRow base 3 1 (.slice (some ⟨g, 0, none⟩) l.length c) l.length (ivals (l.set i x)) := by
  have hcell := h.cellAt (g := g) i (by omega)
  have hxs : (ivals l)[i]? = some (.int .i64 (l.getD i 0)) := by simp [ivals, List.getElem?_eq_getElem hi]
  refine ⟨hcell.trans hxs, h.frozenAt i, ?_⟩
  have := (h.stored i (.int .i64 x)).1
  rwa [show (ivals l).set i (.int .i64 x) = ivals (l.set i x) by unfold ivals; rw [List.map_set]] at this
theorem own_less {w : World} {base base' n : Nat} {e : TypeId} {sz : Nat} {v : Value} {xs : List Value} (h : w.ownsRow base e sz v n xs) (hb : base' ≤ base) : w.ownsRow base' e sz v n xs := by
  obtain ⟨h1, h2⟩ := h
  refine ⟨h1, ?_⟩
  rcases h2 with h2 | ⟨g, cap, cur, rfl, hbg, r⟩
  · exact .inl h2
  · exact .inr ⟨g, cap, cur, rfl, by omega, r⟩
def NdRel (q : QueryX) (r : Value) (w1 : World) (i : Value) (wr : World) : Prop :=
  ∃ k : Nat, k ≤ q.2.length ∧ i = .int .i64 k ∧ wr.ownsRow w1.heap.size 3 1 r q.1.length (ivals ((q.2.take k).foldl setMax q.1)) ∧ Below w1.heap.size w1 wr
def NeedP (res : Int) (l : List Int) (w : World) (e : Ending) (w' : World) : Prop :=
  (res = 0 ∧ ∃ r, e = .returned (.tuple #[r, .int .i64 0]) ∧ w'.ownsRow w.heap.size 3 1 r l.length (ivals l) ∧ Below w.heap.size w w') ∨
  (res ≠ 0 ∧ e = .returned (.tuple #[.slice none 0 0, .int .i64 res]) ∧ Below w.heap.size w w')
set_option maxRecDepth 100000 in
set_option maxHeartbeats 3200000 in
theorem need_any (v x : Value) (s : SchemaX) (q : QueryX) (w : World) (hv : SchemaV w w.heap.size v s) (hx : QueryV w w.heap.size x q) (hl : s.1.length ≤ 1000) (hq : q.1.length ≤ 1000) :
    Calls Tryz.prog 17 #[v, x] w (NeedP (mayQ s q) (needQ q) w) := by
  have hv0 := hv; have hx0 := hx
  obtain ⟨A1, c1, A2, c2, A3, c3, rfl, -, -, -⟩ := hv
  obtain ⟨X1, d1, X2, d2, rfl, g1, g2⟩ := hx
  obtain ⟨hd2, hn2⟩ := g2.cap
  obtain ⟨W0, hW0⟩ : ∃ W, W = (w.alloc (.cells #[.slice A1 s.1.length c1, .slice A2 s.2.1.length c2, .slice A3 s.2.2.length c3] 26)).alloc (.cells #[.slice X1 q.1.length d1, .slice X2 q.2.length d2] 30) := ⟨_, rfl⟩
  have g0 : Below w.heap.size w W0 := by rw [hW0]; exact (bl1 w _).alloc (by simp) _
  have z0 : W0.heap.size = w.heap.size + 1 + 1 := by rw [hW0]; simp
  have y3 : W0.cell? ⟨w.heap.size + 1, 0, none⟩ = some (.slice X1 q.1.length d1) := by rw [hW0]; simp [go_sem]
  have y4 : W0.cell? ⟨w.heap.size + 1, 1, none⟩ = some (.slice X2 q.2.length d2) := by rw [hW0]; simp [go_sem]
  have HW0 := hid hW0
  have G0 := hid g0; have Y3 := hid y3; have Y4 := hid y4
  have HMQ := hid (mayQ_any _ _ s q W0 (hv0.on g0) (hx0.on g0) hl)
  have HCL := hid (fun W (hb : Below W0.heap.size W0 W) => cloneI_any _ q.1 W (good_ints.on (good_ints.on g1 g0) hb) (by omega))
  have HQ2 := hid (good_filters.on g2 g0)
  have HND := hid (fun h => need_dim (s := s) (q := q) h)
  generalize mayQ s q = res at *
  clear hW0 g0 y3 y4 g1 g2 hv0 hx0
  go_enter Tryz.func17, Tryz.ntmps17
  go_wp2_with fail
  rw [← HW0.out]
  refine HMQ.out.mono ?_
  rintro e w1 ⟨rfl, hb1⟩
  have HB1 := hid hb1; clear hb1
  have z1 := HB1.out.size
  have k3 := cellK HB1.out (by omega) Y3.out
  have k4 := cellK HB1.out (by omega) Y4.out
  by_cases hres : res = 0
  · subst hres
    go_wp2_with fail
    refine (HCL.out _ HB1.out).mono ?_
    rintro e w2 ⟨r, rfl, hr2, hb2⟩
    obtain ⟨A, c, rfl, hc, hcm, -⟩ := own_cells hr2
    unfold maxLen at hcm
    have HR2 := hid hr2; have HB2 := hid hb2
    have z2 := hb2.size
    clear hr2 hb2 k3 k4
    have k4 := cellK (HB1.out.trans (HB2.out.mono z1)) (by omega) Y4.out
    go_wp2
    go_loopw [22] (fun i wr => NdRel q (.slice A q.1.length c) w1 i wr) (fun i _ => q.2.length - (intOf i).toNat)
    case atStart => exact ⟨0, by omega, rfl, HR2.out, HB2.out⟩
    case round =>
      obtain ⟨k, hk, rfl, hown, hb⟩ := hrel
      have hs := hb.size
      have HB := hid hb; have HOW := hid hown
      clear hb hown
      by_cases hlt : k < q.2.length
      · have GB := hid (HB1.out.trans (HB.out.mono z1))
        obtain ⟨b, off, AM, cM, rfl, hbl, q0, q1, q2, i1, i2, hms⟩ := filters_at (good_filters.stays HQ2.out GB.out) hlt
        have hdim := HND.out (by first | rfl | trivial) _ (List.getElem_mem hlt)
        have e1 : (q.2.take (k + 1)).foldl setMax q.1 = setMax ((q.2.take k).foldl setMax q.1) q.2[k] := by rw [List.take_succ_eq_append_getElem hlt, List.foldl_append]; rfl
        have hll := foldMax_len (q.2.take k) q.1
        generalize q.2[k] = f at *
        obtain ⟨fd, lv, ms⟩ := f
        simp only at hdim q0 q1 q2 hms i1 i2
        obtain ⟨d, rfl⟩ : ∃ d : Nat, fd = (d : Int) := ⟨fd.toNat, by omega⟩
        have hd : d < q.1.length := by omega
        have hset : setMax ((q.2.take k).foldl setMax q.1) ((d : Int), lv, ms) = ((q.2.take k).foldl setMax q.1).set d (max (((q.2.take k).foldl setMax q.1).getD d 0) lv) := by unfold setMax; simp
        rw [hset] at e1
        generalize hL : (q.2.take k).foldl setMax q.1 = L at *
        have hown := HOW.out
        obtain ⟨A', c', e, -, -, h3⟩ := own_cells hown
        injection e with e1' _ e3'
        subst e1'; subst e3'
        obtain ⟨g, rfl, hg1, hg2, -⟩ := h3 (by omega)
        rw [← hll] at hown
        obtain ⟨Wf, hWf⟩ : ∃ W, W = wr.alloc (.cells #[.int .i64 (d : Int), .int .i64 lv, .slice AM ms.length cM] 83) := ⟨_, rfl⟩
        have gfb : Below wr.heap.size wr Wf := by rw [hWf]; exact bl1 _ _
        have zf : Wf.heap.size = wr.heap.size + 1 := by rw [hWf]; simp
        have f0 : Wf.cell? ⟨wr.heap.size, 0, none⟩ = some (.int .i64 (d : Int)) := by rw [hWf]; simp [go_sem]
        have f1 : Wf.cell? ⟨wr.heap.size, 1, none⟩ = some (.int .i64 lv) := by rw [hWf]; simp [go_sem]
        have hownf : Wf.ownsRow w1.heap.size 3 1 (.slice (some ⟨g, 0, none⟩) L.length c) L.length (ivals L) := by rw [hWf]; exact hown.alloc _
        obtain ⟨f2, f3, gs⟩ := own_set hownf (by omega : d < L.length) (max (L.getD d 0) lv)
        have hnx : NdRel q (.slice (some ⟨g, 0, none⟩) q.1.length c) w1 (.int .i64 ((k : Int) + 1)) ((Wf.setCell ⟨g, d, none⟩ (.int .i64 (max (L.getD d 0) lv))).drew) := by
          refine ⟨k + 1, by omega, by go_num, ?_, ?_⟩
          · rw [e1, ← hll]
            exact own_kept gs (fun _ _ => rfl)
          · exact (((HB.out.trans (gfb.mono hs)).setCell (by show w1.heap.size ≤ g; omega) _).drew)
        generalize hmx : max (L.getD d 0) lv = mx at *
        generalize L.getD d 0 = x0 at *
        have HWf := hid hWf; have GFB := hid gfb; have HNX := hid hnx
        have m1 := Nat.ne_of_gt hg2; have m2 := Nat.ne_of_lt hg2
        clear hWf gfb gs hown hownf h3 hset hms i1 i2 hnx
        have hmw : (x0 < lv ∧ lv = mx) ∨ (lv ≤ x0 ∧ x0 = mx) := by omega
        rcases hmw with ⟨h, rfl⟩ | ⟨h, rfl⟩
        all_goals
          go_wp2
          rw [← HWf.out]
          go_region_with (fail)
          all_goals
            go_wp2
            go_roundw
            case rel => exact HNX.out
            case measure => simp [intOf]; omega
      · have hfin : wr.ownsRow w1.heap.size 3 1 (.slice A q.1.length c) (needQ q).length (ivals (needQ q)) := by
          have := HOW.out
          rw [List.take_of_length_le (by omega)] at this
          unfold needQ
          rwa [foldMax_len]
        have HF := hid (own_less hfin (show w.heap.size ≤ w1.heap.size by have := G0.out.size; omega))
        clear hfin HOW
        go_wp2
        go_ret2
        exact .inl ⟨rfl, _, rfl, HF.out, G0.out.trans ((HB1.out.trans (HB.out.mono z1)).mono (by omega))⟩
  · have t1 : (res != 0) = true := by simpa using hres
    go_wp2
    go_ret2
    exact .inr ⟨hres, rfl, G0.out.trans (HB1.out.mono (by omega))⟩
end Go.Proofs.YtgoapnkdcfcjgaaGreat
/- The reference's Same of numbers (layer 8). -/
namespace Go.Proofs.YtgoapnkdcfcjgaaGreat
open Go.ChangeShapes Go.WideShapes Go.ChangeAt Go.RowKit
set_option linter.unusedVariables false
set_option linter.unusedSimpArgs false

set_option maxRecDepth 100000 in
set_option maxHeartbeats 800000 in
theorem refSame8_any (v x : Value) (l r : List Int) (w : World) (hv : rdInts w w.heap.size [v] l) (hx : rdInts w w.heap.size [x] r) :
    Calls Tryz.prog 11 #[v, x] w (Stays (.bool (decide (l = r))) w) := by
  obtain ⟨A1, c1, e, hc1, hm1⟩ := hv.open_
  simp only [List.cons.injEq, and_true] at e
  subst e
  obtain ⟨A2, c2, e, hc2, hm2⟩ := hx.open_
  simp only [List.cons.injEq, and_true] at e
  subst e
  have S1 := hid hv; have S2 := hid hx; clear hv hx
  have hdec : l ≠ r → decide (l = r) = false := fun h => decide_eq_false h
  have hyes : l = r → decide (l = r) = true := fun h => decide_eq_true h
  generalize decide (l = r) = res at *
  have HD := hid hdec; have HY := hid hyes; clear hdec hyes
  go_enter Tryz.func11, Tryz.ntmps11
  by_cases hl : l.length = r.length
  · have HL := hid hl
    have u0 : ((l.length : Int) != (r.length : Int)) = false := by simp [hl]
    clear hl
    go_wp2
    go_loopw [5] (fun i wr => SameRelG l r w i wr) (fun i _ => l.length - (intOf i).toNat)
    case atStart => exact ⟨0, by omega, rfl, rfl, Qu.refl _⟩
    case round =>
      obtain ⟨k, hk, rfl, hsame, hq⟩ := hrel
      have HS := hid hsame; clear hsame
      by_cases hlt : k < l.length
      · have hlt' : k < r.length := by have := HL.out; omega
        obtain ⟨b1, o1, rfl, hb1, hx1, -⟩ := ints_at' S1.out hlt
        obtain ⟨b2, o2, rfl, hb2, hx2, -⟩ := ints_at' S2.out hlt'
        have g1 : wr.cell? ⟨b1, o1 + k, none⟩ = _ := (hq.cell _).trans hx1
        have g2 : wr.cell? ⟨b2, o2 + k, none⟩ = _ := (hq.cell _).trans hx2
        clear hx1 hx2
        have e1 : l.take (k + 1) = l.take k ++ [l[k]] := List.take_succ_eq_append_getElem hlt
        have e2 : r.take (k + 1) = r.take k ++ [r[k]] := List.take_succ_eq_append_getElem hlt'
        have hgn : l[k] ≠ r[k] → l ≠ r := fun h h' => h (by subst h'; rfl)
        generalize l[k] = p1 at *
        generalize r[k] = p2 at *
        by_cases he : p1 = p2
        · subst he
          have hs' : l.take (k + 1) = r.take (k + 1) := by rw [e1, e2, HS.out]
          have t2 : (p1 != p1) = false := by simp
          have HS' := hid hs'; clear e1 e2 hs' hgn
          go_wp2
          go_quiet (fail)
          go_wp2
          go_roundw
          case rel => exact ⟨k + 1, by omega, by go_num, HS'.out, hq.drewN _⟩
          case measure => simp [intOf]; omega
        · have hn := HD.out (hgn he)
          have t2 : (p1 != p2) = true := by simpa using he
          have HN := hid hn; clear e1 e2 hgn hn he
          go_wp2
          go_quiet (fail)
          go_wp2
          go_ret
          exact ⟨by rw [HN.out]; rfl, hq.drewN _⟩
      · have he1 : l = r := by
          have := HS.out
          rwa [List.take_of_length_le (by omega), List.take_of_length_le (by have := HL.out; omega)] at this
        have hn := HY.out he1
        have HN := hid hn; clear he1 HS hn
        go_wp2
        go_ret
        exact ⟨by rw [HN.out]; rfl, hq⟩
  · have u0 : ((l.length : Int) != (r.length : Int)) = true := by simp; omega
    have hn := HD.out (fun e => hl (by rw [e]))
    have HN := hid hn
    clear hl hn
    go_wp2
    go_ret
    exact ⟨by rw [HN.out]; rfl, Qu.refl _⟩
end Go.Proofs.YtgoapnkdcfcjgaaGreat
/- The reference's Same of numbers (layer 8), with the schema. -/
/- The reference's apart, Base, Corner (layer 8). -/
namespace Go.Proofs.YtgoapnkdcfcjgaaGreat
open Go.ChangeShapes Go.WideShapes Go.ChangeAt Go.RowKit
set_option linter.unusedVariables false
set_option linter.unusedSimpArgs false

theorem base_at {s : SchemaX} {k : Nat} (h : k < s.1.length) : (baseX s).getD k 0 = (s.1[k].2.length : Int) := by
  unfold baseX
  rw [List.getD_eq_getElem?_getD, List.getElem?_map, List.getElem?_eq_getElem h]; rfl
set_option maxRecDepth 100000 in
set_option maxHeartbeats 800000 in
theorem refBase_any (v : Value) (s : SchemaX) (w : World) (hv : SchemaV w w.heap.size v s) (hl : s.1.length ≤ 1000) :
    Calls Tryz.prog 39 #[v] w (RowPost (baseX s) w) := by
  obtain ⟨i0, hi, hz0, hz1, hz2⟩ := info_parts info_int
  obtain ⟨A1, c1, A2, c2, A3, c3, rfl, h1, h2, h3⟩ := hv
  obtain ⟨hc1, hm1⟩ := h1.cap
  have hbl : (baseX s).length = s.1.length := by simp [baseX]
  obtain ⟨W0, hW0⟩ : ∃ W, W = w.alloc (.cells #[.slice A1 s.1.length c1, .slice A2 s.2.1.length c2, .slice A3 s.2.2.length c3] 26) := ⟨_, rfl⟩
  have g0 : Below w.heap.size w W0 := by rw [hW0]; exact bl1 _ _
  have z0 : W0.heap.size = w.heap.size + 1 := by rw [hW0]; simp
  have y0 : W0.cell? ⟨w.heap.size, 0, none⟩ = some (.slice A1 s.1.length c1) := by rw [hW0]; simp [go_sem]
  have HW0 := hid hW0; have G0 := hid g0; have Y0 := hid y0; have H1 := hid (good_dims.on h1 g0)
  clear hW0 g0 y0 h1 h2 h3
  go_enter Tryz.func39, Tryz.ntmps39
  go_wp2
  rw [← HW0.out]
  go_loopw [3, 4] (fun out i wr => BaseRel s W0 out i wr) (fun _ i _ => s.1.length - (intOf i).toNat)
  case atStart => exact ⟨0, by omega, rfl, World.ownsRow_nil _ _ _ _, Below.refl _ _⟩
  case round =>
    obtain ⟨k, hk, rfl, hown, hb⟩ := hrel
    have hs := hb.size
    have HB := hid hb; have HOW := hid hown
    have y0 := cellK hb (by omega) Y0.out
    clear hb hown
    by_cases hlt : k < s.1.length
    · obtain ⟨b, off, AL, cL, rfl, hbl2, q0, q1, hlv, -⟩ := dim_at H1.out hlt
      have e1 : (baseX s).take (k + 1) = (baseX s).take k ++ [((s.1[k].2.length : Nat) : Int)] := by
        rw [List.take_succ_eq_append_getElem (by simp [baseX]; omega)]; simp [baseX]
      have q1' := cellK HB.out hbl2 q1
      generalize s.1[k].2.length = n at *
      have E1 := hid e1
      clear e1 q0 q1 hlv
      go_wp2_with (at_builtin; refine stop_here ?_)
      refine go_on ?_
      refine app_own (.tmp 12) (.tmp 20) 27 27 rfl rfl W0.heap.size 3 i0 (.int .i64 0) 1 8 Tryz.underlying27 hi hz0 hz1 hz2 rfl (by decide) _ k (ivals ((baseX s).take k)) rfl (HOW.out.alloc _) (.slice (some ⟨wr.heap.size, 0, none⟩) 1 1) 1 (ivals [(n : Int)]) rfl (Src.ofSlice _ Tryz.underlying27 _ 1 1 _ rfl (cell_one_at' _ _ _ rfl) (by simp [ivals]; rfl)) (by first | omega | (simp only [maxLen]; omega)) (by first | omega | (simp only [maxLen]; omega)) (by simp; omega) ?_
      intro v' w' hown' hg' hb'
      have hr : BaseRel s W0 v' (.int .i64 ((k : Int) + 1)) w' := ⟨k + 1, by omega, by go_num, by rw [E1.out, ivals_snoc]; exact hown', ((HB.out.alloc hs _).trans hb')⟩
      have HR := hid hr
      clear hr hown' hg' hb'
      go_wp2
      go_roundw
      case rel => exact HR.out
      case measure => simp [intOf]; omega
    · obtain rfl : k = s.1.length := by omega
      have hfin : wr.ownsRow w.heap.size 3 1 u3 (baseX s).length (ivals (baseX s)) := by
        have := HOW.out
        rw [List.take_of_length_le (by omega)] at this
        rw [hbl]
        obtain ⟨h1, h2⟩ := this
        refine ⟨h1, ?_⟩
        rcases h2 with h2 | ⟨g, cap, cur, e, hbg, r⟩
        · exact .inl h2
        · exact .inr ⟨g, cap, cur, e, by omega, r⟩
      have HF := hid hfin
      clear hfin HOW
      go_wp2
      go_ret
      exact ⟨_, rfl, HF.out, G0.out.trans (HB.out.mono (by omega))⟩
theorem corner_iff {s : SchemaX} {v : List Int} : cornerB s v = true ↔ v.length = s.1.length ∧ ∀ j, j < v.length → 0 ≤ v.getD j 0 ∧ v.getD j 0 ≤ (baseX s).getD j 0 := by
  have hbl : (baseX s).length = s.1.length := by simp [baseX]
  unfold cornerB
  rw [Bool.and_eq_true]
  have hneg : ((!(v.any fun n => decide (n < 0))) = true) ↔ ∀ j, j < v.length → 0 ≤ v.getD j 0 := by
    rw [Bool.not_eq_true', List.any_eq_false]
    constructor
    · intro h j hj
      have := h _ (List.getElem_mem hj)
      rw [List.getD_eq_getElem?_getD, List.getElem?_eq_getElem hj]
      simp at this ⊢; omega
    · intro h x hx
      obtain ⟨j, hj, rfl⟩ := List.mem_iff_getElem.1 hx
      have := h j hj
      rw [List.getD_eq_getElem?_getD, List.getElem?_eq_getElem hj] at this
      simp at this ⊢; omega
  rw [hneg]
  by_cases hl : (baseX s).length = v.length
  · rw [covers_iff hl]
    exact ⟨fun ⟨h1, h2⟩ => ⟨by omega, fun j hj => ⟨h2 j hj, h1 j (by omega)⟩⟩, fun ⟨h1, h2⟩ => ⟨fun j hj => (h2 j (by omega)).2, fun j hj => (h2 j hj).1⟩⟩
  · constructor
    · rintro ⟨h1, -⟩
      unfold coversB at h1
      rw [decide_eq_false hl] at h1
      simp at h1
    · rintro ⟨h1, -⟩; omega
def CrRel (s : SchemaX) (v : List Int) (W0 : World) (i : Value) (wr : World) : Prop := ∃ k : Nat, k ≤ v.length ∧ i = .int .i64 k ∧ (∀ j, j < k → 0 ≤ v.getD j 0 ∧ v.getD j 0 ≤ (baseX s).getD j 0) ∧ Below W0.heap.size W0 wr
set_option maxRecDepth 100000 in
set_option maxHeartbeats 1600000 in
theorem refCorner_any (v x : Value) (s : SchemaX) (l : List Int) (w : World) (hv : SchemaV w w.heap.size v s) (hl : s.1.length ≤ 1000) (hx : rdInts w w.heap.size [x] l) :
    Calls Tryz.prog 37 #[v, x] w (Gives (.bool (cornerB s l)) w) := by
  obtain ⟨A1, c1, A2, c2, A3, c3, rfl, h1, h2, h3⟩ := hv
  obtain ⟨hc1, hm1⟩ := h1.cap
  obtain ⟨X, cx, e, hcx, hmx⟩ := hx.open_
  simp only [List.cons.injEq, and_true] at e
  subst e
  obtain ⟨W0, hW0⟩ : ∃ W, W = w.alloc (.cells #[.slice A1 s.1.length c1, .slice A2 s.2.1.length c2, .slice A3 s.2.2.length c3] 26) := ⟨_, rfl⟩
  have g0 : Below w.heap.size w W0 := by rw [hW0]; exact bl1 _ _
  have z0 : W0.heap.size = w.heap.size + 1 := by rw [hW0]; simp
  have y0 : W0.cell? ⟨w.heap.size, 0, none⟩ = some (.slice A1 s.1.length c1) := by rw [hW0]; simp [go_sem]
  have HW0 := hid hW0; have G0 := hid g0; have Y0 := hid y0; have H1 := hid (good_dims.on h1 g0); have HX := hid (good_ints.on hx g0)
  have HCI := hid (corner_iff (s := s) (v := l))
  generalize cornerB s l = res at *
  clear hW0 g0 y0 h1 h2 h3 hx
  go_enter Tryz.func37, Tryz.ntmps37
  by_cases hlen : l.length = s.1.length
  · have t0 : ((l.length : Int) != (s.1.length : Int)) = false := by simp [hlen]
    have HLEN := hid hlen
    clear hlen
    go_wp2
    rw [← HW0.out]
    go_loopw [5] (fun i wr => CrRel s l W0 i wr) (fun i _ => l.length - (intOf i).toNat)
    case atStart => exact ⟨0, by omega, rfl, fun j hj => by omega, Below.refl _ _⟩
    case round =>
      obtain ⟨k, hk, rfl, hall, hb⟩ := hrel
      have hs := hb.size
      have HB := hid hb; have HALL := hid hall
      have y0 := cellK hb (by omega) Y0.out
      clear hb hall
      by_cases hlt : k < l.length
      · have hld : k < s.1.length := by have := HLEN.out; omega
        obtain ⟨bx, ox, rfl, hbx, hcx0, -⟩ := ints_at HX.out hlt
        obtain ⟨b, off, AL, cL, rfl, hbl2, q0, q1, hlv, -⟩ := dim_at H1.out hld
        have q1' := cellK HB.out hbl2 q1
        have q2' := cellK HB.out hbx hcx0
        have hba := base_at hld
        have hno : ¬ (0 ≤ l.getD k 0 ∧ l.getD k 0 ≤ (baseX s).getD k 0) → res = false := fun h => by
          rw [Bool.eq_false_iff]; exact fun h' => h ((HCI.out.1 h').2 k hlt)
        have hyes : (0 ≤ l.getD k 0 ∧ l.getD k 0 ≤ (baseX s).getD k 0) → ∀ j, j < k + 1 → 0 ≤ l.getD j 0 ∧ l.getD j 0 ≤ (baseX s).getD j 0 := fun h j hj => by
          by_cases e : j = k
          · subst e; exact h
          · exact HALL.out j (by omega)
        rw [hba] at hno hyes
        generalize l.getD k 0 = x0 at *
        generalize s.1[k].2.length = n at *
        have HNO := hid hno; have HYES := hid hyes
        have t5 : k < s.1.length := hld
        clear hno hyes hba q0 q1 hcx0 hlv
        have hways : (x0 < 0) ∨ (0 ≤ x0 ∧ (n : Int) < x0) ∨ (0 ≤ x0 ∧ x0 ≤ (n : Int)) := by omega
        rcases hways with a | ⟨a, a'⟩ | ⟨a, a'⟩
        · have t1 : decide (x0 < 0) = true := decide_eq_true a
          have HN := hid (HNO.out (by omega))
          clear a
          go_wp2
          go_quiet (fail)
          go_wp2
          go_ret
          exact ⟨by rw [HN.out]; rfl, G0.out.trans ((below_drewN HB.out _).mono (by omega))⟩
        · have t1 : decide (x0 < 0) = false := by rw [decide_eq_false_iff_not]; omega
          have t2 : decide ((n : Int) < x0) = true := decide_eq_true a'
          have HN := hid (HNO.out (by omega))
          clear a a'
          go_wp2
          go_quiet (fail)
          go_wp2
          go_ret
          exact ⟨by rw [HN.out]; rfl, G0.out.trans ((below_drewN HB.out _).mono (by omega))⟩
        · have t1 : decide (x0 < 0) = false := by rw [decide_eq_false_iff_not]; omega
          have t2 : decide ((n : Int) < x0) = false := by rw [decide_eq_false_iff_not]; omega
          have HY := hid (HYES.out ⟨a, a'⟩)
          clear a a'
          go_wp2
          go_quiet (fail)
          go_wp2
          go_roundw
          case rel => exact ⟨k + 1, by omega, by go_num, HY.out, below_drewN HB.out _⟩
          case measure => simp [intOf]; omega
      · have HN := hid (HCI.out.2 ⟨HLEN.out, fun j hj => HALL.out j (by omega)⟩)
        go_wp2
        go_ret
        exact ⟨by rw [HN.out]; rfl, G0.out.trans (HB.out.mono (by omega))⟩
  · have t0 : ((l.length : Int) != (s.1.length : Int)) = true := by simp; omega
    have hn : res = false := by rw [Bool.eq_false_iff]; exact fun h => hlen (HCI.out.1 h).1
    have HN := hid hn
    clear hn hlen
    go_wp2
    rw [← HW0.out]
    go_ret
    exact ⟨by rw [HN.out]; rfl, G0.out⟩
end Go.Proofs.YtgoapnkdcfcjgaaGreat
