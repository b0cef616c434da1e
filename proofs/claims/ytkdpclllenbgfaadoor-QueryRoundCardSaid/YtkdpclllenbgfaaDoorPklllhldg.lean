/- 2 texts of this claim, in build order. -/
import Derived.Test.YtkdpclllenbgfaaDoorPljbchkpl
import Derived.Test.YtkdpclllenbgfaaDoorPaeabnpim
import Derived.Test.YtkdpclllenbgfaaDoorPoklidmgm
import Derived.Test.YtkdpclllenbgfaaDoorPfjncefhb
import Derived.Test.YtkdpclllenbgfaaDoorPgeebagdj
import Derived.Test.YtkdpclllenbgfaaDoorPjobeecjl
/- The walk of QueryReads. -/
namespace Go.Proofs.YtkdpclllenbgfaaDoor
open Go.ChangeShapes Go.WideShapes Go.ChangeAt Go.RowKit
set_option linter.unusedVariables false
set_option linter.unusedSimpArgs false

theorem queryV_of {w : World} {base : Nat} {gv fv : Value} {q : QueryX} (h1 : w.ownsRow base 3 1 gv q.1.length (ivals q.1)) (h2 : FRowT w base fv q.2) (hq : QueryOk q) : QueryV w w.heap.size (.agg #[gv, fv]) q := by
  have r2 := h2.rows (fun f hf => ⟨(hq.2.2.2 f hf).1, (hq.2.2.2 f hf).2.1, fun p hp => ((hq.2.2.2 f hf).2.2.2 p hp).1⟩)
  obtain ⟨A1, c1, rfl⟩ := own_formB h1
  obtain ⟨vs, -, h3, -⟩ := h2
  obtain ⟨A2, c2, rfl⟩ := own_formB h3
  exact ⟨A1, c1, A2, c2, rfl, rdInts_of_own rfl h1 hq.2.2.1, r2⟩
set_option maxRecDepth 100000 in
set_option maxHeartbeats 3200000 in
theorem walk_QueryReads (w : World) (hm : MaxL w) (v : Value) (l : List UInt8) (hv : Sl w w.heap.size v (bvals l)) (hz : l.length ≤ maxLen) :
    Calls Tryd.prog 3 #[v] w (Gives (.bool true) w) := by
  have hv' := hv
  obtain ⟨A, c, rfl, hc1, hc2, -⟩ := hv'
  rw [bvals_len] at hv hc1 ⊢
  obtain ⟨n, hn, hnl, hnc, hways⟩ := cut8 (m := 400) hv
  have hln : (l.take 400).length ≤ 400 := by rw [List.length_take]; omega
  generalize l.take 400 = s at *
  have HN := hid (new2_any (.slice A n c) s w hn (by omega))
  have HSL := hid hn
  have HM := hid hm
  have hml := hm.lt
  unfold maxLen at hc2
  clear hn hv hz hm
  generalize l.length = ll at *
  have hnl' := hnl
  have HNL := hid hnl'
  clear hnl hnl'
  go_enter Tryd.func3, Tryd.ntmps3
  have HRB := hid (fun p W h hm hp => readQ_any p p s 0 0 W h hm hp (by omega))
  have HRR := hid (fun B p W h => refReadQ_any B p s 0 0 W h (by omega))
  have hok := readQ_ok s 0 0 (by omega)
  have HE := hid (fun B p a e W h => readEnd_any B p s a e W h); have HF := hid (fun B p a e W h => refReadEnd_any B p s a e W h)
  have HA := hid (fun B p a e W h => readAt_any B p s a e W h)
  obtain ⟨⟨L, a1, e1⟩, hrr⟩ : ∃ r, r = readQ s 0 0 := ⟨_, rfl⟩
  rw [← hrr] at hok
  simp only [← hrr] at HRB HRR
  unfold ReadQPost at HRB HRR
  simp only at HRB HRR hok
  have HOK := hid hok.1
  clear hok hrr
  rcases hways with ⟨t1, hml5, rfl⟩ | ⟨t1, rfl⟩
  case' inl =>
    go_wp2_with fail
    obtain ⟨m, hmm⟩ : ∃ m, m = (400 : Nat) := ⟨_, rfl⟩
    rw [show Value.slice A 400 c = Value.slice A m c by rw [hmm]] at HN HSL ⊢
    have hms : m ≤ 400 := by omega
    clear hmm HNL
  case' inr =>
    go_wp2_with fail
    obtain ⟨m, rfl⟩ : ∃ m : Nat, m = n := ⟨_, rfl⟩
    have hms : m ≤ 400 := by have := HNL.out; omega
    clear HNL
  all_goals
    refine HN.out.mono ?_
    rintro en w2 ⟨p, rfl, hr, hp, hap, hb2⟩
    have hpl := hr.lt
    have hH2 := hb2.size
    have R1 := hid (hr.below (bl1 w2 (.cells #[.slice A m c, .int .i64 0, .int .i64 0] 28)))
    have X1 := hid (rw_mk (t := 28) (HSL.out.below hb2) hH2 (by omega))
    have B2 := hid (hb2.alloc hH2 (.cells #[.slice A m c, .int .i64 0, .int .i64 0] 28))
    obtain ⟨W2, hW2⟩ : ∃ W, W = w2.alloc (.cells #[.slice A m c, .int .i64 0, .int .i64 0] 28) := ⟨_, rfl⟩
    have hz2 : W2.heap.size = w2.heap.size + 1 := by rw [hW2]; simp
    rw [← hW2] at R1 X1 B2
    have HW2 := hid hW2
    have HD := hid (HRB.out p W2 R1.out (HM.out.on B2.out) (by omega))
    clear hr hap hb2 HN hW2
    go_wp2_with fail
    rw [← HW2.out]
    refine HD.out.mono ?_
    rintro en w3 ⟨gv, fv, rfl, hg3, hf3, hr3, hu3⟩
    obtain ⟨Ag, cg, rfl⟩ := own_formB hg3
    have hf3' := hf3
    obtain ⟨vs3, -, h3, -⟩ := hf3'
    obtain ⟨Af, cf, rfl⟩ := own_formB h3
    clear h3
    have hs3 := hu3.size
    obtain ⟨W3, hW3⟩ : ∃ W, W = w3.alloc (.cells #[.slice Ag L.1.length cg, .slice Af L.2.length cf] 32) := ⟨_, rfl⟩
    have b3 : Below w3.heap.size w3 W3 := by rw [hW3]; exact bl1 _ _
    have z3 : W3.heap.size = w3.heap.size + 1 := by rw [hW3]; simp
    have y0 : W3.cell? ⟨w3.heap.size, 0, none⟩ = some (.slice Ag L.1.length cg) := by rw [hW3]; simp [go_sem]
    have y1 : W3.cell? ⟨w3.heap.size, 1, none⟩ = some (.slice Af L.2.length cf) := by rw [hW3]; simp [go_sem]
    have HR3 := hid (hr3.below b3)
    have HX3 := hid ((X1.out.far hu3 hp (by omega)).below b3)
    have B3 := hid ((B2.out.trans (hu3.below (B := w.heap.size) hp (by omega))).trans (b3.mono (by omega)))
    have G3 := hid (own_keepT hg3 (KeepT.of_below b3)); have F3 := hid (hf3.keepT (fun _ => KeepT.of_below b3))
    have HRD := hid (HRR.out _ _ W3 HX3.out)
    have HW3 := hid hW3; have Y0 := hid y0; have Y1 := hid y1
    clear hr3 hu3 HD R1 X1 B2 hg3 hf3 b3 hW3 y0 y1
    go_wp2_with fail
    rw [← HW3.out]
    refine HRD.out.mono ?_
    rintro en w4 ⟨gv, fv, rfl, hg4, hf4, hx4, hu4⟩
    obtain ⟨Bg, dg, rfl⟩ := own_formB hg4
    have hf4' := hf4
    obtain ⟨vs4, -, h4, -⟩ := hf4'
    obtain ⟨Bf, df, rfl⟩ := own_formB h4
    clear h4
    have hs4 := hu4.size
    obtain ⟨W4, hW4⟩ : ∃ W, W = w4.alloc (.cells #[.slice Bg L.1.length dg, .slice Bf L.2.length df] 32) := ⟨_, rfl⟩
    have b4 : Below w4.heap.size w4 W4 := by rw [hW4]; exact bl1 _ _
    have z4 : W4.heap.size = w4.heap.size + 1 := by rw [hW4]; simp
    have y0 : W4.cell? ⟨w4.heap.size, 0, none⟩ = some (.slice Bg L.1.length dg) := by rw [hW4]; simp [go_sem]
    have y1 : W4.cell? ⟨w4.heap.size, 1, none⟩ = some (.slice Bf L.2.length df) := by rw [hW4]; simp [go_sem]
    have y2 : W4.cell? ⟨w3.heap.size, 0, none⟩ = some (.slice Ag L.1.length cg) := cellK b4 (by omega) (hu4.cellAt (by omega) (by omega) Y0.out)
    have y3 : W4.cell? ⟨w3.heap.size, 1, none⟩ = some (.slice Af L.2.length cf) := cellK b4 (by omega) (hu4.cellAt (by omega) (by omega) Y1.out)
    have HR4 := hid ((HR3.out.far hu4 (by omega) (by omega)).below b4)
    have HX4 := hid (hx4.below b4)
    have B4 := hid ((B3.out.trans (hu4.below (B := w.heap.size) hH2 (by omega))).trans (b4.mono (by omega)))
    have q1 : QueryV W4 W4.heap.size (.agg #[.slice Ag L.1.length cg, .slice Af L.2.length cf]) L :=
      queryV_of (own_keepT (own_keepT G3.out (KeepT.of_upd hu4 (by omega))) (KeepT.of_below b4)) ((F3.out.keepT (fun _ => KeepT.of_upd hu4 (by omega))).keepT (fun _ => KeepT.of_below b4)) HOK.out
    have q2 : QueryV W4 W4.heap.size (.agg #[.slice Bg L.1.length dg, .slice Bf L.2.length df]) L :=
      queryV_of (own_keepT hg4 (KeepT.of_below b4)) (hf4.keepT (fun _ => KeepT.of_below b4)) HOK.out
    have HSM := hid (sameQ_any _ _ L L W4 q1 q2)
    unfold SameQPost at HSM
    rw [decide_eq_true rfl] at HSM
    have i0 := y0; have i1 := y1; have i2 := y2; have i3 := y3
    rw [hW4] at i0 i1 i2 i3
    have HW4 := hid hW4
    clear hx4 hu4 hg4 hf4 q1 q2 hW4 b4 y0 y1 y2 y3
    go_wp2_with fail
    rw [← HW4.out]
    refine HSM.out.mono ?_
    rintro en w5 ⟨rfl, hq5⟩
    have hs5 := hq5.size
    have HR5 := hid (HR4.out.below hq5); have HX5 := hid (HX4.out.below hq5)
    have B5 := hid (B4.out.trans (hq5.mono B4.out.size))
    clear hq5 HR4 HX4 HR3 HX3 i0 i1 i2 i3
    have y1 := HX5.out.cellA
    have E1 := hid (fun W h => HE.out p p a1 e1 W h); have E2 := hid (fun W h => HF.out w.heap.size w2.heap.size a1 e1 W h); have E3 := hid (fun W h => HA.out p p a1 e1 W h)
    clear HE HF HA
    generalize hze : rEnd s a1 e1 = z1 at *
    have u1 : ((a1 : Int) == (a1 : Int)) = true := by simp
    have u2 : (z1 == z1) = true := by simp
    have HZE := hid hze
    clear hze
    go_wp2
    go_region_held3 (fun w' => w'.cell? ⟨w2.heap.size, 1, none⟩ = some (.int .i64 a1)) (go_keep)
      (first
        | (go_at_call 9; refine (E3.out _ (HR5.out.qu ⟨1, rfl⟩)).mono ?_; rintro en w6 ⟨rfl, hq6⟩; have Q6 := hid ((show Qu w5 w5.drew from ⟨1, rfl⟩).trans hq6); have y3 := (HX5.out.qu Q6.out).cellA; clear hq6)
        | (go_at_call 10; refine (E1.out _ (HR5.out.qu Q6.out)).mono ?_; rintro en w7 ⟨rfl, hq7⟩; have Q7 := hid (Q6.out.trans hq7); have y5 := (HX5.out.qu Q7.out).cellA; clear hq7)
        | (go_at_call 11; refine (E2.out _ (HX5.out.qu Q7.out)).mono ?_; rintro en w8 ⟨rfl, hq8⟩; have Q8 := hid (Q7.out.trans hq8); have y7 := (HX5.out.qu Q8.out).cellA; clear hq8)
        | (go_at_call 12; refine (lives_true _).mono ?_; rintro en wA ⟨rfl, hbA⟩; have BA := hid (B5.out.trans ((Q8.out.below w.heap.size).trans (hbA.mono (by have := Q8.out.size; have := B5.out.size; omega)))); have XA := hid ((HX5.out.qu Q8.out).below hbA); have yB := XA.out.cellA; clear hbA))
    go_wp2
    go_ret
    exact ⟨rfl, BA.out⟩
end Go.Proofs.YtkdpclllenbgfaaDoor
/- Rows of one's own, of lists of texts that were handed in. -/
namespace Go.Proofs.YtkdpclllenbgfaaDoor
open Go.ChangeShapes Go.WideShapes Go.ChangeAt Go.RowKit
set_option linter.unusedVariables false
set_option linter.unusedSimpArgs false

/-- A row of one's own, from base on; its lists lie below B. -/
def RowP (w : World) (base B : Nat) (out : Value) (M : List (List ByteArray)) : Prop :=
  ∃ vs : List Value, vs.length = M.length ∧ w.ownsRow base 41 1 out M.length vs ∧ ∀ j, j < M.length → rdStrs w B [vs.getD j undef] (M.getD j [])
theorem RowP.nil_ (w : World) (base B : Nat) : RowP w base B (.slice none 0 0) [] := ⟨[], rfl, World.ownsRow_nil _ _ _ _, fun j hj => by simp at hj⟩
theorem RowP.kept {w w' : World} {base B : Nat} {out : Value} {M : List (List ByteArray)} (h : RowP w base B out M) (hb : Below B w w') (k : ∀ g, out.ownBlock = some g → w'.heap[g]? = w.heap[g]?) : RowP w' base B out M := by
  obtain ⟨vs, h1, h2, h3⟩ := h
  exact ⟨vs, h1, own_kept h2 k, fun j hj => good_strs.stays (h3 j hj) hb⟩
theorem RowP.lt {w : World} {base B : Nat} {out : Value} {M : List (List ByteArray)} (h : RowP w base B out M) : ∀ g, out.ownBlock = some g → base ≤ g ∧ g < w.heap.size := by
  obtain ⟨vs, h1, h2, h3⟩ := h
  exact h2.lt
theorem RowP.app {w w' : World} {base B : Nat} {v' u : Value} {M : List (List ByteArray)} {vs : List Value} {x : List ByteArray} (h1 : vs.length = M.length) (h3 : ∀ j, j < M.length → rdStrs w B [vs.getD j undef] (M.getD j []))
    (hu : rdStrs w B [u] x) (hb : Below B w w') (ho : w'.ownsRow base 41 1 v' (M.length + 1) (vs ++ [u])) : RowP w' base B v' (M ++ [x]) := by
  refine ⟨vs ++ [u], by simp [h1], by rw [List.length_append]; exact ho, fun j hj => ?_⟩
  rw [List.length_append] at hj
  rcases Nat.lt_or_ge j M.length with hlt | hge
  · rw [List.getD_eq_getElem?_getD, List.getElem?_append_left (by omega), ← List.getD_eq_getElem?_getD, List.getD_eq_getElem?_getD (l := M ++ [x]), List.getElem?_append_left hlt, ← List.getD_eq_getElem?_getD]
    exact good_strs.stays (h3 j hlt) hb
  · obtain rfl : j = M.length := by simp at hj; omega
    rw [List.getD_eq_getElem?_getD, List.getElem?_append_right (by omega), List.getD_eq_getElem?_getD (l := M ++ [x]), List.getElem?_append_right (by omega), h1, Nat.sub_self]
    exact good_strs.stays hu hb
theorem RowP.rows {w : World} {base B N : Nat} {out : Value} {M : List (List ByteArray)} (h : RowP w base B out M) (hB : B ≤ N) (hN : w.heap.size ≤ N) : rdSlice 1 rdStrs w N [out] M := by
  obtain ⟨vs, h1, h2, h3⟩ := h
  obtain ⟨A, c, rfl, g1, g2, g3⟩ := own_cells h2
  refine ⟨A, c, rfl, g1, g2, fun h0 => ?_⟩
  obtain ⟨g, rfl, -, hg, -⟩ := g3 h0
  refine ⟨g, 0, rfl, by omega, fun i x hx => ?_⟩
  have hil := (List.getElem?_eq_some_iff.1 hx).1
  have hgd : M.getD i [] = x := by rw [List.getD_eq_getElem?_getD, hx]; rfl
  have hc2 := h2.cellAt (g := g) i (by omega)
  refine ⟨[vs.getD i undef], rfl, fun j u hu => ?_, ?_⟩
  · cases j with
    | succ j => simp at hu
    | zero =>
      simp at hu; subst hu
      rw [Nat.mul_one, Nat.add_zero, Nat.zero_add, hc2, List.getElem?_eq_getElem (show i < vs.length by omega)]; rfl
  · have := h3 i hil
    rw [hgd] at this
    exact good_strs.more this hB
theorem RowP.less {w : World} {base base' B : Nat} {out : Value} {M : List (List ByteArray)} (h : RowP w base B out M) (hb : base' ≤ base) : RowP w base' B out M := by
  obtain ⟨vs, h1, ⟨h2, h2'⟩, h3⟩ := h
  refine ⟨vs, h1, ⟨h2, ?_⟩, h3⟩
  rcases h2' with h2' | ⟨g, cap, cur, rfl, hbg, r⟩
  · exact .inl h2'
  · exact .inr ⟨g, cap, cur, rfl, by omega, r⟩
end Go.Proofs.YtkdpclllenbgfaaDoor
