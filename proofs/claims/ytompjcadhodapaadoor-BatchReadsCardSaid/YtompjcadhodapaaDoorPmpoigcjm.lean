/- 1 text of this claim, in build order. -/
import Derived.Test.YtompjcadhodapaaDoorPokbdolep
import Derived.Test.YtompjcadhodapaaDoorPcpidaann
import Derived.Test.YtompjcadhodapaaDoorPkcfemhjc
import Derived.Test.YtompjcadhodapaaDoorPjpbebgfb
/- The walk of BatchReads. -/
namespace Go.Proofs.YtompjcadhodapaaDoor
open Go.ChangeShapes Go.WideShapes Go.ChangeAt Go.RowKit
set_option linter.unusedVariables false
set_option linter.unusedSimpArgs false

set_option maxRecDepth 100000 in
set_option maxHeartbeats 3200000 in
theorem walk_BatchReads (w : World) (hm : MaxL w) (v : Value) (l : List UInt8) (hv : Sl w w.heap.size v (bvals l)) (hz : l.length ≤ maxLen) :
    Calls Tryd.prog 4 #[v] w (Gives (.bool true) w) := by
  have hv' := hv
  obtain ⟨A, c, rfl, hc1, hc2, -⟩ := hv'
  rw [bvals_len] at hv hc1 ⊢
  obtain ⟨n, hn, hnl, hnc, hways⟩ := cut8 (m := 500) hv
  have hln : (l.take 500).length ≤ 500 := by rw [List.length_take]; omega
  generalize l.take 500 = s at *
  have HN := hid (new2_any (.slice A n c) s w hn (by omega))
  have HSL := hid hn
  have HM := hid hm
  have hml := hm.lt
  unfold maxLen at hc2
  clear hn hv hz hm
  generalize l.length = ll at *
  have hnl' := hnl
  have HNL := hid hnl'
  clear hnl hnl'
  go_enter Tryd.func4, Tryd.ntmps4
  have HRB := hid (fun p W h hm hp => readBt_any p p s 0 0 W h hm hp (by omega))
  have HRR := hid (fun B p W h => refReadBt_any B p s 0 0 W h (by omega))
  have hok := readB_ok s 0 0 (by omega)
  have HE := hid (fun B p a e W h => readEnd_any B p s a e W h); have HF := hid (fun B p a e W h => refReadEnd_any B p s a e W h)
  have HA := hid (fun B p a e W h => readAt_any B p s a e W h); have HFD := hid (fun B p a e W h => readFailed_any B p s a e W h)
  obtain ⟨⟨L, a1, e1⟩, hrr⟩ : ∃ r, r = readB s 0 0 := ⟨_, rfl⟩
  rw [← hrr] at hok
  simp only [← hrr] at HRB HRR
  unfold ReadBPost at HRB HRR
  simp only at HRB HRR hok
  have HFI := hid (FactOk.in_ hok.2.1)
  clear hok hrr
  rcases hways with ⟨t1, hml5, rfl⟩ | ⟨t1, rfl⟩
  case' inl =>
    go_wp2_with fail
    obtain ⟨m, hmm⟩ : ∃ m, m = (500 : Nat) := ⟨_, rfl⟩
    rw [show Value.slice A 500 c = Value.slice A m c by rw [hmm]] at HN HSL ⊢
    have hms : m ≤ 500 := by omega
    clear hmm HNL
  case' inr =>
    go_wp2_with fail
    obtain ⟨m, rfl⟩ : ∃ m : Nat, m = n := ⟨_, rfl⟩
    have hms : m ≤ 500 := by have := HNL.out; omega
    clear HNL
  all_goals
    refine HN.out.mono ?_
    rintro en w2 ⟨p, rfl, hr, hp, hap, hb2⟩
    have hpl := hr.lt
    have hH2 := hb2.size
    have R1 := hid (hr.below (bl1 w2 (.cells #[.slice A m c, .int .i64 0, .int .i64 0] 37)))
    have X1 := hid (rw_mk (t := 37) (HSL.out.below hb2) hH2 (by omega))
    have B2 := hid (hb2.alloc hH2 (.cells #[.slice A m c, .int .i64 0, .int .i64 0] 37))
    obtain ⟨W2, hW2⟩ : ∃ W, W = w2.alloc (.cells #[.slice A m c, .int .i64 0, .int .i64 0] 37) := ⟨_, rfl⟩
    have hz2 : W2.heap.size = w2.heap.size + 1 := by rw [hW2]; simp
    rw [← hW2] at R1 X1 B2
    have HW2 := hid hW2
    have HD := hid (HRB.out p W2 R1.out (HM.out.on B2.out) (by omega))
    clear hr hap hb2 HN hW2
    go_wp2_with fail
    rw [← HW2.out]
    refine HD.out.mono ?_
    rintro en w3 ⟨v3, rfl, hrow3, hr3, hu3⟩
    have hs3 := hu3.size
    have HR3 := hid hr3
    have HX3 := hid (X1.out.far hu3 hp (by omega))
    have B3 := hid (B2.out.trans (hu3.below (B := w.heap.size) hp (by omega)))
    have HRD := hid (HRR.out _ _ _ HX3.out)
    have RC3 := hid hrow3
    obtain ⟨vs3, -, h3, -⟩ := hrow3
    obtain ⟨A3, c3, rfl⟩ := own_formB h3
    clear hr3 hu3 HD R1 X1 B2 h3
    go_wp2_with fail
    refine HRD.out.mono ?_
    rintro en w4 ⟨v4, rfl, hrow4, hx4, hu4⟩
    have hs4 := hu4.size
    have HR4 := hid (HR3.out.far hu4 (by omega) (by omega))
    have HX4 := hid hx4
    have B4 := hid (B3.out.trans (hu4.below (B := w.heap.size) hH2 HX3.out.lt))
    have hrd3 := (RC3.out.keepT (fun _ => KeepT.of_upd hu4 (by omega))).rows HFI.out
    have hrd4 := hrow4.rows HFI.out
    obtain ⟨vs4, -, h4, -⟩ := hrow4
    obtain ⟨A4, c4, rfl⟩ := own_formB h4
    have HSM := hid (sameF_any _ _ L L w4 hrd3 hrd4)
    rw [decide_eq_true rfl] at HSM
    clear hx4 hu4 hrd3 hrd4 h4
    go_wp2_with fail
    refine HSM.out.mono ?_
    rintro en w5 ⟨rfl, hq5⟩
    have HR5 := hid (HR4.out.qu hq5); have HX5 := hid (HX4.out.qu hq5)
    have B5 := hid (B4.out.trans (hq5.below _))
    clear hq5 HR4 HX4 HR3 HX3
    have y1 := HX5.out.cellA; have y2 := HX5.out.cellE
    have E1 := hid (fun W h => HE.out p p a1 e1 W h); have E2 := hid (fun W h => HF.out w.heap.size w2.heap.size a1 e1 W h); have E3 := hid (fun W h => HA.out p p a1 e1 W h); have E4 := hid (fun W h => HFD.out p p a1 e1 W h)
    clear HE HF HA HFD
    generalize hze : rEnd s a1 e1 = z1 at *
    have u1 : ((a1 : Int) == (a1 : Int)) = true := by simp
    have u2 : (z1 == z1) = true := by simp
    have u3 : ((e1 != 0) == (e1 != 0)) = true := by simp
    have HZE := hid hze
    clear hze
    go_wp2
    go_region_held3 (fun w' => w'.cell? ⟨w2.heap.size, 1, none⟩ = some (.int .i64 a1) ∧ w'.cell? ⟨w2.heap.size, 2, none⟩ = some (.int .i64 e1)) (go_keep)
      (first
        | (go_at_call 14; refine (E3.out _ (HR5.out.qu ⟨1, rfl⟩)).mono ?_; rintro en w6 ⟨rfl, hq6⟩; have Q6 := hid ((show Qu w5 w5.drew from ⟨1, rfl⟩).trans hq6); have y3 := (HX5.out.qu Q6.out).cellA; have y4 := (HX5.out.qu Q6.out).cellE; clear hq6)
        | (go_at_call 16; refine (E1.out _ (HR5.out.qu Q6.out)).mono ?_; rintro en w7 ⟨rfl, hq7⟩; have Q7 := hid (Q6.out.trans hq7); have y5 := (HX5.out.qu Q7.out).cellA; have y6 := (HX5.out.qu Q7.out).cellE; clear hq7)
        | (go_at_call 17; refine (E2.out _ (HX5.out.qu Q7.out)).mono ?_; rintro en w8 ⟨rfl, hq8⟩; have Q8 := hid (Q7.out.trans hq8); have y7 := (HX5.out.qu Q8.out).cellA; have y8 := (HX5.out.qu Q8.out).cellE; clear hq8)
        | (go_at_call 13; refine (E4.out _ (HR5.out.qu Q8.out)).mono ?_; rintro en w9 ⟨rfl, hq9⟩; have Q9 := hid (Q8.out.trans hq9); have y9 := (HX5.out.qu Q9.out).cellA; have yA := (HX5.out.qu Q9.out).cellE; clear hq9)
        | (go_at_call 9; refine (lives_true _).mono ?_; rintro en wA ⟨rfl, hbA⟩; have BA := hid (B5.out.trans ((Q9.out.below w.heap.size).trans (hbA.mono (by have := Q9.out.size; have := B5.out.size; omega)))); have XA := hid ((HX5.out.qu Q9.out).below hbA); have yB := XA.out.cellA; have yC := XA.out.cellE; clear hbA))
    go_wp2
    go_ret
    exact ⟨rfl, BA.out⟩
end Go.Proofs.YtompjcadhodapaaDoor
