/- 1 text of this claim, in build order. -/
import Derived.Test.YtompjcadhodapaaDoorPebcgdcoc
import Derived.Test.YtompjcadhodapaaDoorPcpidaann
import Derived.Test.YtompjcadhodapaaDoorPkcfemhjc
import Derived.Test.YtompjcadhodapaaDoorPjpbebgfb
/- The walk of BatchRound. -/
namespace Go.Proofs.YtompjcadhodapaaDoor
open Go.ChangeShapes Go.WideShapes Go.ChangeAt Go.RowKit
set_option linter.unusedVariables false
set_option linter.unusedSimpArgs false

set_option maxRecDepth 100000 in
set_option maxHeartbeats 3200000 in
theorem walk_BatchRound (w : World) (hm : MaxL w) (x : Value) (L : List FactX) (hx : rdSlice 2 rdFact w w.heap.size [x] L) (v : Value) (l : List UInt8) (hv : Sl w w.heap.size v (bvals l)) (hz : l.length ≤ maxLen) :
    Calls Tryd.prog 3 #[x, v] w (Gives (.bool true) w) := by
  obtain ⟨i0, hi, hz0, hz1, hz2⟩ := info_parts info_byte
  have hv' := hv
  obtain ⟨A, c, rfl, hc1, hc2, -⟩ := hv'
  rw [bvals_len] at hv hc1 ⊢
  obtain ⟨n, hn, hnl, hnc, hways⟩ := cut8 (m := 9) hv
  have hln : (l.take 9).length ≤ 9 := by rw [List.length_take]; omega
  have HF := hid (fewB_any x L w w.heap.size (Nat.le_refl _) hx)
  obtain ⟨hs1, hs2⟩ := fewFs_small L
  generalize fewFs L = M at *
  generalize l.take 9 = s at *
  have HSL := hid hn
  have HM := hid hm
  have hml := hm.lt
  unfold maxLen at hc2
  clear hn hv hz hm hx
  generalize l.length = ll at *
  have HNL := hid hnl
  clear hnl
  go_enter Tryd.func3, Tryd.ntmps3
  go_wp2_with fail
  refine HF.out.mono ?_
  rintro e w1 ⟨r, rfl, hr, hb1⟩
  obtain ⟨hrd, Ar, cr, rfl⟩ := hr.rows (N := w1.heap.size) hb1.size (Nat.le_refl _)
  have HB1 := hid hb1
  have HSL1 := hid (HSL.out.below hb1)
  have HP := hid (putFacts_any (.slice none 0 0) _ [] M w1 Sl.nil_ (by simp) hrd)
  have HRD := hid (fun W (hb : Below w1.heap.size w1 W) => good_facts.on hrd hb)
  unfold PutFP at HP
  rw [List.nil_append] at HP
  clear hb1 hr hrd
  rcases hways with ⟨t1, hml9, rfl⟩ | ⟨t1, rfl⟩
  case' inl =>
    go_wp2_with fail
    obtain ⟨m, hmm⟩ : ∃ m, m = (9 : Nat) := ⟨_, rfl⟩
    rw [show Value.slice A 9 c = Value.slice A m c by rw [hmm]] at HSL1 ⊢
    have HMS := hid (show m = s.length by rw [hmm]; exact HNL.out)
    have hm9 : m ≤ 9 := by omega
    clear hmm HNL
  case' inr =>
    go_wp2_with fail
    obtain ⟨m, rfl⟩ : ∃ m : Nat, m = n := ⟨_, rfl⟩
    have HMS := HNL
    have hm9 : m ≤ 9 := by have := HNL.out; omega
    clear HNL
  all_goals
    refine HP.out.mono ?_
    rintro e w2 hp2
    rcases hp2 with ⟨hpl, r2, rfl, ho2, hb2⟩ | ⟨hpl, rfl, hb2⟩
    · obtain ⟨hl8, hpf⟩ := putE_zero hpl
      have hplen := putFacts_len hs1 hpf
      have HRB := hid (fun post => readB_put M hl8 hpf post)
      have B2 := hid hb2
      have HSL2 := hid (HSL1.out.below (hb2.mono HB1.out.size))
      obtain ⟨A2, c2, rfl⟩ := ho2.form
      have HO2 := hid ho2
      have z2 := hb2.size
      have z1 := HB1.out.size
      generalize hpf' : putFacts M = T at *
      have HPF := hid hpf'
      obtain ⟨tn, htn⟩ : ∃ n, n = T.length := ⟨_, rfl⟩
      rw [← htn] at hplen ⊢
      have HTN := hid htn
      have HO3 := hid (show w2.ownsRow w1.heap.size 5 1 (.slice A2 tn c2) tn (bvals T) by rw [htn]; exact HO2.out)
      clear hpl hpf hb2 ho2 hpf' htn hl8
      go_wp2_with (at_builtin; refine stop_here ?_)
      refine go_on ?_
      refine app_own (.tmp 33) (.tmp 34) 23 23 rfl rfl w1.heap.size 5 i0 (.int .u8 0) 1 1 Tryd.underlying23 hi hz0 hz1 hz2 rfl (by omega) _ tn (bvals T) rfl HO3.out (.slice A m c) m (bvals s) rfl (by have := src_sl _ Tryd.underlying23 HSL2.out (bvals_one s); rwa [bvals_len, ← HMS.out] at this) (by simp only [maxLen]; omega) (by omega) (by omega) ?_
      intro v3 w3 ho3 hg3 hb3
      rw [← bvals_app] at ho3
      have hTs : (T ++ s).length = tn + m := by rw [List.length_append, HTN.out, HMS.out]
      have B3 := hid (B2.out.trans hb3)
      have z3 := hb3.size
      have S3 := hid (show Sl w3 w3.heap.size v3 (bvals (T ++ s)) from Sl.of_own ho3)
      have HN := hid (new2_any v3 (T ++ s) w3 S3.out (by omega))
      clear ho3 hg3 hb3
      go_wp2_with fail
      refine HN.out.mono ?_
      rintro en w4 ⟨p, rfl, hr4, hp4, -, hb4⟩
      have z4 := hb4.size
      have B4 := hid (B3.out.trans (hb4.mono (by omega)))
      have HR4 := hid hr4
      have hpl := hr4.lt
      have HD := hid (readBt_any p p (T ++ s) 0 0 w4 hr4 (HM.out.on ((HB1.out).trans (B4.out.mono z1))) (by omega) (by omega))
      clear hr4 hb4
      rw [HRB.out] at HD
      unfold ReadBPost at HD
      go_wp2_with fail
      refine HD.out.mono ?_
      rintro en w5 ⟨v5, rfl, hrow5, hr5, hu5⟩
      have z5 := hu5.size
      have B5 := hid (B4.out.trans (hu5.below (B := w1.heap.size) (by omega) (by omega)))
      have HFI : FactsIn M := by
        have h := readB_ok (T ++ s) 0 0 (by omega)
        rw [HRB.out] at h
        exact FactOk.in_ h.2.1
      have HRI := hrow5.rows HFI
      clear HFI
      obtain ⟨vs5, -, h5, -⟩ := hrow5
      obtain ⟨A5, c5, rfl⟩ := own_formB h5
      have HSM := hid (sameF_any _ _ M M w5 (HRD.out w5 B5.out) HRI)
      rw [decide_eq_true rfl] at HSM
      rw [← HTN.out] at hr5
      have HR5 := hid hr5
      clear hr5 hu5 h5 HRI HN HD
      go_wp2_with fail
      refine HSM.out.mono ?_
      rintro en w6 ⟨rfl, hq6⟩
      have HR6 := hid (HR5.out.qu hq6)
      have B6 := hid (B5.out.trans (hq6.below _))
      clear hq6
      go_wp2_with fail
      refine (readFailed_any _ _ _ _ _ _ HR6.out).mono ?_
      rintro en w7 ⟨rfl, hq7⟩
      have HR7 := hid (HR6.out.qu hq7)
      have B7 := hid (B6.out.trans (hq7.below _))
      clear hq7
      have u0 : (!((0 : Int) != 0)) = true := by simp
      go_wp2_with fail
      refine (readAt_any _ _ _ _ _ _ HR7.out).mono ?_
      rintro en w8 ⟨rfl, hq8⟩
      have B8 := hid (B7.out.trans (hq8.below _))
      clear hq8
      have u1 : ((tn : Int) == (tn : Int)) = true := by simp
      go_wp2_with fail
      refine (lives_true _).mono ?_
      rintro en w9 ⟨rfl, hb9⟩
      have B9 := hid (HB1.out.trans ((B8.out.trans (hb9.mono B8.out.size)).mono z1)); clear hb9
      go_wp2
      go_ret
      exact ⟨rfl, B9.out⟩
    · have t2 : (putE M != 0) = true := by simpa using hpl
      have B2 := hid (HB1.out.trans (hb2.mono HB1.out.size))
      clear hpl hb2
      generalize putE M = pe at *
      go_wp2_with fail
      refine (lives_true _).mono ?_
      rintro e w5 ⟨rfl, hb5⟩
      have HB5 := hid (B2.out.trans (hb5.mono B2.out.size)); clear hb5
      go_wp2
      go_ret
      exact ⟨rfl, HB5.out⟩
end Go.Proofs.YtompjcadhodapaaDoor
