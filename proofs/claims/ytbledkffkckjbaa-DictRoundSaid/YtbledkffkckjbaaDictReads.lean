/- The walk of DictReads. -/
import Derived.Test.YtbledkffkckjbaaDictRead3
import Derived.Test.YtbledkffkckjbaaDictLives
namespace Go.Proofs.Ytbledkffkckjbaa
open Go.ChangeShapes Go.WideShapes Go.ChangeAt Go.RowKit Go.Maps
set_option linter.unusedVariables false

theorem bvals_take' (l : List UInt8) (k : Nat) : bvals (l.take k) = (bvals l).take k := by simp [bvals, List.map_take]
set_option maxRecDepth 100000 in
set_option maxHeartbeats 3200000 in
theorem walk_DictReads (w : World) (v : Value) (l : List UInt8) (hv : Sl w w.heap.size v (bvals l)) (hz : l.length ≤ maxLen) (levels : Int) (hlv : InI64 levels) :
    Calls Try.prog 7 #[v, .int .i64 levels] w (Gives (.bool true) w) := by
  obtain ⟨A, c, rfl, hc1, hc2⟩ := hv.form
  obtain ⟨s, hs, hsl, hcase⟩ : ∃ s : List UInt8, s.length ≤ 400 ∧ Sl w w.heap.size (.slice A s.length c) (bvals s) ∧ ((400 < l.length ∧ s.length = 400) ∨ (l.length ≤ 400 ∧ s.length = l.length)) := by
    by_cases h : 400 < l.length
    · have e : (l.take 400).length = 400 := by rw [List.length_take]; omega
      refine ⟨l.take 400, by omega, ?_, .inl ⟨h, e⟩⟩
      rw [e, bvals_take']
      exact Sl.head 400 hv (by omega)
    · exact ⟨l, by omega, hv, .inr ⟨by omega, rfl⟩⟩
  have hn := new2_any (.slice A s.length c) s w hsl (by omega)
  have HN := hid hn; have HSL := hid hsl
  unfold maxLen at hc2
  clear hn hsl hv hz hlv
  go_enter Try.func7, Try.ntmps7
  rcases hcase with ⟨hgt, hlen⟩ | ⟨hle, hlen⟩
  all_goals
    go_wp2_with fail
    first
      | rw [show Value.slice A 400 c = .slice A s.length c by rw [hlen]]
      | rw [show Value.slice A l.length c = .slice A s.length c by rw [hlen]]
    refine HN.out.mono ?_
    rintro en w2 ⟨p, rfl, hr, hp, hap, hb2⟩
    have hpl := hr.lt
    have hH2 := hb2.size
    have R1 := hid (hr.below (bl1 w2 (.cells #[.slice A s.length c, .int .i64 0, .int .i64 0] 55)))
    have X1 := hid (rw_mk (t := 55) (HSL.out.below hb2) hH2 (by omega))
    have B2 := hid (hb2.alloc hH2 (.cells #[.slice A s.length c, .int .i64 0, .int .i64 0] 55))
    clear hr hap hb2 HN
    have hz2 : (w2.alloc (.cells #[.slice A s.length c, .int .i64 0, .int .i64 0] 55)).heap.size = w2.heap.size + 1 := by simp
    have HD := hid (readD_any p p s 0 0 levels _ R1.out (by omega))
    have HRD := hid (fun W h => refReadD_any w.heap.size w2.heap.size s 0 0 levels W h (by omega))
    generalize readD levels s 0 0 = res at *
    obtain ⟨o, a1, e1⟩ := res
    go_wp2_with fail
    first
      | rw [show Value.slice A 400 c = .slice A s.length c by rw [hlen]]
      | rw [show Value.slice A l.length c = .slice A s.length c by rw [hlen]]
    refine HD.out.mono ?_
    rintro en w3 ⟨hr3, hu3, hres⟩
    simp only at hr3 hres
    have HR3 := hid hr3
    have HX3 := hid (X1.out.far hu3 hp (by omega))
    have B3 := hid (B2.out.trans (hu3.below (B := w.heap.size) hp (by omega)))
    have hs3 := hu3.size
    rw [hz2] at hs3
    have HRD3 := hid (HRD.out _ HX3.out)
    clear hr3 hu3 HD HRD R1 X1 B2 hz2
    rcases hres with ⟨ho, rfl⟩ | ⟨ns, d, D, ho, hok, rfl, hdw, hg⟩
    · go_wp2_with fail
      refine HRD3.out.mono ?_
      rintro en w4 ⟨hx4, hu4, d', R, hres⟩
      simp only at hx4 hres
      rcases hres with ⟨_, rfl⟩ | ⟨ns', h, _⟩
      · have HR4 := hid (HR3.out.far hu4 (by omega) (by omega))
        have HX4 := hid hx4
        have B4 := hid (B3.out.trans (hu4.below (B := w.heap.size) hH2 HX3.out.lt))
        clear hx4 hu4
        have HE := hid (fun W h => readEnd_any p p s a1 e1 W h); have HF := hid (fun W h => refReadEnd_any w.heap.size w2.heap.size s a1 e1 W h)
        have HA := hid (fun W h => readAt_any p p s a1 e1 W h)
        have y1 := HX4.out.cellA
        generalize rEnd s a1 e1 = z1 at *
        have t1 : (z1 != z1) = false := by simp
        have t2 : ((a1 : Int) != (a1 : Int)) = false := by simp
        go_wp2
        go_quiet (first | (go_at_call 23; exact Calls.quiet_of (HE.out _ (HR4.out.qu ⟨_, rfl⟩))) | (go_at_call 26; exact Calls.quiet_of (HF.out _ (HX4.out.qu ⟨_, rfl⟩))) | (go_at_call 25; exact Calls.quiet_of (HA.out _ (HR4.out.qu ⟨_, rfl⟩))))
        have B5 := hid (below_drewN B4.out nq)
        go_wp2_with fail
        refine (livesD_any _).mono ?_
        rintro e w9 ⟨rfl, hb9⟩
        have HB9 := hid (B5.out.trans (hb9.mono B5.out.size)); clear hb9
        go_wp2
        go_ret
        exact ⟨rfl, HB9.out⟩
      · rw [ho] at h; cases h
    · go_wp2_with fail
      refine HRD3.out.mono ?_
      rintro en w4 ⟨hx4, hu4, d', R, hres⟩
      simp only at hx4 hres
      rcases hres with ⟨h, _⟩ | ⟨ns', h, _, rfl, hrw, hgr⟩
      · rw [ho] at h; cases h
      · rw [ho] at h
        injection h with h
        subst h
        have HR4 := hid (HR3.out.far hu4 (by omega) (by omega))
        have HX4 := hid hx4
        have B4 := hid (B3.out.trans (hu4.below (B := w.heap.size) hH2 HX3.out.lt))
        have HBO := hid (show BothW w4 w.heap.size D R d d' levels ns from ⟨hdw.upd hu4 (fun hx => by have := hg _ hx; simp at this; omega), hrw, hok.ok, fun k hk hr => by have := hdw.2.1 k hk; have := hgr k hr; omega, fun k hk => by have := hg k hk; simp at this; omega, fun k hk => by have := hgr k hk; omega⟩)
        clear hx4 hu4 hdw hg hrw hgr
        have HE := hid (fun W h => readEnd_any p p s a1 e1 W h); have HF := hid (fun W h => refReadEnd_any w.heap.size w2.heap.size s a1 e1 W h)
        have HA := hid (fun W h => readAt_any p p s a1 e1 W h)
        have y1 := HX4.out.cellA
        generalize rEnd s a1 e1 = z1 at *
        have t1 : (z1 != z1) = false := by simp
        have t2 : ((a1 : Int) != (a1 : Int)) = false := by simp
        go_wp2
        go_quiet (first | (go_at_call 23; exact Calls.quiet_of (HE.out _ (HR4.out.qu ⟨_, rfl⟩))) | (go_at_call 26; exact Calls.quiet_of (HF.out _ (HX4.out.qu ⟨_, rfl⟩))) | (go_at_call 25; exact Calls.quiet_of (HA.out _ (HR4.out.qu ⟨_, rfl⟩))))
        have B5 := hid (below_drewN B4.out nq)
        have HBO5 := hid (HBO.out.below (below_drewN (Below.refl _ _) nq))
        have HLK := hid (like_any w.heap.size D R d d' levels ns _ HBO5.out)
        go_wp2_with fail
        refine HLK.out.mono ?_
        rintro e w8 ⟨rfl, hb8⟩
        have B8 := hid (B5.out.trans (hb8.mono B5.out.size)); clear hb8
        go_wp2_with fail
        refine (livesD_any _).mono ?_
        rintro e w9 ⟨rfl, hb9⟩
        have HB9 := hid (B8.out.trans (hb9.mono B8.out.size)); clear hb9
        go_wp2
        go_ret
        exact ⟨rfl, HB9.out⟩
end Go.Proofs.Ytbledkffkckjbaa
