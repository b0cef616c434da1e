/- 2 texts of this claim, in build order. -/
import Derived.Test.YtkgifbnkkmeoiaaGreatDoorPdjpiokmm
import Derived.Test.YtkgifbnkkmeoiaaGreatDoorPpmdbigjb
import Derived.Test.YtkgifbnkkmeoiaaGreatDoorPjafdajca
import Derived.Test.YtkgifbnkkmeoiaaGreatDoorPjomjnnil
import Derived.Test.YtkgifbnkkmeoiaaGreatDoorPkfhbhnoo
import Derived.Test.YtkgifbnkkmeoiaaGreatDoorPmadegoli
import Derived.Test.YtkgifbnkkmeoiaaGreatDoorPinglbimp
import Derived.Test.YtkgifbnkkmeoiaaGreatDoorPoekohcfp
/- The walk of LinksGets. (printed by wip/lnkw.py) -/
namespace Go.Proofs.YtkgifbnkkmeoiaaGreatDoor
open Go.ChangeShapes Go.WideShapes Go.ChangeAt Go.RowKit
set_option linter.unusedVariables false
set_option linter.unusedSimpArgs false

set_option maxRecDepth 100000 in
set_option maxHeartbeats 3200000 in
theorem walk_LinksGets (w : World) (hm : MaxL w) (v : Value) (l : List UInt8) (hv : Sl w w.heap.size v (bvals l)) (hz : l.length ≤ maxLen) : Calls Tryz.prog 4 #[v] w (Gives (.bool true) w) := by
  obtain ⟨A, c, e, hc1, hc2, -⟩ := id hv
  rw [bvals_len] at e hc1
  subst e
  unfold maxLen at hc2
  have key : ∀ (k : List UInt8) (n : Nat), n = k.length → k.length ≤ 800 → Sl w w.heap.size (.slice A n c) (bvals k) → ∃ gx er, (MsgIn gx ∧ ∀ x ∈ gx.ents, EntIn x) ∧ gx.data.length ≤ 160 ∧ Calls Tryz.prog 10 #[.slice A n c] w (GetP (gx, er) w) ∧
      ∀ W, Below w.heap.size w W → Calls Tryz.prog 13 #[.slice A n c] W (GetP (gx, er) W) := by
    intro k n hn hk hs
    refine ⟨(getMP k).1, (getMP k).2, (getMP_in k).1, (getMP_in k).2, getM_any _ k w hs (by omega) hm, fun W hW => ?_⟩
    have := getMR_any (.slice A n c) k W ((hs.below hW).more hW.size) (by omega)
    rwa [← getM_same] at this
  by_cases h8 : 800 < l.length
  · obtain ⟨gx, er, hin, hdg, hgp, hgr⟩ := key (l.take 800) 800 (by rw [List.length_take]; omega) (by rw [List.length_take]; omega) (hv.headB (by omega))
    have HIN := hid hin; have HDG := hid hdg; have HGP := hid hgp; have HR := hid hgr
    clear hin hdg hgp hgr key hv hm hz
    generalize l.length = n at *
    go_enter Tryz.func4, Tryz.ntmps4
    go_wp2_with fail
    (with_reducible refine HGP.out.mono ?_)
    rintro e w2 h2
    obtain ⟨u, rfl, hu2, hb2⟩ := h2.msg HIN.out
    obtain ⟨C1, e1, C2, e2, rfl, g2, g3, g4⟩ := id hu2
    clear g2 g3 g4 h2
    simp only [msgCs] at hu2 ⊢
    have HU2 := hid hu2; have HB2 := hid hb2
    clear hu2 hb2
    go_upto_region 4 with (fail)
    obtain ⟨W3, hW3⟩ : ∃ W, W = w2.alloc (.cells #[(.int .i64 gx.kind), (.int .i64 gx.src), (.int .i64 gx.dst), (.int .i64 gx.term), (.int .i64 gx.index), (.int .i64 gx.logTerm), (.int .i64 gx.commit), (.int .i64 gx.round), (.bool gx.reject), (.int .i64 gx.off), (.int .i64 gx.total), (.slice C1 gx.ents.length e1), (.slice C2 gx.data.length e2)] 25) := ⟨_, rfl⟩
    obtain ⟨p, hp⟩ : ∃ p, p = w2.heap.size := ⟨_, rfl⟩
    rw [← hW3, ← hp]
    have hb23 : Below w2.heap.size w2 W3 := by rw [hW3]; exact bl1 _ _
    have HG3 := hid (show BoxC W3 p [(.int .i64 gx.kind), (.int .i64 gx.src), (.int .i64 gx.dst), (.int .i64 gx.term), (.int .i64 gx.index), (.int .i64 gx.logTerm), (.int .i64 gx.commit), (.int .i64 gx.round), (.bool gx.reject), (.int .i64 gx.off), (.int .i64 gx.total), (.slice C1 gx.ents.length e1), (.slice C2 gx.data.length e2)] by rw [hW3, hp]; exact BoxC.new w2 _ _)
    have HU3 := hid (HU2.out.on hb23)
    have HB3 := hid (HB2.out.trans (hb23.mono HB2.out.size))
    have HZ3 := hid (show p + 1 = W3.heap.size by rw [hW3, hp]; simp)
    have HGR := hid (HR.out W3 HB3.out)
    clear hW3 hp hb23
    go_wp2_with fail
    (with_reducible refine HGR.out.mono ?_)
    rintro e w4 h4
    obtain ⟨u, rfl, hu4, hb4⟩ := h4.msg HIN.out
    obtain ⟨D1, f1, D2, f2, rfl, g2, g3, g4⟩ := id hu4
    clear g2 g3 g4 h4
    simp only [msgCs] at hu4 ⊢
    have HV4 := hid hu4; have HU4 := hid (HU3.out.on hb4); have HB4 := hid (HB3.out.trans (hb4.mono HB3.out.size))
    have HG4 := hid (HG3.out.below hb4 (by have := HZ3.out; omega))
    have HZ4 := hid (show p + 1 ≤ w4.heap.size by have := HZ3.out; have := hb4.size; omega)
    clear hu4 hb4
    go_upto_region 5 with (fail)
    obtain ⟨W5, hW5⟩ : ∃ W, W = w4.alloc (.cells #[(.int .i64 gx.kind), (.int .i64 gx.src), (.int .i64 gx.dst), (.int .i64 gx.term), (.int .i64 gx.index), (.int .i64 gx.logTerm), (.int .i64 gx.commit), (.int .i64 gx.round), (.bool gx.reject), (.int .i64 gx.off), (.int .i64 gx.total), (.slice D1 gx.ents.length f1), (.slice D2 gx.data.length f2)] 25) := ⟨_, rfl⟩
    obtain ⟨r, hr⟩ : ∃ r, r = w4.heap.size := ⟨_, rfl⟩
    rw [← hW5, ← hr]
    have hb45 : Below w4.heap.size w4 W5 := by rw [hW5]; exact bl1 _ _
    have HH5 := hid (show BoxC W5 r [(.int .i64 gx.kind), (.int .i64 gx.src), (.int .i64 gx.dst), (.int .i64 gx.term), (.int .i64 gx.index), (.int .i64 gx.logTerm), (.int .i64 gx.commit), (.int .i64 gx.round), (.bool gx.reject), (.int .i64 gx.off), (.int .i64 gx.total), (.slice D1 gx.ents.length f1), (.slice D2 gx.data.length f2)] by rw [hW5, hr]; exact BoxC.new w4 _ _)
    have HG5 := hid (HG4.out.below hb45 HZ4.out)
    have HB5 := hid (HB4.out.trans (hb45.mono HB4.out.size))
    have HSAME := hid (sameM_eq _ _ gx W5 (HU4.out.on hb45) (HV4.out.on hb45) (Nat.le_trans HDG.out (by omega)))
    clear hW5 hr hb45
    obtain ⟨x0, -⟩ := HG5.out.c 0 _ rfl; obtain ⟨x1, -⟩ := HG5.out.c 1 _ rfl; obtain ⟨x2, -⟩ := HG5.out.c 2 _ rfl; obtain ⟨x3, -⟩ := HG5.out.c 3 _ rfl; obtain ⟨x4, -⟩ := HG5.out.c 4 _ rfl; obtain ⟨x5, -⟩ := HG5.out.c 5 _ rfl; obtain ⟨x6, -⟩ := HG5.out.c 6 _ rfl; obtain ⟨x7, -⟩ := HG5.out.c 7 _ rfl; obtain ⟨x8, -⟩ := HG5.out.c 8 _ rfl; obtain ⟨x9, -⟩ := HG5.out.c 9 _ rfl; obtain ⟨x10, -⟩ := HG5.out.c 10 _ rfl; obtain ⟨x11, -⟩ := HG5.out.c 11 _ rfl; obtain ⟨x12, -⟩ := HG5.out.c 12 _ rfl; obtain ⟨z0, -⟩ := HH5.out.c 0 _ rfl; obtain ⟨z1, -⟩ := HH5.out.c 1 _ rfl; obtain ⟨z2, -⟩ := HH5.out.c 2 _ rfl; obtain ⟨z3, -⟩ := HH5.out.c 3 _ rfl; obtain ⟨z4, -⟩ := HH5.out.c 4 _ rfl; obtain ⟨z5, -⟩ := HH5.out.c 5 _ rfl; obtain ⟨z6, -⟩ := HH5.out.c 6 _ rfl; obtain ⟨z7, -⟩ := HH5.out.c 7 _ rfl; obtain ⟨z8, -⟩ := HH5.out.c 8 _ rfl; obtain ⟨z9, -⟩ := HH5.out.c 9 _ rfl; obtain ⟨z10, -⟩ := HH5.out.c 10 _ rfl; obtain ⟨z11, -⟩ := HH5.out.c 11 _ rfl; obtain ⟨z12, -⟩ := HH5.out.c 12 _ rfl
    go_wp2_with fail
    (with_reducible refine HSAME.out.mono ?_)
    rintro e w6 ⟨rfl, hb6⟩
    have HB6 := hid (HB5.out.trans (hb6.mono HB5.out.size))
    clear x0 x1 x2 x3 x4 x5 x6 x7 x8 x9 x10 x11 x12 z0 z1 z2 z3 z4 z5 z6 z7 z8 z9 z10 z11 z12
    clear hb6
    have epp : (er == er) = true := by simp
    go_wp2_with fail
    (with_reducible refine (lives_any _).mono ?_)
    rintro e w7 ⟨rfl, hb7⟩
    have HB7 := hid (HB6.out.trans (hb7.mono HB6.out.size))
    clear hb7
    go_wp2
    go_ret
    exact ⟨rfl, HB7.out⟩
  · obtain ⟨gx, er, hin, hdg, hgp, hgr⟩ := key l l.length rfl (by omega) hv
    have HIN := hid hin; have HDG := hid hdg; have HGP := hid hgp; have HR := hid hgr
    clear hin hdg hgp hgr key hv hm hz
    generalize l.length = n at *
    go_enter Tryz.func4, Tryz.ntmps4
    go_wp2_with fail
    (with_reducible refine HGP.out.mono ?_)
    rintro e w2 h2
    obtain ⟨u, rfl, hu2, hb2⟩ := h2.msg HIN.out
    obtain ⟨C1, e1, C2, e2, rfl, g2, g3, g4⟩ := id hu2
    clear g2 g3 g4 h2
    simp only [msgCs] at hu2 ⊢
    have HU2 := hid hu2; have HB2 := hid hb2
    clear hu2 hb2
    go_upto_region 4 with (fail)
    obtain ⟨W3, hW3⟩ : ∃ W, W = w2.alloc (.cells #[(.int .i64 gx.kind), (.int .i64 gx.src), (.int .i64 gx.dst), (.int .i64 gx.term), (.int .i64 gx.index), (.int .i64 gx.logTerm), (.int .i64 gx.commit), (.int .i64 gx.round), (.bool gx.reject), (.int .i64 gx.off), (.int .i64 gx.total), (.slice C1 gx.ents.length e1), (.slice C2 gx.data.length e2)] 25) := ⟨_, rfl⟩
    obtain ⟨p, hp⟩ : ∃ p, p = w2.heap.size := ⟨_, rfl⟩
    rw [← hW3, ← hp]
    have hb23 : Below w2.heap.size w2 W3 := by rw [hW3]; exact bl1 _ _
    have HG3 := hid (show BoxC W3 p [(.int .i64 gx.kind), (.int .i64 gx.src), (.int .i64 gx.dst), (.int .i64 gx.term), (.int .i64 gx.index), (.int .i64 gx.logTerm), (.int .i64 gx.commit), (.int .i64 gx.round), (.bool gx.reject), (.int .i64 gx.off), (.int .i64 gx.total), (.slice C1 gx.ents.length e1), (.slice C2 gx.data.length e2)] by rw [hW3, hp]; exact BoxC.new w2 _ _)
    have HU3 := hid (HU2.out.on hb23)
    have HB3 := hid (HB2.out.trans (hb23.mono HB2.out.size))
    have HZ3 := hid (show p + 1 = W3.heap.size by rw [hW3, hp]; simp)
    have HGR := hid (HR.out W3 HB3.out)
    clear hW3 hp hb23
    go_wp2_with fail
    (with_reducible refine HGR.out.mono ?_)
    rintro e w4 h4
    obtain ⟨u, rfl, hu4, hb4⟩ := h4.msg HIN.out
    obtain ⟨D1, f1, D2, f2, rfl, g2, g3, g4⟩ := id hu4
    clear g2 g3 g4 h4
    simp only [msgCs] at hu4 ⊢
    have HV4 := hid hu4; have HU4 := hid (HU3.out.on hb4); have HB4 := hid (HB3.out.trans (hb4.mono HB3.out.size))
    have HG4 := hid (HG3.out.below hb4 (by have := HZ3.out; omega))
    have HZ4 := hid (show p + 1 ≤ w4.heap.size by have := HZ3.out; have := hb4.size; omega)
    clear hu4 hb4
    go_upto_region 5 with (fail)
    obtain ⟨W5, hW5⟩ : ∃ W, W = w4.alloc (.cells #[(.int .i64 gx.kind), (.int .i64 gx.src), (.int .i64 gx.dst), (.int .i64 gx.term), (.int .i64 gx.index), (.int .i64 gx.logTerm), (.int .i64 gx.commit), (.int .i64 gx.round), (.bool gx.reject), (.int .i64 gx.off), (.int .i64 gx.total), (.slice D1 gx.ents.length f1), (.slice D2 gx.data.length f2)] 25) := ⟨_, rfl⟩
    obtain ⟨r, hr⟩ : ∃ r, r = w4.heap.size := ⟨_, rfl⟩
    rw [← hW5, ← hr]
    have hb45 : Below w4.heap.size w4 W5 := by rw [hW5]; exact bl1 _ _
    have HH5 := hid (show BoxC W5 r [(.int .i64 gx.kind), (.int .i64 gx.src), (.int .i64 gx.dst), (.int .i64 gx.term), (.int .i64 gx.index), (.int .i64 gx.logTerm), (.int .i64 gx.commit), (.int .i64 gx.round), (.bool gx.reject), (.int .i64 gx.off), (.int .i64 gx.total), (.slice D1 gx.ents.length f1), (.slice D2 gx.data.length f2)] by rw [hW5, hr]; exact BoxC.new w4 _ _)
    have HG5 := hid (HG4.out.below hb45 HZ4.out)
    have HB5 := hid (HB4.out.trans (hb45.mono HB4.out.size))
    have HSAME := hid (sameM_eq _ _ gx W5 (HU4.out.on hb45) (HV4.out.on hb45) (Nat.le_trans HDG.out (by omega)))
    clear hW5 hr hb45
    obtain ⟨x0, -⟩ := HG5.out.c 0 _ rfl; obtain ⟨x1, -⟩ := HG5.out.c 1 _ rfl; obtain ⟨x2, -⟩ := HG5.out.c 2 _ rfl; obtain ⟨x3, -⟩ := HG5.out.c 3 _ rfl; obtain ⟨x4, -⟩ := HG5.out.c 4 _ rfl; obtain ⟨x5, -⟩ := HG5.out.c 5 _ rfl; obtain ⟨x6, -⟩ := HG5.out.c 6 _ rfl; obtain ⟨x7, -⟩ := HG5.out.c 7 _ rfl; obtain ⟨x8, -⟩ := HG5.out.c 8 _ rfl; obtain ⟨x9, -⟩ := HG5.out.c 9 _ rfl; obtain ⟨x10, -⟩ := HG5.out.c 10 _ rfl; obtain ⟨x11, -⟩ := HG5.out.c 11 _ rfl; obtain ⟨x12, -⟩ := HG5.out.c 12 _ rfl; obtain ⟨z0, -⟩ := HH5.out.c 0 _ rfl; obtain ⟨z1, -⟩ := HH5.out.c 1 _ rfl; obtain ⟨z2, -⟩ := HH5.out.c 2 _ rfl; obtain ⟨z3, -⟩ := HH5.out.c 3 _ rfl; obtain ⟨z4, -⟩ := HH5.out.c 4 _ rfl; obtain ⟨z5, -⟩ := HH5.out.c 5 _ rfl; obtain ⟨z6, -⟩ := HH5.out.c 6 _ rfl; obtain ⟨z7, -⟩ := HH5.out.c 7 _ rfl; obtain ⟨z8, -⟩ := HH5.out.c 8 _ rfl; obtain ⟨z9, -⟩ := HH5.out.c 9 _ rfl; obtain ⟨z10, -⟩ := HH5.out.c 10 _ rfl; obtain ⟨z11, -⟩ := HH5.out.c 11 _ rfl; obtain ⟨z12, -⟩ := HH5.out.c 12 _ rfl
    go_wp2_with fail
    (with_reducible refine HSAME.out.mono ?_)
    rintro e w6 ⟨rfl, hb6⟩
    have HB6 := hid (HB5.out.trans (hb6.mono HB5.out.size))
    clear x0 x1 x2 x3 x4 x5 x6 x7 x8 x9 x10 x11 x12 z0 z1 z2 z3 z4 z5 z6 z7 z8 z9 z10 z11 z12
    clear hb6
    have epp : (er == er) = true := by simp
    go_wp2_with fail
    (with_reducible refine (lives_any _).mono ?_)
    rintro e w7 ⟨rfl, hb7⟩
    have HB7 := hid (HB6.out.trans (hb7.mono HB6.out.size))
    clear hb7
    go_wp2
    go_ret
    exact ⟨rfl, HB7.out⟩
end Go.Proofs.YtkgifbnkkmeoiaaGreatDoor
/- The statement LinksGets: from the walk of the law's function (it returns true, and nothing that was there has turned) to the given row, and its card. No condition. -/
namespace Go.Proofs.YtkgifbnkkmeoiaaGreatDoor.linksGets
open Go.ChangeShapes Go.WideShapes Go.ChangeAt Go.RowKit Go.WideMaps Go.WideElems Go.Joins
open Go.ChangeMaps (open_string shut_string)
set_option linter.unusedVariables false

set_option maxRecDepth 100000 in
theorem contract (H : Type) (enc : TypeId × Value → H) (W : World) (base : Nat) (args : Array Value) (ds gs : List (DataW H)) (before : List MemPlace)
    (hval0 : ∀ (j : Nat) t v, Tryz.f4.params[j]? = some t → args[j]? = some v → Value.okWide Tryz.prog W .any base t v)
    (hW : DataW.Whole enc Tryz.prog Tryz.f4.params.toList Rows.linksGetsSpec.vars false W args.toList ds gs before)
    (hsz : (DataW.weightsEach Tryz.prog (Tryz.f4.params.toList ++ (OpenSpec.ofChange Rows.linksGetsSpec).bare.plain.varTypes Tryz.prog) (ds ++ gs)).all (· ≤ reachBytes) = true) (hSh : W.ShapedOpen Tryz.prog) :
    Calls Tryz.prog 4 args W fun e W' => ∃ v, e = .returned v ∧ Rows.linksGetsSpec.post enc Tryz.prog Tryz.f4 false true false false W args v W' := by
  have hW' := hW
  have hval : ∀ (j : Nat) t v, Tryz.f4.params[j]? = some t → args[j]? = some v → Value.okWide Tryz.prog W .any base t v := hval0
  obtain ⟨p, q, hA0, hV, rfl, hfz, hnd⟩ := hW
  have hA : DataW.TrodAll enc Tryz.prog W 0 (fun _ => true) true Tryz.f4.params.toList args.toList ds p := hA0
  rw [Tryz.params4] at hA hval
  obtain ⟨v0, vs0, d0, ds0, p0, q0, hargs, rfl, rfl, h0, r0⟩ := trodAll_cons hA
  obtain ⟨rfl, rfl, rfl⟩ := trodAll_nil r0
  obtain rfl : args = #[v0] := by cases args; simp_all
  obtain ⟨rfl, rfl⟩ := trodVars_none hV
  obtain ⟨l0, s0, z0⟩ := open_bytes_sl Tryz.underlying23 Tryz.underlying5 (by kernel_rfl) (hval 0 23 v0 rfl rfl) h0
  clear hval0
  refine (walk_LinksGets W (maxL_of hSh) v0 l0 s0 z0).mono fun e W' ⟨he, hb⟩ => ?_
  subst he
  exact ⟨_, rfl, post_of_below hW' (fun _ _ _ => (trodAll_cons_mk (shut_bool Tryz.underlying4 _) trodAll_mk0)) (fun sp hs => trodAll_stays laidOut hb (by kernel_rfl) hA0 (fun x hx => hW'.lt x (List.mem_append_left _ hx)) (fun x hx => hs x (List.mem_append_left _ hx)))
    (fun _ _ => rfl) rfl hb (ok_one (by kernel_rfl) rfl (okWide_bool_mk Tryz.underlying4 _))⟩

theorem laid_met (os : Os) : laidMet Tryz.prog Rows.linksGetsRow.laid ((laidWorld os).forCall (fun _ _ => 0) ⟨#[], #[.slice none 0 0], []⟩).memory :=
  laidMet_of_run' 8 (by kernel_rfl) (by kernel_rfl)
theorem reads (os : Os) {H : Type} (enc : TypeId × Value → H) : DataW.whole enc Tryz.prog ((laidWorld os).forCall (fun _ _ => 0) ⟨#[], #[.slice none 0 0], []⟩).memory Tryz.f4.params.toList Rows.linksGetsSpec.vars false (#[.slice none 0 0] : Array Value).toList 8 = some ([.nil], [], []) := by
  kernel_rfl
set_option maxRecDepth 100000 in
theorem lifted (os : Os) (started : os.Started) (H : Type) (enc : TypeId × Value → H) (F : Stop.Interp) :
    ReturnsInHanded {} Tryz.checked os 4 .any ((OpenSpec.ofChange Rows.linksGetsSpec).preRow enc Tryz.prog Tryz.f4 Rows.linksGetsRow.domain false Rows.linksGetsRow.laid) (((OpenSpec.ofChange Rows.linksGetsSpec).at F).post enc Tryz.prog Tryz.f4 false true false false) := by
  refine returnsInHanded_of_row (C := Tryz.checked) (s := OpenSpec.ofChange Rows.linksGetsSpec) own started (by kernel_rfl) Tryz.func4
    (witness_row_at (enc := enc) (C := Tryz.checked) false (laidWorld os) #[.slice none 0 0] rfl (by kernel_rfl) (by kernel_rfl) (by kernel_rfl)
      (OpenSpec.preRow_of_cond 8 (reads os enc) (by kernel_rfl) (fun k hk => by cases hk) (by kernel_rfl) (laid_met os))) ?_
  intro W base args ds gs before hval hW _ _ hsz _ hSh _
  exact contract H enc W base args ds gs before hval hW hsz hSh

theorem over : Rows.LinksGetsSaid :=
  OpenClaim.holds_of_cond 4 Tryz.f4 rfl rfl rfl rfl rfl rfl rfl ⟨rfl, rfl, rfl, rfl, rfl⟩ rfl rfl rfl rfl rfl (by kernel_rfl) Tryz.func4 (by kernel_rfl)
    (of_decide_eq_true (by kernel_rfl)) (by unfold Func.isWrapper; first | (rw [if_pos (by decide +kernel)]; kernel_rfl) | (rw [if_neg (by decide +kernel)]; exact ⟨rfl, rfl⟩))
    (fun os started H enc _ F => by rw [OpenClaim.pre_eq_preRow]; exact lifted os started H enc F)

theorem plain (f : FuncId) (fn : Func) (hf : Tryz.pinned.checked.prog.funcNamed Rows.linksGetsRow.func = some f) (hfn : Tryz.pinned.checked.prog.funcs[f]? = some fn) :
    false = Tryz.pinned.checked.prog.looks [] ∧ ∀ (j : Nat) t, fn.params[j]? = some t → Tryz.pinned.checked.prog.wantsStandIn t = false := by
  obtain rfl : f = 4 := Option.some.inj ((show Tryz.prog.funcNamed Rows.linksGetsRow.func = some 4 by kernel_rfl).symm.trans hf) |>.symm
  obtain rfl : fn = Tryz.f4 := (Option.some.inj (Tryz.func4.symm.trans hfn)).symm
  refine ⟨by kernel_rfl, fun j t ht => ?_⟩
  rw [Tryz.params4] at ht
  have hmem := Array.mem_of_getElem? ht
  simp only [List.mem_toArray, List.mem_cons, List.not_mem_nil, or_false] at hmem
  rcases hmem with rfl <;> exact (show Tryz.prog.wantsStandIn _ = false by kernel_rfl)

theorem proved : Rows.LinksGetsCardSaid :=
  Claim7.holds_tied_plain_at .later [] _ _ _ _ over (fun _ h => by cases h) (by kernel_rfl) (fun _ h => by cases h) linksGets_row_tie rfl ⟨rfl, rfl⟩ (by kernel_rfl) rfl plain (by kernel_rfl)
#print axioms proved
end Go.Proofs.YtkgifbnkkmeoiaaGreatDoor.linksGets
