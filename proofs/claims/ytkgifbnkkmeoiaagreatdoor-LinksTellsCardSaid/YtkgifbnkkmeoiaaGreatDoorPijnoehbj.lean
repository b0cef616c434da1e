/- 2 texts of this claim, in build order. -/
import Derived.Test.YtkgifbnkkmeoiaaGreatDoorPahladoga
import Derived.Test.YtkgifbnkkmeoiaaGreatDoorPkgjcpaoe
import Derived.Test.YtkgifbnkkmeoiaaGreatDoorPdfnkmimf
import Derived.Test.YtkgifbnkkmeoiaaGreatDoorPgpomknba
import Derived.Test.YtkgifbnkkmeoiaaGreatDoorPnofllmen
import Derived.Test.YtkgifbnkkmeoiaaGreatDoorPgbmcnndb
import Derived.Test.YtkgifbnkkmeoiaaGreatDoorPmadegoli
import Derived.Test.YtkgifbnkkmeoiaaGreatDoorPodkhkmbg
/- The walk of LinksTells. (printed by wip/lnkw.py) -/
namespace Go.Proofs.YtkgifbnkkmeoiaaGreatDoor
open Go.ChangeShapes Go.WideShapes Go.ChangeAt Go.RowKit
set_option linter.unusedVariables false
set_option linter.unusedSimpArgs false

set_option maxRecDepth 100000 in
set_option maxHeartbeats 3200000 in
theorem walk_LinksTells (w : World) (hm : MaxL w) (cs : Array Value) (m : MsgX) (hz : cs.size = 13) (hr : rdMsg w w.heap.size cs.toList m) (from' : Int) (hfr : -9223372036854775808 ≤ from' ∧ from' ≤ 9223372036854775807) (bits : Int) (hbt : 0 ≤ bits ∧ bits ≤ 4294967295) : Calls Tryz.prog 5 #[.agg cs, .int .i64 from', .int .u32 bits] w (Gives (.bool true) w) := by
  obtain ⟨bb, rfl⟩ := Int.eq_ofNat_of_zero_le hbt.1
  have hbb : bb < 4294967296 := by omega
  have HBB := hid hbb; have HFR := hid hfr
  clear hbt hbb hfr
  have hv := MsgV.of_rd hr
  clear hr hz
  obtain ⟨A1, c1, A2, c2, e, h2, h3, h4⟩ := hv
  rw [Value.agg.injEq] at e
  subst e
  have hv : MsgV w w.heap.size (.agg (msgCs m (.slice A1 m.ents.length c1) (.slice A2 m.data.length c2)).toArray) m := ⟨A1, c1, A2, c2, rfl, h2, h3, h4⟩
  clear h2 h3 h4
  simp only [msgCs] at hv ⊢
  obtain ⟨W1, hW1⟩ : ∃ W, W = w.alloc (.cells #[(.int .i64 m.kind), (.int .i64 m.src), (.int .i64 m.dst), (.int .i64 m.term), (.int .i64 m.index), (.int .i64 m.logTerm), (.int .i64 m.commit), (.int .i64 m.round), (.bool m.reject), (.int .i64 m.off), (.int .i64 m.total), (.slice A1 m.ents.length c1), (.slice A2 m.data.length c2)] 25) := ⟨_, rfl⟩
  obtain ⟨q, hq⟩ : ∃ q, q = w.heap.size := ⟨_, rfl⟩
  rw [← hq] at hv
  have hb1 : Below q w W1 := by rw [hW1, hq]; exact bl1 _ _
  have F1 : BoxC W1 q [(.int .i64 m.kind), (.int .i64 m.src), (.int .i64 m.dst), (.int .i64 m.term), (.int .i64 m.index), (.int .i64 m.logTerm), (.int .i64 m.commit), (.int .i64 m.round), (.bool m.reject), (.int .i64 m.off), (.int .i64 m.total), (.slice A1 m.ents.length c1), (.slice A2 m.data.length c2)] := by rw [hW1, hq]; exact BoxC.new w _ _
  have hz1 : W1.heap.size = q + 1 := by rw [hW1, hq]; simp
  have hfew := fewM_any _ m W1 q (by omega) (hv.below hb1)
  unfold FewMP at hfew
  have HML := hid (show 0 < q by rw [hq]; exact hm.lt)
  have HM := hid hm
  have hdf := fewM_data m
  have HF1 := hid F1; have HB1 := hid hb1; have HW1 := hid hW1; have HQ := hid hq; have HZ1 := hid hz1
  clear hv hm F1 hb1 hW1 hq hz1
  generalize fewM m = fm at *
  have HDF := hid hdf; have HFEW := hid hfew
  clear hdf hfew
  go_enter Tryz.func5, Tryz.ntmps5
  go_upto_region 1 with (fail)
  rw [← HW1.out, ← HQ.out]
  obtain ⟨x0, y0⟩ := HF1.out.c 0 _ rfl; obtain ⟨x1, y1⟩ := HF1.out.c 1 _ rfl; obtain ⟨x2, y2⟩ := HF1.out.c 2 _ rfl; obtain ⟨x3, y3⟩ := HF1.out.c 3 _ rfl; obtain ⟨x4, y4⟩ := HF1.out.c 4 _ rfl; obtain ⟨x5, y5⟩ := HF1.out.c 5 _ rfl; obtain ⟨x6, y6⟩ := HF1.out.c 6 _ rfl; obtain ⟨x7, y7⟩ := HF1.out.c 7 _ rfl; obtain ⟨x8, y8⟩ := HF1.out.c 8 _ rfl; obtain ⟨x9, y9⟩ := HF1.out.c 9 _ rfl; obtain ⟨x10, y10⟩ := HF1.out.c 10 _ rfl; obtain ⟨x11, y11⟩ := HF1.out.c 11 _ rfl; obtain ⟨x12, y12⟩ := HF1.out.c 12 _ rfl
  go_wp2_with fail
  (with_reducible refine HFEW.out.mono ?_)
  rintro e w2 ⟨u, rfl, hu, hb2⟩
  obtain ⟨B1, d1, B2, d2, rfl, g2, g3, g4⟩ := id hu
  clear g2 g3 g4
  simp only [msgCs] at hu ⊢
  clear x0 x1 x2 x3 x4 x5 x6 x7 x8 x9 x10 x11 x12 y0 y1 y2 y3 y4 y5 y6 y7 y8 y9 y10 y11 y12
  have F2 := HF1.out.below hb2 (by have := HZ1.out; omega)
  have hz2 := hb2.size
  have HF2 := hid F2; have HU := hid hu; have HB2 := hid (HB1.out.trans (hb2.mono (by have := HZ1.out; omega)))
  have HZ2 := hid (show q + 1 ≤ w2.heap.size by have := HZ1.out; omega)
  clear F2 hu hb2 hz2
  obtain ⟨x0, y0⟩ := HF2.out.c 0 _ rfl; obtain ⟨x1, y1⟩ := HF2.out.c 1 _ rfl; obtain ⟨x2, y2⟩ := HF2.out.c 2 _ rfl; obtain ⟨x3, y3⟩ := HF2.out.c 3 _ rfl; obtain ⟨x4, y4⟩ := HF2.out.c 4 _ rfl; obtain ⟨x5, y5⟩ := HF2.out.c 5 _ rfl; obtain ⟨x6, y6⟩ := HF2.out.c 6 _ rfl; obtain ⟨x7, y7⟩ := HF2.out.c 7 _ rfl; obtain ⟨x8, y8⟩ := HF2.out.c 8 _ rfl; obtain ⟨x9, y9⟩ := HF2.out.c 9 _ rfl; obtain ⟨x10, y10⟩ := HF2.out.c 10 _ rfl; obtain ⟨x11, y11⟩ := HF2.out.c 11 _ rfl; obtain ⟨x12, y12⟩ := HF2.out.c 12 _ rfl
  go_upto_region 2 with (fail)
  obtain ⟨W3, hW3⟩ : ∃ W, W = (((((((((((((w2.setCell ⟨q, 0, none⟩ (.int .i64 fm.kind)).setCell ⟨q, 1, none⟩ (.int .i64 fm.src)).setCell ⟨q, 2, none⟩ (.int .i64 fm.dst)).setCell ⟨q, 3, none⟩ (.int .i64 fm.term)).setCell ⟨q, 4, none⟩ (.int .i64 fm.index)).setCell ⟨q, 5, none⟩ (.int .i64 fm.logTerm)).setCell ⟨q, 6, none⟩ (.int .i64 fm.commit)).setCell ⟨q, 7, none⟩ (.int .i64 fm.round)).setCell ⟨q, 8, none⟩ (.bool fm.reject)).setCell ⟨q, 9, none⟩ (.int .i64 fm.off)).setCell ⟨q, 10, none⟩ (.int .i64 fm.total)).setCell ⟨q, 11, none⟩ (.slice B1 fm.ents.length d1)).setCell ⟨q, 12, none⟩ (.slice B2 fm.data.length d2)) := ⟨_, rfl⟩
  rw [← hW3]
  have HF3 := hid (show BoxC W3 q [(.int .i64 fm.kind), (.int .i64 fm.src), (.int .i64 fm.dst), (.int .i64 fm.term), (.int .i64 fm.index), (.int .i64 fm.logTerm), (.int .i64 fm.commit), (.int .i64 fm.round), (.bool fm.reject), (.int .i64 fm.off), (.int .i64 fm.total), (.slice B1 fm.ents.length d1), (.slice B2 fm.data.length d2)] by rw [hW3]; exact (((((((((((((HF2.out.set 0 (by simp) _).set 1 (by simp) _).set 2 (by simp) _).set 3 (by simp) _).set 4 (by simp) _).set 5 (by simp) _).set 6 (by simp) _).set 7 (by simp) _).set 8 (by simp) _).set 9 (by simp) _).set 10 (by simp) _).set 11 (by simp) _).set 12 (by simp) _))
  have hb23 : Below q w2 W3 := by rw [hW3]; exact ((((((((((((((Below.refl q w2).setCell (show q ≤ q by omega) _).setCell (show q ≤ q by omega) _).setCell (show q ≤ q by omega) _).setCell (show q ≤ q by omega) _).setCell (show q ≤ q by omega) _).setCell (show q ≤ q by omega) _).setCell (show q ≤ q by omega) _).setCell (show q ≤ q by omega) _).setCell (show q ≤ q by omega) _).setCell (show q ≤ q by omega) _).setCell (show q ≤ q by omega) _).setCell (show q ≤ q by omega) _).setCell (show q ≤ q by omega) _)
  have HB3 := hid (HB2.out.trans hb23)
  have HU3 := hid (HU.out.below hb23)
  have HZ3 := hid (show q + 1 ≤ W3.heap.size by have h1 := hb23.size; have h2 := HZ2.out; omega)
  clear hW3 hb23
  clear x0 x1 x2 x3 x4 x5 x6 x7 x8 x9 x10 x11 x12 y0 y1 y2 y3 y4 y5 y6 y7 y8 y9 y10 y11 y12
  obtain ⟨l, er, hpm, hll, hways⟩ : ∃ l er, putMsg fm = (l, er) ∧ l.length ≤ 12009 ∧ ((er = 0 ∧ getMP l = (fm, 0) ∧ MayM fm ∧ l = msgB fm ∧ 9 ≤ l.length) ∨ er = 1) := by
    rcases putMsg_ways fm with ⟨h0, h1, h2, h3, h4⟩ | ⟨-, h1⟩
    · exact ⟨_, _, h1, h3, .inl ⟨rfl, h2, h0, rfl, h4⟩⟩
    · exact ⟨_, _, h1, Nat.zero_le _, .inr rfl⟩
  have hput := putMsg_any _ fm W3 (HU3.out.more (Nat.le_of_succ_le HZ3.out))
  rw [hpm] at hput
  have HPUT := hid hput
  have HPM := hid hpm; have HLL := hid hll; have HWAYS := hid hways
  clear hput hpm hll hways
  obtain ⟨x0, -⟩ := HF3.out.c 0 _ rfl; obtain ⟨x1, -⟩ := HF3.out.c 1 _ rfl; obtain ⟨x2, -⟩ := HF3.out.c 2 _ rfl; obtain ⟨x3, -⟩ := HF3.out.c 3 _ rfl; obtain ⟨x4, -⟩ := HF3.out.c 4 _ rfl; obtain ⟨x5, -⟩ := HF3.out.c 5 _ rfl; obtain ⟨x6, -⟩ := HF3.out.c 6 _ rfl; obtain ⟨x7, -⟩ := HF3.out.c 7 _ rfl; obtain ⟨x8, -⟩ := HF3.out.c 8 _ rfl; obtain ⟨x9, -⟩ := HF3.out.c 9 _ rfl; obtain ⟨x10, -⟩ := HF3.out.c 10 _ rfl; obtain ⟨x11, -⟩ := HF3.out.c 11 _ rfl; obtain ⟨x12, -⟩ := HF3.out.c 12 _ rfl
  go_wp2_with fail
  (with_reducible refine HPUT.out.mono ?_)
  rintro e w4 ⟨va, rfl, ho4, hb4⟩
  obtain ⟨Aa, ca, rfl⟩ := ho4.form
  simp only at ho4 ⊢
  clear x0 x1 x2 x3 x4 x5 x6 x7 x8 x9 x10 x11 x12
  have HF4 := hid (HF3.out.below hb4 HZ3.out)
  have HO4 := hid ho4
  have HB4 := hid (HB3.out.trans (hb4.mono (Nat.le_of_succ_le HZ3.out)))
  have HU4 := hid (HU3.out.below (hb4.mono (Nat.le_of_succ_le HZ3.out)))
  have HZ4 := hid (Nat.le_trans HZ3.out hb4.size)
  clear ho4 hb4
  rcases HWAYS.out with ⟨rfl, hget, hmay, hlm, h9⟩ | rfl
  · have HGET := hid hget; have HMAY := hid hmay; have HLM := hid hlm
    clear hget hmay hlm
    obtain ⟨n, hn⟩ : ∃ n, n = l.length := ⟨_, rfl⟩
    rw [← hn] at h9 HO4 ⊢
    have hn2 : n ≤ 12009 := by rw [hn]; exact HLL.out
    have hp0 := pickN_in from' (8 * (n : Int) - 32) (by omega)
    have HPK := hid (fun W => pick_any from' (8 * (n : Int) - 32) W ⟨HFR.out.1, HFR.out.2⟩ (by omega) (by omega))
    obtain ⟨p, hp⟩ := Int.eq_ofNat_of_zero_le hp0.1
    rw [hp] at hp0 HPK
    have hp1 := hp0.2
    have HTU := hid (fun (W : World) (hW : Below w4.heap.size w4 W) => by
      have h := refTurned_any (.slice Aa n ca) l (32 + p) bb W (by rw [hn]; have hs := HO4.out.sl; rw [hn] at hs; exact (hs.below hW).more hW.size) (by rw [← hn]; omega) (by omega) HBB.out
      rw [show ((32 + p : Nat) : Int) = 32 + (p : Int) by omega] at h
      exact h)
    have HNL := hid hn
    clear hp0 hp hn
    go_wp2_with fail
    (with_reducible refine (HPK.out _).mono ?_)
    rintro e w5 ⟨rfl, rfl⟩
    go_wp2_with fail
    (with_reducible refine (HTU.out _ (Below.refl _ _)).mono ?_)
    rintro e w6 ⟨At, ct, rfl, ho6, hb6⟩
    have hlt := CrcM.turn_len l (32 + p) bb 32
    have hsome := fun h => msg_told fm HMAY.out (32 + p) bb (by omega) h
    have hnone := CrcM.turn_none l (32 + p) bb 32
    rw [← HLM.out] at hsome
    have HB6 := hid (HB4.out.trans (hb6.mono (Nat.le_of_succ_le HZ4.out)))
    have HZ6 := hid (Nat.le_trans HZ4.out hb6.size)
    obtain ⟨tr, htr⟩ : ∃ tr, tr = CrcM.turn l (32 + p) bb 32 := ⟨_, rfl⟩
    rw [← htr] at hlt hsome hnone ho6 ⊢
    clear htr
    obtain ⟨tb, ts⟩ := tr
    simp only at hlt hsome hnone ho6 ⊢
    have hgm := getM_any (.slice At tb.length ct) tb w6 ho6.sl (by have := HLL.out; omega) (HM.out.below HB6.out HML.out)
    have hin := (getMP_in tb).1
    obtain ⟨gx, ge, hgp, hways⟩ : ∃ gx ge, getMP tb = (gx, ge) ∧ ((ts = false ∧ ge = 0) ∨ (ts = true ∧ gx = msg0 ∧ ge = 4)) := by
      cases ts
      · have e := hnone rfl
        subst e
        exact ⟨_, _, HGET.out, .inl ⟨rfl, rfl⟩⟩
      · exact ⟨_, _, hsome rfl, .inr ⟨rfl, rfl, rfl⟩⟩
    rw [hgp] at hgm hin
    have HGM := hid hgm; have HIN := hid hin; have HW2 := hid hways
    clear hgm hin hways hgp hlt hsome hnone ho6 hb6
    go_wp2_with fail
    (with_reducible refine HGM.out.mono ?_)
    rintro e w7 h7
    obtain ⟨u, rfl, hu7, hb7⟩ := h7.msg HIN.out
    obtain ⟨C1, e1, C2, e2, rfl, g2, g3, g4⟩ := id hu7
    clear g2 g3 g4 h7
    simp only [msgCs] at hu7 ⊢
    have HB7 := hid (HB6.out.trans (hb7.mono (Nat.le_of_succ_le HZ6.out)))
    have HZ7 := hid (Nat.le_trans HZ6.out hb7.size)
    have HV7 := hid hu7
    clear hu7 hb7
    go_upto_region 7 with (fail)
    obtain ⟨W8, hW8⟩ : ∃ W, W = w7.alloc (.cells #[(.int .i64 gx.kind), (.int .i64 gx.src), (.int .i64 gx.dst), (.int .i64 gx.term), (.int .i64 gx.index), (.int .i64 gx.logTerm), (.int .i64 gx.commit), (.int .i64 gx.round), (.bool gx.reject), (.int .i64 gx.off), (.int .i64 gx.total), (.slice C1 gx.ents.length e1), (.slice C2 gx.data.length e2)] 25) := ⟨_, rfl⟩
    obtain ⟨r, hr⟩ : ∃ r, r = w7.heap.size := ⟨_, rfl⟩
    rw [← hW8, ← hr]
    have hb78 : Below w7.heap.size w7 W8 := by rw [hW8]; exact bl1 _ _
    have HG8 := hid (show BoxC W8 r [(.int .i64 gx.kind), (.int .i64 gx.src), (.int .i64 gx.dst), (.int .i64 gx.term), (.int .i64 gx.index), (.int .i64 gx.logTerm), (.int .i64 gx.commit), (.int .i64 gx.round), (.bool gx.reject), (.int .i64 gx.off), (.int .i64 gx.total), (.slice C1 gx.ents.length e1), (.slice C2 gx.data.length e2)] by rw [hW8, hr]; exact BoxC.new w7 _ _)
    have HB8 := hid (HB7.out.trans (hb78.mono (Nat.le_of_succ_le HZ7.out)))
    have HV8 := hid (HV7.out.on hb78)
    have HZ8 := hid (Nat.le_trans HZ7.out hb78.size)
    clear hW8 hr hb78
    rcases HW2.out with ⟨rfl, rfl⟩ | ⟨rfl, rfl, rfl⟩
    · go_wp2_with fail
      (with_reducible refine (lives_any _).mono ?_)
      rintro e wl ⟨rfl, hbl⟩
      have HBL := hid (HB8.out.trans (hbl.mono (Nat.le_of_succ_le HZ8.out)))
      clear hbl
      go_wp2
      go_ret
      exact ⟨rfl, by rw [← HQ.out]; exact HBL.out⟩
    · have HSAME := hid (sameM_eq _ _ msg0 W8 HV8.out (msg0_v _ _) (by simp [msg0]))
      obtain ⟨z0, -⟩ := HG8.out.c 0 _ rfl; obtain ⟨z1, -⟩ := HG8.out.c 1 _ rfl; obtain ⟨z2, -⟩ := HG8.out.c 2 _ rfl; obtain ⟨z3, -⟩ := HG8.out.c 3 _ rfl; obtain ⟨z4, -⟩ := HG8.out.c 4 _ rfl; obtain ⟨z5, -⟩ := HG8.out.c 5 _ rfl; obtain ⟨z6, -⟩ := HG8.out.c 6 _ rfl; obtain ⟨z7, -⟩ := HG8.out.c 7 _ rfl; obtain ⟨z8, -⟩ := HG8.out.c 8 _ rfl; obtain ⟨z9, -⟩ := HG8.out.c 9 _ rfl; obtain ⟨z10, -⟩ := HG8.out.c 10 _ rfl; obtain ⟨z11, -⟩ := HG8.out.c 11 _ rfl; obtain ⟨z12, -⟩ := HG8.out.c 12 _ rfl
      go_wp2_with fail
      (with_reducible refine HSAME.out.mono ?_)
      rintro e w9 ⟨rfl, hb9⟩
      have HB9 := hid (HB8.out.trans (hb9.mono (Nat.le_of_succ_le HZ8.out)))
      have HZ9 := hid (Nat.le_trans HZ8.out hb9.size)
      clear z0 z1 z2 z3 z4 z5 z6 z7 z8 z9 z10 z11 z12
      clear hb9
      go_wp2_with fail
      (with_reducible refine (lives_any _).mono ?_)
      rintro e wl ⟨rfl, hbl⟩
      have HBL := hid (HB9.out.trans (hbl.mono (Nat.le_of_succ_le HZ9.out)))
      clear hbl
      go_wp2
      go_ret
      exact ⟨rfl, by rw [← HQ.out]; exact HBL.out⟩
  · go_wp2_with fail
    (with_reducible refine (lives_any _).mono ?_)
    rintro e wl ⟨rfl, hbl⟩
    have HBL := hid (HB4.out.trans (hbl.mono (Nat.le_of_succ_le HZ4.out)))
    clear hbl
    go_wp2
    go_ret
    exact ⟨rfl, by rw [← HQ.out]; exact HBL.out⟩
end Go.Proofs.YtkgifbnkkmeoiaaGreatDoor
/- The statement LinksTells: from the walk of the law's function (it returns true, and nothing that was there has turned) to the given row, and its card. No condition. -/
namespace Go.Proofs.YtkgifbnkkmeoiaaGreatDoor.linksTells
open Go.ChangeShapes Go.WideShapes Go.ChangeAt Go.RowKit Go.WideMaps Go.WideElems Go.Joins
open Go.ChangeMaps (open_string shut_string)
set_option linter.unusedVariables false

set_option maxRecDepth 100000 in
theorem contract (H : Type) (enc : TypeId × Value → H) (W : World) (base : Nat) (args : Array Value) (ds gs : List (DataW H)) (before : List MemPlace)
    (hval0 : ∀ (j : Nat) t v, Tryz.f5.params[j]? = some t → args[j]? = some v → Value.okWide Tryz.prog W .any base t v)
    (hW : DataW.Whole enc Tryz.prog Tryz.f5.params.toList Rows.linksTellsSpec.vars false W args.toList ds gs before)
    (hsz : (DataW.weightsEach Tryz.prog (Tryz.f5.params.toList ++ (OpenSpec.ofChange Rows.linksTellsSpec).bare.plain.varTypes Tryz.prog) (ds ++ gs)).all (· ≤ reachBytes) = true) (hSh : W.ShapedOpen Tryz.prog) :
    Calls Tryz.prog 5 args W fun e W' => ∃ v, e = .returned v ∧ Rows.linksTellsSpec.post enc Tryz.prog Tryz.f5 false true false false W args v W' := by
  have hW' := hW
  have hval : ∀ (j : Nat) t v, Tryz.f5.params[j]? = some t → args[j]? = some v → Value.okWide Tryz.prog W .any base t v := hval0
  obtain ⟨p, q, hA0, hV, rfl, hfz, hnd⟩ := hW
  have hA : DataW.TrodAll enc Tryz.prog W 0 (fun _ => true) true Tryz.f5.params.toList args.toList ds p := hA0
  rw [Tryz.params5] at hA hval
  obtain ⟨v0, vs0, d0, ds0, p0, q0, hargs, rfl, rfl, h0, r0⟩ := trodAll_cons hA
  obtain ⟨v1, vs1, d1, ds1, p1, q1, rfl, rfl, rfl, h1, r1⟩ := trodAll_cons r0
  obtain ⟨v2, vs2, d2, ds2, p2, q2, rfl, rfl, rfl, h2, r2⟩ := trodAll_cons r1
  obtain ⟨rfl, rfl, rfl⟩ := trodAll_nil r2
  obtain rfl : args = #[v0, v1, v2] := by cases args; simp_all
  obtain ⟨rfl, rfl⟩ := trodVars_none hV
  obtain ⟨c0, x0, rfl, z0, s0⟩ := open_read_struct Tryz.underlying25 opens_msg (hval 0 25 v0 rfl rfl) h0
  obtain ⟨a1, rfl, rfl, rfl, w1⟩ := open_int Tryz.underlying3 (hval 1 3 v1 rfl rfl) h1
  have b1 := bounds_i64 w1
  obtain ⟨a2, rfl, rfl, rfl, w2⟩ := open_int Tryz.underlying37 (hval 2 37 v2 rfl rfl) h2
  have b2 := bounds_u32 w2
  clear hval0
  refine (walk_LinksTells W (maxL_of hSh) c0 x0 z0 s0 a1 b1 a2 b2).mono fun e W' ⟨he, hb⟩ => ?_
  subst he
  exact ⟨_, rfl, post_of_below hW' (fun _ _ _ => (trodAll_cons_mk (shut_bool Tryz.underlying4 _) trodAll_mk0)) (fun sp hs => trodAll_stays laidOut hb (by kernel_rfl) hA0 (fun x hx => hW'.lt x (List.mem_append_left _ hx)) (fun x hx => hs x (List.mem_append_left _ hx)))
    (fun _ _ => rfl) rfl hb (ok_one (by kernel_rfl) rfl (okWide_bool_mk Tryz.underlying4 _))⟩

theorem laid_met (os : Os) : laidMet Tryz.prog Rows.linksTellsRow.laid ((laidWorld os).forCall (fun _ _ => 0) ⟨#[], #[.agg #[.int .i64 0, .int .i64 0, .int .i64 0, .int .i64 0, .int .i64 0, .int .i64 0, .int .i64 0, .int .i64 0, .bool false, .int .i64 0, .int .i64 0, .slice none 0 0, .slice none 0 0], .int .i64 0, .int .u32 0], []⟩).memory :=
  laidMet_of_run' 8 (by kernel_rfl) (by kernel_rfl)
theorem reads (os : Os) {H : Type} (enc : TypeId × Value → H) : DataW.whole enc Tryz.prog ((laidWorld os).forCall (fun _ _ => 0) ⟨#[], #[.agg #[.int .i64 0, .int .i64 0, .int .i64 0, .int .i64 0, .int .i64 0, .int .i64 0, .int .i64 0, .int .i64 0, .bool false, .int .i64 0, .int .i64 0, .slice none 0 0, .slice none 0 0], .int .i64 0, .int .u32 0], []⟩).memory Tryz.f5.params.toList Rows.linksTellsSpec.vars false (#[.agg #[.int .i64 0, .int .i64 0, .int .i64 0, .int .i64 0, .int .i64 0, .int .i64 0, .int .i64 0, .int .i64 0, .bool false, .int .i64 0, .int .i64 0, .slice none 0 0, .slice none 0 0], .int .i64 0, .int .u32 0] : Array Value).toList 8 = some ([.agg [.lit (.int .i64 0), .lit (.int .i64 0), .lit (.int .i64 0), .lit (.int .i64 0), .lit (.int .i64 0), .lit (.int .i64 0), .lit (.int .i64 0), .lit (.int .i64 0), .lit (.bool false), .lit (.int .i64 0), .lit (.int .i64 0), .nil, .nil], .lit (.int .i64 0), .lit (.int .u32 0)], [], []) := by
  kernel_rfl
set_option maxRecDepth 100000 in
theorem lifted (os : Os) (started : os.Started) (H : Type) (enc : TypeId × Value → H) (F : Stop.Interp) :
    ReturnsInHanded {} Tryz.checked os 5 .any ((OpenSpec.ofChange Rows.linksTellsSpec).preRow enc Tryz.prog Tryz.f5 Rows.linksTellsRow.domain false Rows.linksTellsRow.laid) (((OpenSpec.ofChange Rows.linksTellsSpec).at F).post enc Tryz.prog Tryz.f5 false true false false) := by
  refine returnsInHanded_of_row (C := Tryz.checked) (s := OpenSpec.ofChange Rows.linksTellsSpec) own started (by kernel_rfl) Tryz.func5
    (witness_row_at (enc := enc) (C := Tryz.checked) false (laidWorld os) #[.agg #[.int .i64 0, .int .i64 0, .int .i64 0, .int .i64 0, .int .i64 0, .int .i64 0, .int .i64 0, .int .i64 0, .bool false, .int .i64 0, .int .i64 0, .slice none 0 0, .slice none 0 0], .int .i64 0, .int .u32 0] rfl (by kernel_rfl) (by kernel_rfl) (by kernel_rfl)
      (OpenSpec.preRow_of_cond 8 (reads os enc) (by kernel_rfl) (fun k hk => by cases hk) (by kernel_rfl) (laid_met os))) ?_
  intro W base args ds gs before hval hW _ _ hsz _ hSh _
  exact contract H enc W base args ds gs before hval hW hsz hSh

theorem over : Rows.LinksTellsSaid :=
  OpenClaim.holds_of_cond 5 Tryz.f5 rfl rfl rfl rfl rfl rfl rfl ⟨rfl, rfl, rfl, rfl, rfl⟩ rfl rfl rfl rfl rfl (by kernel_rfl) Tryz.func5 (by kernel_rfl)
    (of_decide_eq_true (by kernel_rfl)) (by unfold Func.isWrapper; first | (rw [if_pos (by decide +kernel)]; kernel_rfl) | (rw [if_neg (by decide +kernel)]; exact ⟨rfl, rfl⟩))
    (fun os started H enc _ F => by rw [OpenClaim.pre_eq_preRow]; exact lifted os started H enc F)

theorem plain (f : FuncId) (fn : Func) (hf : Tryz.pinned.checked.prog.funcNamed Rows.linksTellsRow.func = some f) (hfn : Tryz.pinned.checked.prog.funcs[f]? = some fn) :
    false = Tryz.pinned.checked.prog.looks [] ∧ ∀ (j : Nat) t, fn.params[j]? = some t → Tryz.pinned.checked.prog.wantsStandIn t = false := by
  obtain rfl : f = 5 := Option.some.inj ((show Tryz.prog.funcNamed Rows.linksTellsRow.func = some 5 by kernel_rfl).symm.trans hf) |>.symm
  obtain rfl : fn = Tryz.f5 := (Option.some.inj (Tryz.func5.symm.trans hfn)).symm
  refine ⟨by kernel_rfl, fun j t ht => ?_⟩
  rw [Tryz.params5] at ht
  have hmem := Array.mem_of_getElem? ht
  simp only [List.mem_toArray, List.mem_cons, List.not_mem_nil, or_false] at hmem
  rcases hmem with rfl | rfl | rfl <;> exact (show Tryz.prog.wantsStandIn _ = false by kernel_rfl)

theorem proved : Rows.LinksTellsCardSaid :=
  Claim7.holds_tied_plain_at .later [] _ _ _ _ over (fun _ h => by cases h) (by kernel_rfl) (fun _ h => by cases h) linksTells_row_tie rfl ⟨rfl, rfl⟩ (by kernel_rfl) rfl plain (by kernel_rfl)
#print axioms proved
end Go.Proofs.YtkgifbnkkmeoiaaGreatDoor.linksTells
