/- 1 text of this claim, in build order. -/
import Derived.Test.YtkgifbnkkmeoiaaGreatDoorPdjpiokmm
import Derived.Test.YtkgifbnkkmeoiaaGreatDoorPkmhifhkj
import Derived.Test.YtkgifbnkkmeoiaaGreatDoorPandgahlb
import Derived.Test.YtkgifbnkkmeoiaaGreatDoorPkjibchnm
import Derived.Test.YtkgifbnkkmeoiaaGreatDoorPokfbflon
/- tesseractref22.Get: what the document takes of bytes. -/
namespace Go.Proofs.YtkgifbnkkmeoiaaGreatDoor
open Go.ChangeShapes Go.WideShapes Go.ChangeAt Go.RowKit
set_option linter.unusedVariables false
set_option linter.unusedSimpArgs false

theorem rw_mkM {w : World} {H n c : Nat} {A : Option Addr} {s : List UInt8} {t : TypeId} (h : Sl w H (.slice A n c) (bvals s)) (hH : H ≤ w.heap.size) (hl : s.length ≤ 140737488355328) :
    RW (w.alloc (.cells #[.slice A n c, .int .i64 0, .int .i64 0] t)) H w.heap.size s 0 0 := by
  refine ⟨hH, by omega, hl, fun i hi => by simp [go_sem], _, by simp [go_sem]; rfl, by simp [go_sem], by simp [go_sem], ?_⟩
  exact Sl.below h ((Below.refl H w).alloc hH _)
theorem getMR_ways (l : List UInt8) (K : Nat) (b : List UInt8) (n : Nat) (er : Int) (h : frameG l = ((K, b), n, er)) :
    ((er != 0) = true ∧ getMR l = (msg0, er)) ∨ ((er != 0) = false ∧ n < l.length ∧ getMR l = (msg0, 2)) ∨
    ((er != 0) = false ∧ ¬ n < l.length ∧ ((rEnd b (msgBody 0 1099511627776 K b).2.1 (msgBody 0 1099511627776 K b).2.2 ≠ 0 ∨ ¬ MayM (msgBody 0 1099511627776 K b).1) → getMR l = (msg0, 2)) ∧
      (rEnd b (msgBody 0 1099511627776 K b).2.1 (msgBody 0 1099511627776 K b).2.2 = 0 → MayM (msgBody 0 1099511627776 K b).1 → getMR l = ((msgBody 0 1099511627776 K b).1, 0))) := by
  unfold getMR
  rw [h]
  simp only
  by_cases h1 : er = 0
  · rw [if_neg (by simpa using h1)]
    have e1 : (er != 0) = false := by simp [h1]
    by_cases h2 : n < l.length
    · exact .inr (.inl ⟨e1, h2, if_pos h2⟩)
    · rw [if_neg h2]
      exact .inr (.inr ⟨e1, h2, fun h => if_pos h, fun h g => if_neg (fun k => k.elim (fun x => x h) (fun x => x g))⟩)
  · rw [if_pos h1]
    exact .inl ⟨by simpa using h1, rfl⟩
set_option maxRecDepth 100000 in
set_option maxHeartbeats 4000000 in
theorem getMR_any (v : Value) (l : List UInt8) (w : World) (hv : Sl w w.heap.size v (bvals l)) (hl : l.length ≤ 1000000) : Calls Tryz.prog 13 #[v] w (GetP (getMR l) w) := by
  obtain ⟨A, c, e, hc1, hc2, -⟩ := id hv
  rw [bvals_len] at e hc1
  subst e
  unfold maxLen at hc2
  obtain ⟨W0, hW0⟩ : ∃ W, W = w.alloc (.cells #[(.int .i64 0), (.int .i64 0), (.int .i64 0), (.int .i64 0), (.int .i64 0), (.int .i64 0), (.int .i64 0), (.int .i64 0), (.bool false), (.int .i64 0), (.int .i64 0), (.slice none 0 0), (.slice none 0 0)] 25) := ⟨_, rfl⟩
  obtain ⟨q, hq⟩ : ∃ q, q = w.heap.size := ⟨_, rfl⟩
  have hb0 : Below w.heap.size w W0 := by rw [hW0]; exact bl1 _ _
  have F0 : BoxC W0 q [(.int .i64 0), (.int .i64 0), (.int .i64 0), (.int .i64 0), (.int .i64 0), (.int .i64 0), (.int .i64 0), (.int .i64 0), (.bool false), (.int .i64 0), (.int .i64 0), (.slice none 0 0), (.slice none 0 0)] := by rw [hW0, hq]; exact BoxC.new _ _ _
  have HFG := hid (refFrameG_any (.slice A l.length c) l W0 ((hv.below hb0).more hb0.size) hl)
  obtain ⟨⟨⟨K, bd⟩, n, er⟩, hfg⟩ : ∃ r, r = frameG l := ⟨_, rfl⟩
  have hways := getMR_ways l K bd n er hfg.symm
  have hbd : bd.length ≤ 1000000 := by
    have : bd = (frameG l).1.2 := by rw [← hfg]
    rw [this]
    unfold frameG
    split
    · simp
    · split
      · simp
      · split
        · simp
        · split
          · show ((l.drop 5).take _).length ≤ _; rw [List.length_take, List.length_drop]; omega
          · simp
  have hK : K ≤ 255 := by
    have : K = (frameG l).1.1 := by rw [← hfg]
    rw [this]
    unfold frameG
    split
    · simp
    · split
      · simp
      · split
        · simp
        · split
          · exact Nat.le_of_lt_succ (UInt8.toNat_lt _)
          · simp
  have hnl : (n : Int) ≤ 9223372036854775807 := by
    have : n = (frameG l).2.1 := by rw [← hfg]
    rw [this]
    unfold frameG
    split
    · simp
    · split
      · simp
      · split
        · simp
        · split
          · rename_i h1 h2 h3 h4; show ((nB l + 9 : Nat) : Int) ≤ _; omega
          · simp
  rw [← hfg] at HFG
  unfold FGetP at HFG
  simp only at HFG
  obtain ⟨r, hr⟩ : ∃ r, r = getMR l := ⟨_, rfl⟩
  rw [← hr] at hways ⊢
  have HF0 := hid F0; have HW0 := hid hW0; have HQ := hid hq; have HB0 := hid hb0
  have hqW : q < W0.heap.size := F0.lt
  clear hfg hr hv hb0 F0 hW0 hq
  rcases hways with ⟨g1, hR⟩ | ⟨g1, g2, hR⟩ | ⟨g1, g2, hR1, hR2⟩
  · have HR := hid hR
    go_enter Tryz.func13, Tryz.ntmps13
    go_upto_region 1 with (fail)
    rw [← HW0.out, ← HQ.out]
    go_wp2_with fail
    (with_reducible refine HFG.out.mono ?_)
    rintro en w1 ⟨Ab, cb, rfl, hob, hb1⟩
    have hF1 := HF0.out.below hb1 hqW
    have hB1 := HB0.out.trans (hb1.mono HB0.out.size)
    obtain ⟨W1, hW1⟩ : ∃ W, W = w1.alloc (.cells #[.int .i64 K, .slice Ab bd.length cb] 75) := ⟨_, rfl⟩
    have hb2 : Below w1.heap.size w1 W1 := by rw [hW1]; exact bl1 _ _
    have HF2 := hid (hF1.below hb2 hF1.lt)
    have HB2 := hid (hB1.trans (hb2.mono hB1.size))
    have HW1 := hid hW1
    clear hR hF1 hB1 hob hb1 hW1 hb2
    go_upto_region 2 with (fail)
    rw [← HW1.out]
    obtain ⟨d0, x0⟩ := HF2.out.c 0 _ rfl; obtain ⟨d1, x1⟩ := HF2.out.c 1 _ rfl; obtain ⟨d2, x2⟩ := HF2.out.c 2 _ rfl; obtain ⟨d3, x3⟩ := HF2.out.c 3 _ rfl; obtain ⟨d4, x4⟩ := HF2.out.c 4 _ rfl; obtain ⟨d5, x5⟩ := HF2.out.c 5 _ rfl; obtain ⟨d6, x6⟩ := HF2.out.c 6 _ rfl; obtain ⟨d7, x7⟩ := HF2.out.c 7 _ rfl; obtain ⟨d8, x8⟩ := HF2.out.c 8 _ rfl; obtain ⟨d9, x9⟩ := HF2.out.c 9 _ rfl; obtain ⟨d10, x10⟩ := HF2.out.c 10 _ rfl; obtain ⟨d11, x11⟩ := HF2.out.c 11 _ rfl; obtain ⟨d12, x12⟩ := HF2.out.c 12 _ rfl
    go_wp2
    obtain ⟨W8, hW8⟩ : ∃ W, W = (((((((((((((W1.setCell ⟨q, 0, none⟩ (.int .i64 0)).setCell ⟨q, 1, none⟩ (.int .i64 0)).setCell ⟨q, 2, none⟩ (.int .i64 0)).setCell ⟨q, 3, none⟩ (.int .i64 0)).setCell ⟨q, 4, none⟩ (.int .i64 0)).setCell ⟨q, 5, none⟩ (.int .i64 0)).setCell ⟨q, 6, none⟩ (.int .i64 0)).setCell ⟨q, 7, none⟩ (.int .i64 0)).setCell ⟨q, 8, none⟩ (.bool false)).setCell ⟨q, 9, none⟩ (.int .i64 0)).setCell ⟨q, 10, none⟩ (.int .i64 0)).setCell ⟨q, 11, none⟩ (.slice none 0 0)).setCell ⟨q, 12, none⟩ (.slice none 0 0)) := ⟨_, rfl⟩
    rw [← hW8]
    have F8 : BoxC W8 q [(.int .i64 0), (.int .i64 0), (.int .i64 0), (.int .i64 0), (.int .i64 0), (.int .i64 0), (.int .i64 0), (.int .i64 0), (.bool false), (.int .i64 0), (.int .i64 0), (.slice none 0 0), (.slice none 0 0)] := by rw [hW8]; exact (((((((((((((HF2.out.set 0 (by simp) _).set 1 (by simp) _).set 2 (by simp) _).set 3 (by simp) _).set 4 (by simp) _).set 5 (by simp) _).set 6 (by simp) _).set 7 (by simp) _).set 8 (by simp) _).set 9 (by simp) _).set 10 (by simp) _).set 11 (by simp) _).set 12 (by simp) _)
    have B8 : Below w.heap.size w W8 := by
      rw [hW8]
      have hqq := HQ.out
      exact (((((((((((((HB2.out.setCell (show w.heap.size ≤ q by omega) _).setCell (show w.heap.size ≤ q by omega) _).setCell (show w.heap.size ≤ q by omega) _).setCell (show w.heap.size ≤ q by omega) _).setCell (show w.heap.size ≤ q by omega) _).setCell (show w.heap.size ≤ q by omega) _).setCell (show w.heap.size ≤ q by omega) _).setCell (show w.heap.size ≤ q by omega) _).setCell (show w.heap.size ≤ q by omega) _).setCell (show w.heap.size ≤ q by omega) _).setCell (show w.heap.size ≤ q by omega) _).setCell (show w.heap.size ≤ q by omega) _).setCell (show w.heap.size ≤ q by omega) _)
    have s0 := (F8.c 0 _ rfl).1; have s1 := (F8.c 1 _ rfl).1; have s2 := (F8.c 2 _ rfl).1; have s3 := (F8.c 3 _ rfl).1; have s4 := (F8.c 4 _ rfl).1; have s5 := (F8.c 5 _ rfl).1; have s6 := (F8.c 6 _ rfl).1; have s7 := (F8.c 7 _ rfl).1; have s8 := (F8.c 8 _ rfl).1; have s9 := (F8.c 9 _ rfl).1; have s10 := (F8.c 10 _ rfl).1; have s11 := (F8.c 11 _ rfl).1; have s12 := (F8.c 12 _ rfl).1
    refine bodyPost_ret (v := .tuple #[.agg #[(.int .i64 0), (.int .i64 0), (.int .i64 0), (.int .i64 0), (.int .i64 0), (.int .i64 0), (.int .i64 0), (.int .i64 0), (.bool false), (.int .i64 0), (.int .i64 0), (.slice none 0 0), (.slice none 0 0)], .int .i64 er]) ?_ rfl ?_
    · simp [results, Tryz.results13, go_sem, s0, s1, s2, s3, s4, s5, s6, s7, s8, s9, s10, s11, s12]
    · rw [HR.out]
      exact ⟨none, 0, none, 0, rfl, ERow.nil_ _ _, Sl.nil_, B8⟩
  · have HR := hid hR
    go_enter Tryz.func13, Tryz.ntmps13
    go_upto_region 1 with (fail)
    rw [← HW0.out, ← HQ.out]
    go_wp2_with fail
    (with_reducible refine HFG.out.mono ?_)
    rintro en w1 ⟨Ab, cb, rfl, hob, hb1⟩
    have hF1 := HF0.out.below hb1 hqW
    have hB1 := HB0.out.trans (hb1.mono HB0.out.size)
    obtain ⟨W1, hW1⟩ : ∃ W, W = w1.alloc (.cells #[.int .i64 K, .slice Ab bd.length cb] 75) := ⟨_, rfl⟩
    have hb2 : Below w1.heap.size w1 W1 := by rw [hW1]; exact bl1 _ _
    have HF2 := hid (hF1.below hb2 hF1.lt)
    have HB2 := hid (hB1.trans (hb2.mono hB1.size))
    have HW1 := hid hW1
    clear hR hF1 hB1 hob hb1 hW1 hb2
    go_upto_region 2 with (fail)
    rw [← HW1.out]
    obtain ⟨d0, x0⟩ := HF2.out.c 0 _ rfl; obtain ⟨d1, x1⟩ := HF2.out.c 1 _ rfl; obtain ⟨d2, x2⟩ := HF2.out.c 2 _ rfl; obtain ⟨d3, x3⟩ := HF2.out.c 3 _ rfl; obtain ⟨d4, x4⟩ := HF2.out.c 4 _ rfl; obtain ⟨d5, x5⟩ := HF2.out.c 5 _ rfl; obtain ⟨d6, x6⟩ := HF2.out.c 6 _ rfl; obtain ⟨d7, x7⟩ := HF2.out.c 7 _ rfl; obtain ⟨d8, x8⟩ := HF2.out.c 8 _ rfl; obtain ⟨d9, x9⟩ := HF2.out.c 9 _ rfl; obtain ⟨d10, x10⟩ := HF2.out.c 10 _ rfl; obtain ⟨d11, x11⟩ := HF2.out.c 11 _ rfl; obtain ⟨d12, x12⟩ := HF2.out.c 12 _ rfl
    go_wp2
    obtain ⟨W8, hW8⟩ : ∃ W, W = (((((((((((((W1.setCell ⟨q, 0, none⟩ (.int .i64 0)).setCell ⟨q, 1, none⟩ (.int .i64 0)).setCell ⟨q, 2, none⟩ (.int .i64 0)).setCell ⟨q, 3, none⟩ (.int .i64 0)).setCell ⟨q, 4, none⟩ (.int .i64 0)).setCell ⟨q, 5, none⟩ (.int .i64 0)).setCell ⟨q, 6, none⟩ (.int .i64 0)).setCell ⟨q, 7, none⟩ (.int .i64 0)).setCell ⟨q, 8, none⟩ (.bool false)).setCell ⟨q, 9, none⟩ (.int .i64 0)).setCell ⟨q, 10, none⟩ (.int .i64 0)).setCell ⟨q, 11, none⟩ (.slice none 0 0)).setCell ⟨q, 12, none⟩ (.slice none 0 0)) := ⟨_, rfl⟩
    rw [← hW8]
    have F8 : BoxC W8 q [(.int .i64 0), (.int .i64 0), (.int .i64 0), (.int .i64 0), (.int .i64 0), (.int .i64 0), (.int .i64 0), (.int .i64 0), (.bool false), (.int .i64 0), (.int .i64 0), (.slice none 0 0), (.slice none 0 0)] := by rw [hW8]; exact (((((((((((((HF2.out.set 0 (by simp) _).set 1 (by simp) _).set 2 (by simp) _).set 3 (by simp) _).set 4 (by simp) _).set 5 (by simp) _).set 6 (by simp) _).set 7 (by simp) _).set 8 (by simp) _).set 9 (by simp) _).set 10 (by simp) _).set 11 (by simp) _).set 12 (by simp) _)
    have B8 : Below w.heap.size w W8 := by
      rw [hW8]
      have hqq := HQ.out
      exact (((((((((((((HB2.out.setCell (show w.heap.size ≤ q by omega) _).setCell (show w.heap.size ≤ q by omega) _).setCell (show w.heap.size ≤ q by omega) _).setCell (show w.heap.size ≤ q by omega) _).setCell (show w.heap.size ≤ q by omega) _).setCell (show w.heap.size ≤ q by omega) _).setCell (show w.heap.size ≤ q by omega) _).setCell (show w.heap.size ≤ q by omega) _).setCell (show w.heap.size ≤ q by omega) _).setCell (show w.heap.size ≤ q by omega) _).setCell (show w.heap.size ≤ q by omega) _).setCell (show w.heap.size ≤ q by omega) _).setCell (show w.heap.size ≤ q by omega) _)
    have s0 := (F8.c 0 _ rfl).1; have s1 := (F8.c 1 _ rfl).1; have s2 := (F8.c 2 _ rfl).1; have s3 := (F8.c 3 _ rfl).1; have s4 := (F8.c 4 _ rfl).1; have s5 := (F8.c 5 _ rfl).1; have s6 := (F8.c 6 _ rfl).1; have s7 := (F8.c 7 _ rfl).1; have s8 := (F8.c 8 _ rfl).1; have s9 := (F8.c 9 _ rfl).1; have s10 := (F8.c 10 _ rfl).1; have s11 := (F8.c 11 _ rfl).1; have s12 := (F8.c 12 _ rfl).1
    refine bodyPost_ret (v := .tuple #[.agg #[(.int .i64 0), (.int .i64 0), (.int .i64 0), (.int .i64 0), (.int .i64 0), (.int .i64 0), (.int .i64 0), (.int .i64 0), (.bool false), (.int .i64 0), (.int .i64 0), (.slice none 0 0), (.slice none 0 0)], .int .i64 2]) ?_ rfl ?_
    · simp [results, Tryz.results13, go_sem, s0, s1, s2, s3, s4, s5, s6, s7, s8, s9, s10, s11, s12]
    · rw [HR.out]
      exact ⟨none, 0, none, 0, rfl, ERow.nil_ _ _, Sl.nil_, B8⟩
  · go_enter Tryz.func13, Tryz.ntmps13
    go_upto_region 1 with (fail)
    rw [← HW0.out, ← HQ.out]
    go_wp2_with fail
    (with_reducible refine HFG.out.mono ?_)
    rintro en w1 ⟨Ab, cb, rfl, hob, hb1⟩
    have hF1 := HF0.out.below hb1 hqW
    have hB1 := HB0.out.trans (hb1.mono HB0.out.size)
    have hpl : Sl w1 w1.heap.size (.slice Ab bd.length cb) (bvals bd) := Own8.sl hob
    obtain ⟨W1, hW1⟩ : ∃ W, W = w1.alloc (.cells #[.int .i64 K, .slice Ab bd.length cb] 75) := ⟨_, rfl⟩
    have hb2 : Below w1.heap.size w1 W1 := by rw [hW1]; exact bl1 _ _
    have k0 : W1.cell? ⟨w1.heap.size, 0, none⟩ = some (.int .i64 K) := by rw [hW1]; simp [go_sem]
    have k1 : W1.cell? ⟨w1.heap.size, 1, none⟩ = some (.slice Ab bd.length cb) := by rw [hW1]; simp [go_sem]
    have hkl : w1.heap.size < W1.heap.size := by rw [hW1]; simp
    have HF2 := hid (hF1.below hb2 hF1.lt)
    have HB2 := hid (hB1.trans (hb2.mono hB1.size))
    have HW1 := hid hW1; have HR1 := hid hR1; have HR2 := hid hR2
    have hsl : Sl W1 W1.heap.size (.slice Ab bd.length cb) (bvals bd) := (hpl.below hb2).more hb2.size
    have hbd' : bd.length ≤ 140737488355328 := by omega
    obtain ⟨p, hpe⟩ : ∃ p, p = W1.heap.size := ⟨_, rfl⟩
    obtain ⟨w3, hw3⟩ : ∃ W, W = W1.alloc (.cells #[.slice Ab bd.length cb, .int .i64 0, .int .i64 0] 80) := ⟨_, rfl⟩
    have hb3 : Below W1.heap.size W1 w3 := by rw [hw3]; exact bl1 _ _
    have RW3 := hid (show RW w3 p p bd 0 0 by rw [hw3, hpe]; exact rw_mkM (t := 80) hsl (Nat.le_refl _) hbd')
    have HW3 := hid hw3; have HP := hid hpe
    have k0' := cellK hb3 hkl k0
    have hp3 : p < w3.heap.size := by rw [hw3, hpe]; simp
    have HB3 := hid (HB2.out.trans (hb3.mono HB2.out.size))
    have HF3 := hid (HF2.out.below hb3 HF2.out.lt)
    have hqp : q < p := by rw [hpe]; exact HF2.out.lt
    have HK := hid k0'
    clear hF1 hB1 hob hb1 hW1 hb2 hpl hR1 hR2 hsl hpe hw3 hb3 k0'
    go_upto_region 2 with (fail)
    rw [← HW1.out]
    go_upto_region 7 with (fail)
    rw [← HW3.out, ← HP.out]
    have k0 := HK.out
    clear k1 hkl
    obtain ⟨N, hN⟩ : ∃ N, N = w3.heap.size := ⟨_, rfl⟩
    obtain ⟨W4, hW4⟩ : ∃ W, W = w3.alloc (.cells #[.int .i64 0, .int .i64 0, .int .i64 0, .int .i64 0, .int .i64 0, .int .i64 0, .int .i64 0, .int .i64 0, .bool false, .int .i64 0, .int .i64 0, .slice none 0 0, .slice none 0 0] 25) := ⟨_, rfl⟩
    have hb4 : Below w3.heap.size w3 W4 := by rw [hW4]; exact bl1 _ _
    have HG4 := hid (show BoxN w3 W4 p N [.int .i64 0, .int .i64 0, .int .i64 0, .int .i64 0, .int .i64 0, .int .i64 0, .int .i64 0, .int .i64 0, .bool false, .int .i64 0, .int .i64 0, .slice none 0 0, .slice none 0 0] by rw [hW4, hN]; exact BoxN.new (Upd.refl _ _) hp3)
    have RW4 := hid (RW3.out.keep (hb4.mono (by omega)))
    have hpN : p < N := by omega
    have HNN := hid hN; have HW4 := hid hW4
    have k4 := cellK hb4 (World.block_lt_of_cell? _ _ k0) k0
    obtain ⟨m0, y0⟩ := HG4.out.c 0 _ rfl
    clear hN hW4 hb4
    go_upto_region 8 with (fail)
    rw [← HW4.out, ← HNN.out]
    clear k0
    go_upto_region 9 with (fail)
    obtain ⟨V0, hV⟩ : ∃ W, W = W4.setCell ⟨N, 0, none⟩ (.int .i64 K) := ⟨_, rfl⟩
    rw [← hV]
    have HA0 := hid (show BoxN w3 V0 p N [.int .i64 K, .int .i64 0, .int .i64 0, .int .i64 0, .int .i64 0, .int .i64 0, .int .i64 0, .int .i64 0, .bool false, .int .i64 0, .int .i64 0, .slice none 0 0, .slice none 0 0] by rw [hV]; exact HG4.out.set 0 (by simp) _)
    have R0 := hid (show RW V0 p p bd 0 0 by rw [hV]; exact RW4.out.set hpN _)
    clear hV m0 y0 k4
    obtain ⟨r1, hr1⟩ : ∃ r, r = rInt bd 0 0 0 1099511627776 := ⟨_, rfl⟩
    have HI1 := hid (fun W (hW : RW W p p bd 0 0) => refReadInt_any p p bd 0 0 0 1099511627776 W hW)
    rw [← hr1] at HI1
    obtain ⟨z1, a1, e1⟩ := r1
    unfold RIntPost at HI1
    simp only at HI1
    obtain ⟨r2, hr2⟩ : ∃ r, r = rInt bd a1 e1 0 1099511627776 := ⟨_, rfl⟩
    have HI2 := hid (fun W (hW : RW W p p bd a1 e1) => refReadInt_any p p bd a1 e1 0 1099511627776 W hW)
    rw [← hr2] at HI2
    obtain ⟨z2, a2, e2⟩ := r2
    unfold RIntPost at HI2
    simp only at HI2
    obtain ⟨r3, hr3⟩ : ∃ r, r = rInt bd a2 e2 0 1099511627776 := ⟨_, rfl⟩
    have HI3 := hid (fun W (hW : RW W p p bd a2 e2) => refReadInt_any p p bd a2 e2 0 1099511627776 W hW)
    rw [← hr3] at HI3
    obtain ⟨z3, a3, e3⟩ := r3
    unfold RIntPost at HI3
    simp only at HI3
    obtain ⟨r4, hr4⟩ : ∃ r, r = rInt bd a3 e3 0 1099511627776 := ⟨_, rfl⟩
    have HI4 := hid (fun W (hW : RW W p p bd a3 e3) => refReadInt_any p p bd a3 e3 0 1099511627776 W hW)
    rw [← hr4] at HI4
    obtain ⟨z4, a4, e4⟩ := r4
    unfold RIntPost at HI4
    simp only at HI4
    obtain ⟨r5, hr5⟩ : ∃ r, r = rInt bd a4 e4 0 1099511627776 := ⟨_, rfl⟩
    have HI5 := hid (fun W (hW : RW W p p bd a4 e4) => refReadInt_any p p bd a4 e4 0 1099511627776 W hW)
    rw [← hr5] at HI5
    obtain ⟨z5, a5, e5⟩ := r5
    unfold RIntPost at HI5
    simp only at HI5
    obtain ⟨r6, hr6⟩ : ∃ r, r = rInt bd a5 e5 0 1099511627776 := ⟨_, rfl⟩
    have HI6 := hid (fun W (hW : RW W p p bd a5 e5) => refReadInt_any p p bd a5 e5 0 1099511627776 W hW)
    rw [← hr6] at HI6
    obtain ⟨z6, a6, e6⟩ := r6
    unfold RIntPost at HI6
    simp only at HI6
    obtain ⟨r7, hr7⟩ : ∃ r, r = rInt bd a6 e6 0 1099511627776 := ⟨_, rfl⟩
    have HI7 := hid (fun W (hW : RW W p p bd a6 e6) => refReadInt_any p p bd a6 e6 0 1099511627776 W hW)
    rw [← hr7] at HI7
    obtain ⟨z7, a7, e7⟩ := r7
    unfold RIntPost at HI7
    simp only at HI7
    obtain ⟨r8, hr8⟩ : ∃ r, r = rInt bd a7 e7 0 1 := ⟨_, rfl⟩
    have HI8 := hid (fun W (hW : RW W p p bd a7 e7) => refReadInt_any p p bd a7 e7 0 1 W hW)
    rw [← hr8] at HI8
    obtain ⟨z8, a8, e8⟩ := r8
    unfold RIntPost at HI8
    simp only at HI8
    obtain ⟨r9, hr9⟩ : ∃ r, r = rInt bd a8 e8 0 1099511627776 := ⟨_, rfl⟩
    have HI9 := hid (fun W (hW : RW W p p bd a8 e8) => refReadInt_any p p bd a8 e8 0 1099511627776 W hW)
    rw [← hr9] at HI9
    obtain ⟨z9, a9, e9⟩ := r9
    unfold RIntPost at HI9
    simp only at HI9
    obtain ⟨r10, hr10⟩ : ∃ r, r = rInt bd a9 e9 0 1099511627776 := ⟨_, rfl⟩
    have HI10 := hid (fun W (hW : RW W p p bd a9 e9) => refReadInt_any p p bd a9 e9 0 1099511627776 W hW)
    rw [← hr10] at HI10
    obtain ⟨z10, a10, e10⟩ := r10
    unfold RIntPost at HI10
    simp only at HI10
    have hmt : msgBody 0 1099511627776 K bd = msgTail bd K z1 z2 a2 e2 := by
      unfold msgBody
      simp only
      rw [← hr1]
      simp only
      rw [← hr2]
    unfold msgTail at hmt
    simp only at hmt
    rw [← hr3] at hmt
    simp only at hmt
    rw [← hr4] at hmt
    simp only at hmt
    rw [← hr5] at hmt
    simp only at hmt
    rw [← hr6] at hmt
    simp only at hmt
    rw [← hr7] at hmt
    simp only at hmt
    rw [← hr8] at hmt
    simp only at hmt
    rw [← hr9] at hmt
    simp only at hmt
    rw [← hr10] at hmt
    simp only at hmt
    have HMT := hid hmt
    clear hmt hr1 hr2 hr3 hr4 hr5 hr6 hr7 hr8 hr9 hr10
    go_wp2_with fail
    refine (HI1.out V0 R0.out).mono ?_
    rintro en x1 ⟨rfl, hrw, hu⟩
    have HX1 := hid (HA0.out.move hp3 hu); have RX1 := hid hrw
    obtain ⟨m0, y0⟩ := HX1.out.c 1 _ rfl
    clear hrw hu
    go_upto_region 10 with (fail)
    obtain ⟨V1, hV⟩ : ∃ W, W = x1.setCell ⟨N, 1, none⟩ (.int .i64 z1) := ⟨_, rfl⟩
    rw [← hV]
    have HA1 := hid (show BoxN w3 V1 p N [.int .i64 K, .int .i64 z1, .int .i64 0, .int .i64 0, .int .i64 0, .int .i64 0, .int .i64 0, .int .i64 0, .bool false, .int .i64 0, .int .i64 0, .slice none 0 0, .slice none 0 0] by rw [hV]; exact HX1.out.set 1 (by simp) _)
    have R1 := hid (show RW V1 p p bd a1 e1 by rw [hV]; exact RX1.out.set hpN _)
    clear hV m0 y0 HX1 RX1 HI1 HA0 R0
    go_wp2_with fail
    refine (HI2.out V1 R1.out).mono ?_
    rintro en x2 ⟨rfl, hrw, hu⟩
    have HX2 := hid (HA1.out.move hp3 hu); have RX2 := hid hrw
    obtain ⟨m0, y0⟩ := HX2.out.c 2 _ rfl
    clear hrw hu
    go_upto_region 11 with (fail)
    obtain ⟨V2, hV⟩ : ∃ W, W = x2.setCell ⟨N, 2, none⟩ (.int .i64 z2) := ⟨_, rfl⟩
    rw [← hV]
    have HA2 := hid (show BoxN w3 V2 p N [.int .i64 K, .int .i64 z1, .int .i64 z2, .int .i64 0, .int .i64 0, .int .i64 0, .int .i64 0, .int .i64 0, .bool false, .int .i64 0, .int .i64 0, .slice none 0 0, .slice none 0 0] by rw [hV]; exact HX2.out.set 2 (by simp) _)
    have R2 := hid (show RW V2 p p bd a2 e2 by rw [hV]; exact RX2.out.set hpN _)
    clear hV m0 y0 HX2 RX2 HI2 HA1 R1
    go_wp2_with fail
    refine (HI3.out V2 R2.out).mono ?_
    rintro en x3 ⟨rfl, hrw, hu⟩
    have HX3 := hid (HA2.out.move hp3 hu); have RX3 := hid hrw
    obtain ⟨m0, y0⟩ := HX3.out.c 3 _ rfl
    clear hrw hu
    go_upto_region 12 with (fail)
    obtain ⟨V3, hV⟩ : ∃ W, W = x3.setCell ⟨N, 3, none⟩ (.int .i64 z3) := ⟨_, rfl⟩
    rw [← hV]
    have HA3 := hid (show BoxN w3 V3 p N [.int .i64 K, .int .i64 z1, .int .i64 z2, .int .i64 z3, .int .i64 0, .int .i64 0, .int .i64 0, .int .i64 0, .bool false, .int .i64 0, .int .i64 0, .slice none 0 0, .slice none 0 0] by rw [hV]; exact HX3.out.set 3 (by simp) _)
    have R3 := hid (show RW V3 p p bd a3 e3 by rw [hV]; exact RX3.out.set hpN _)
    clear hV m0 y0 HX3 RX3 HI3 HA2 R2
    go_wp2_with fail
    refine (HI4.out V3 R3.out).mono ?_
    rintro en x4 ⟨rfl, hrw, hu⟩
    have HX4 := hid (HA3.out.move hp3 hu); have RX4 := hid hrw
    obtain ⟨m0, y0⟩ := HX4.out.c 4 _ rfl
    clear hrw hu
    go_upto_region 13 with (fail)
    obtain ⟨V4, hV⟩ : ∃ W, W = x4.setCell ⟨N, 4, none⟩ (.int .i64 z4) := ⟨_, rfl⟩
    rw [← hV]
    have HA4 := hid (show BoxN w3 V4 p N [.int .i64 K, .int .i64 z1, .int .i64 z2, .int .i64 z3, .int .i64 z4, .int .i64 0, .int .i64 0, .int .i64 0, .bool false, .int .i64 0, .int .i64 0, .slice none 0 0, .slice none 0 0] by rw [hV]; exact HX4.out.set 4 (by simp) _)
    have R4 := hid (show RW V4 p p bd a4 e4 by rw [hV]; exact RX4.out.set hpN _)
    clear hV m0 y0 HX4 RX4 HI4 HA3 R3
    go_wp2_with fail
    refine (HI5.out V4 R4.out).mono ?_
    rintro en x5 ⟨rfl, hrw, hu⟩
    have HX5 := hid (HA4.out.move hp3 hu); have RX5 := hid hrw
    obtain ⟨m0, y0⟩ := HX5.out.c 5 _ rfl
    clear hrw hu
    go_upto_region 14 with (fail)
    obtain ⟨V5, hV⟩ : ∃ W, W = x5.setCell ⟨N, 5, none⟩ (.int .i64 z5) := ⟨_, rfl⟩
    rw [← hV]
    have HA5 := hid (show BoxN w3 V5 p N [.int .i64 K, .int .i64 z1, .int .i64 z2, .int .i64 z3, .int .i64 z4, .int .i64 z5, .int .i64 0, .int .i64 0, .bool false, .int .i64 0, .int .i64 0, .slice none 0 0, .slice none 0 0] by rw [hV]; exact HX5.out.set 5 (by simp) _)
    have R5 := hid (show RW V5 p p bd a5 e5 by rw [hV]; exact RX5.out.set hpN _)
    clear hV m0 y0 HX5 RX5 HI5 HA4 R4
    go_wp2_with fail
    refine (HI6.out V5 R5.out).mono ?_
    rintro en x6 ⟨rfl, hrw, hu⟩
    have HX6 := hid (HA5.out.move hp3 hu); have RX6 := hid hrw
    obtain ⟨m0, y0⟩ := HX6.out.c 6 _ rfl
    clear hrw hu
    go_upto_region 15 with (fail)
    obtain ⟨V6, hV⟩ : ∃ W, W = x6.setCell ⟨N, 6, none⟩ (.int .i64 z6) := ⟨_, rfl⟩
    rw [← hV]
    have HA6 := hid (show BoxN w3 V6 p N [.int .i64 K, .int .i64 z1, .int .i64 z2, .int .i64 z3, .int .i64 z4, .int .i64 z5, .int .i64 z6, .int .i64 0, .bool false, .int .i64 0, .int .i64 0, .slice none 0 0, .slice none 0 0] by rw [hV]; exact HX6.out.set 6 (by simp) _)
    have R6 := hid (show RW V6 p p bd a6 e6 by rw [hV]; exact RX6.out.set hpN _)
    clear hV m0 y0 HX6 RX6 HI6 HA5 R5
    go_wp2_with fail
    refine (HI7.out V6 R6.out).mono ?_
    rintro en x7 ⟨rfl, hrw, hu⟩
    have HX7 := hid (HA6.out.move hp3 hu); have RX7 := hid hrw
    obtain ⟨m0, y0⟩ := HX7.out.c 7 _ rfl
    clear hrw hu
    go_upto_region 16 with (fail)
    obtain ⟨V7, hV⟩ : ∃ W, W = x7.setCell ⟨N, 7, none⟩ (.int .i64 z7) := ⟨_, rfl⟩
    rw [← hV]
    have HA7 := hid (show BoxN w3 V7 p N [.int .i64 K, .int .i64 z1, .int .i64 z2, .int .i64 z3, .int .i64 z4, .int .i64 z5, .int .i64 z6, .int .i64 z7, .bool false, .int .i64 0, .int .i64 0, .slice none 0 0, .slice none 0 0] by rw [hV]; exact HX7.out.set 7 (by simp) _)
    have R7 := hid (show RW V7 p p bd a7 e7 by rw [hV]; exact RX7.out.set hpN _)
    clear hV m0 y0 HX7 RX7 HI7 HA6 R6
    go_wp2_with fail
    refine (HI8.out V7 R7.out).mono ?_
    rintro en x8 ⟨rfl, hrw, hu⟩
    have HX8 := hid (HA7.out.move hp3 hu); have RX8 := hid hrw
    obtain ⟨m0, y0⟩ := HX8.out.c 8 _ rfl
    clear hrw hu
    go_upto_region 17 with (fail)
    obtain ⟨V8, hV⟩ : ∃ W, W = x8.setCell ⟨N, 8, none⟩ (.bool (z8 == 1)) := ⟨_, rfl⟩
    rw [← hV]
    have HA8 := hid (show BoxN w3 V8 p N [.int .i64 K, .int .i64 z1, .int .i64 z2, .int .i64 z3, .int .i64 z4, .int .i64 z5, .int .i64 z6, .int .i64 z7, .bool (z8 == 1), .int .i64 0, .int .i64 0, .slice none 0 0, .slice none 0 0] by rw [hV]; exact HX8.out.set 8 (by simp) _)
    have R8 := hid (show RW V8 p p bd a8 e8 by rw [hV]; exact RX8.out.set hpN _)
    clear hV m0 y0 HX8 RX8 HI8 HA7 R7
    go_wp2_with fail
    refine (HI9.out V8 R8.out).mono ?_
    rintro en x9 ⟨rfl, hrw, hu⟩
    have HX9 := hid (HA8.out.move hp3 hu); have RX9 := hid hrw
    obtain ⟨m0, y0⟩ := HX9.out.c 9 _ rfl
    clear hrw hu
    go_upto_region 18 with (fail)
    obtain ⟨V9, hV⟩ : ∃ W, W = x9.setCell ⟨N, 9, none⟩ (.int .i64 z9) := ⟨_, rfl⟩
    rw [← hV]
    have HA9 := hid (show BoxN w3 V9 p N [.int .i64 K, .int .i64 z1, .int .i64 z2, .int .i64 z3, .int .i64 z4, .int .i64 z5, .int .i64 z6, .int .i64 z7, .bool (z8 == 1), .int .i64 z9, .int .i64 0, .slice none 0 0, .slice none 0 0] by rw [hV]; exact HX9.out.set 9 (by simp) _)
    have R9 := hid (show RW V9 p p bd a9 e9 by rw [hV]; exact RX9.out.set hpN _)
    clear hV m0 y0 HX9 RX9 HI9 HA8 R8
    go_wp2_with fail
    refine (HI10.out V9 R9.out).mono ?_
    rintro en x10 ⟨rfl, hrw, hu⟩
    have HX10 := hid (HA9.out.move hp3 hu); have RX10 := hid hrw
    obtain ⟨m0, y0⟩ := HX10.out.c 10 _ rfl
    clear hrw hu
    go_upto_region 19 with (fail)
    obtain ⟨V10, hV⟩ : ∃ W, W = x10.setCell ⟨N, 10, none⟩ (.int .i64 z10) := ⟨_, rfl⟩
    rw [← hV]
    have HA10 := hid (show BoxN w3 V10 p N [.int .i64 K, .int .i64 z1, .int .i64 z2, .int .i64 z3, .int .i64 z4, .int .i64 z5, .int .i64 z6, .int .i64 z7, .bool (z8 == 1), .int .i64 z9, .int .i64 z10, .slice none 0 0, .slice none 0 0] by rw [hV]; exact HX10.out.set 10 (by simp) _)
    have R10 := hid (show RW V10 p p bd a10 e10 by rw [hV]; exact RX10.out.set hpN _)
    clear hV m0 y0 HX10 RX10 HI10 HA9 R9
    obtain ⟨hd, hhd⟩ : ∃ hd : List Value, hd = [.int .i64 K, .int .i64 z1, .int .i64 z2, .int .i64 z3, .int .i64 z4, .int .i64 z5, .int .i64 z6, .int .i64 z7, .bool (z8 == 1), .int .i64 z9, .int .i64 z10] := ⟨_, rfl⟩
    have HA11 := hid (show BoxN w3 V10 p N (hd ++ [.slice none 0 0, .slice none 0 0]) by rw [hhd]; exact HA10.out)
    have hal8 : a10 ≤ bd.length := R10.out.2.1
    obtain ⟨n9, a11, e11, hr9, hn6, -, -⟩ := rInt_in bd a10 e10 6 hal8
    have HI9 := hid (refReadInt_any p p bd a10 e10 0 6 V10 R10.out)
    have hr9 : rInt bd a10 e10 0 6 = ((n9 : Int), a11, e11) := hr9
    rw [hr9] at HI9
    have hmt := HMT.out
    rw [hr9] at hmt
    simp only [Int.toNat_natCast] at hmt
    obtain ⟨U, hU⟩ : ∃ U, U = entsR bd n9 a11 e11 := ⟨_, rfl⟩
    rw [← hU] at hmt
    have HMU := hid hmt; have HU := hid hU; have HHD := hid hhd
    unfold RIntPost at HI9
    simp only at HI9
    clear hmt hU hhd hr9 HMT
    go_wp2_with fail
    (with_reducible refine HI9.out.mono ?_)
    rintro en w12 ⟨rfl, hrw, hu⟩
    have HA6 := hid (HA11.out.move hp3 hu); have RW12 := hid hrw
    clear hrw hu
    go_wp2
    go_loopw [10] (fun i wq => MeRel bd p p N w3 hd (.slice none 0 0) (N + 1) n9 U i wq) (fun i _ => n9 - (intOf i).toNat)
    case atStart => exact ⟨0, [], a11, e11, _, by omega, rfl, rfl, HA6.out, ERow.nil_ _ _, RW12.out, by rw [HU.out]; simp⟩
    case round =>
      obtain ⟨j, acc, b10, f10, E, hj, rfl, hja, hbx, her, hrw, hTT⟩ := hrel
      have HBX := hid hbx; have RWj := hid hrw; have HTT := hid hTT; have HJA := hid hja; have HER := hid her
      have hNl := hbx.lt
      have hhl : hd.length = 11 := by rw [HHD.out]; rfl
      have c11 : (hd ++ [E, .slice none 0 0])[11]? = some E := by rw [List.getElem?_append_right (by omega), hhl]; rfl
      obtain ⟨m11, y11⟩ := hbx.c 11 _ c11
      obtain ⟨es, he1, he2, he3⟩ := her
      obtain ⟨Ae, ce, rfl⟩ := own_formB he2
      have HE1 := hid he1; have HE2 := hid he2; have HE3 := hid he3
      have HHL := hid hhl
      clear hbx hrw hTT hja c11 he1 he2 he3 hhl
      rw [← HJA.out] at m11 HE2
      by_cases hlt : j < n9
      · have HRE := hid (refReadEnt_any p p bd b10 f10 wr.drew (RWj.out.qu ⟨1, rfl⟩) hbd)
        have HST := hid (ent_step hlt HTT.out)
        generalize entR bd b10 f10 = r1 at *
        obtain ⟨⟨i1, t1, o1, s1, q1, fs⟩, b11, f11⟩ := r1
        unfold EntP entVs at HRE
        simp only at HRE HST
        obtain ⟨ti, hi', hz0', hz1', hz2'⟩ := info_parts info_ent
        go_wp2
        go_region_law (first
          | (refine step_append_lies _ (by rfl) (.tmp 73) (.tmp 76) 22 (by rfl) (N + 1) 49 ti (.agg #[.int .i64 0, .int .i64 0, .int .i64 0, .int .i64 0, .int .i64 0, .slice none 0 0]) 6 64 Tryz.underlying22 hi' hz0' hz1' hz2' rfl (by omega) _ j (es.flatMap ent6) (by rfl) (O5.out.alloc _) ⟨w5'.heap.size, 0, none⟩ 1 1 [.int .i64 i1, .int .i64 t1, .int .i64 o1, .int .i64 s1, .int .i64 q1, .slice Af fs.length kf] (by rfl) rfl (cells_new_at _ _ _ rfl) (by simp; exact ⟨rfl, rfl, rfl, rfl, rfl, rfl⟩) (by omega) (by unfold maxLen; omega) (by omega) (by simp; omega) (w5'.heap.size + 1) (by simp) ?_; intro g cap w6' ho6 hg6 hat6 hlt6; have b6 : Below (N + 1) (w5'.alloc (.cells #[.int .i64 i1, .int .i64 t1, .int .i64 o1, .int .i64 s1, .int .i64 q1, .slice Af fs.length kf] 49)) w6' := (Below.refl _ _).grown hg6 (by simp; omega) (fun j hj => (O5.out.lt j hj).1); have m3 := cellK b6 (show N < N + 1 by omega) k12; have m5 := frozenK b6 (show N < N + 1 by omega) (frozen_alloc (o := .cells #[.int .i64 i1, .int .i64 t1, .int .i64 o1, .int .i64 s1, .int .i64 q1, .slice Af fs.length kf] 49) (show N < w5'.heap.size by omega) z11))
          | (go_simp; go_at_call 42; refine HRE.out.mono ?_; rintro en w5' ⟨Af, kf, rfl, hc5, hrw5, hu5⟩; have U5 := hid (show Upd p wr w5' from (Upd.of_below (Below.refl wr.heap.size wr).drew).trans hu5); have HB5 := hid (HBX.out.move hp3 U5.out); have RW5' := hid hrw5; have HC5 := hid hc5; have O5 := hid (own_keepT HE2.out (KeepT.of_upd U5.out (by omega))); obtain ⟨k11, z11⟩ := HB5.out.c 11 _ (show (hd ++ [Value.slice Ae acc.length ce, Value.slice none 0 0])[11]? = some (Value.slice Ae acc.length ce) by rw [List.getElem?_append_right (by have := HHL.out; omega), HHL.out]; rfl); rw [← HJA.out] at k11; have z5 := U5.out.size; have k12 := cell_alloc (o := .cells #[.int .i64 i1, .int .i64 t1, .int .i64 o1, .int .i64 s1, .int .i64 q1, .slice Af fs.length kf] 49) (show N < w5'.heap.size by omega) k11; clear hu5 hrw5 hc5))
        all_goals
          have b56 : Below (N + 1) w5' w6' := ((Below.refl _ w5').alloc (by omega) _).trans b6
          have kU : ∀ e, KeepT e (N + 1) wr (w5'.alloc (.cells #[.int .i64 i1, .int .i64 t1, .int .i64 o1, .int .i64 s1, .int .i64 q1, .slice Af fs.length kf] 49)) := fun e => (KeepT.of_upd U5.out (by omega)).trans (KeepT.of_below (bl1 w5' _))
          have hge5 : N + 1 ≤ wr.drew.heap.size := by show N + 1 ≤ wr.heap.size; omega
          have her : ERow w6' (N + 1) (.slice (some ⟨g, 0, none⟩) (j + 1) cap) (acc ++ [(i1, t1, o1, s1, q1, fs)]) :=
            ERow.app (x := ((i1, t1, o1, s1, q1, fs), .slice Af fs.length kf)) HE1.out (by rw [← HJA.out]; exact O5.out.alloc _) (fun x hx => (HE3.out x hx).keepT kU) ((HC5.out.less hge5).on (bl1 w5' _)) (by rw [← HJA.out]; exact ho6) hg6
          have hbx6 := (HB5.out.over hp3 b56).set 11 (by simp [HHL.out]) (.slice (some ⟨g, 0, none⟩) (j + 1) cap)
          rw [show (hd ++ [Value.slice Ae acc.length ce, Value.slice none 0 0]).set 11 (.slice (some ⟨g, 0, none⟩) (j + 1) cap) = hd ++ [.slice (some ⟨g, 0, none⟩) (j + 1) cap, Value.slice none 0 0] by rw [List.set_append_right _ _ (by have := HHL.out; omega), HHL.out]; rfl] at hbx6
          have HNX := hid (show MeRel bd p p N w3 hd (.slice none 0 0) (N + 1) n9 U (.int .i64 ((j : Int) + 1)) (w6'.setCell ⟨N, 11, none⟩ (.slice (some ⟨g, 0, none⟩) (j + 1) cap)) from
            ⟨j + 1, acc ++ [(i1, t1, o1, s1, q1, fs)], b11, f11, _, by omega, by go_num, by rw [List.length_append, ← HJA.out]; rfl, hbx6, her.set (by omega) _, (RW5'.out.keep (b56.mono (by omega))).set hpN _, HST.out⟩)
          clear b56 kU her hbx6 ho6 hg6 hat6 hlt6 b6
          go_wp2
          go_roundw
          case rel => exact HNX.out
          case measure => simp [intOf]; omega
      · have hjn : j = n9 := by omega
        subst hjn
        have hmt := HMU.out
        rw [show U = (acc, b10, f10) by rw [HTT.out, Nat.sub_self]; simp [entsR]] at hmt
        simp only at hmt
        have HTX := hid (refReadText_any p p bd b10 f10 160 wr RWj.out)
        obtain ⟨r12, hr12⟩ : ∃ r12, r12 = rText bd b10 f10 160 := ⟨_, rfl⟩
        have htl : r12.1.length ≤ 160 := by rw [hr12]; exact rText_le bd b10 f10
        rw [← hr12] at HTX hmt
        obtain ⟨tx, a12, e12⟩ := r12
        unfold RTextPost at HTX
        simp only at HTX hmt htl
        have HMT := hid (hmt)
        obtain ⟨xm, hxm⟩ : ∃ xm, xm = tx.toArray := ⟨_, rfl⟩
        rw [← hxm] at HTX
        have HXM := hid hxm
        clear hmt hr12 hxm
        go_wp2_with fail
        (with_reducible refine HTX.out.mono ?_)
        rintro en w13 ⟨rfl, hrw, hu⟩
        obtain ⟨WY, cap, hWY, hbY, hltY, hsY, hcl, hcm⟩ := bytes_of w13 ⟨xm⟩ (by show xm.size ≤ _; rw [HXM.out]; simp; omega)
        have hsz : (⟨xm⟩ : ByteArray).size = tx.length := by show xm.size = _; rw [HXM.out]; simp
        have hdt : (⟨xm⟩ : ByteArray).data.toList = tx := by show xm.toList = _; rw [HXM.out]
        rw [hsz] at hWY hsY
        rw [hdt] at hsY
        have HB13 := hid ((HBX.out.move hp3 hu).over hp3 (hbY.mono (by have := hu.size; omega)))
        have RW13 := hid (hrw.keep (hbY.mono (by have := hu.size; omega)))
        have HE13 := hid (show ERow WY (N + 1) (.slice Ae acc.length ce) acc from ERow.keepT (w := wr) ⟨es, HE1.out, by rw [← HJA.out]; exact HE2.out, HE3.out⟩ (fun e => (KeepT.of_upd hu (by omega)).trans (KeepT.of_below hbY)))
        have HSY := hid hsY
        have hYN : N < w13.heap.size := by have := hu.size; omega
        obtain ⟨m12, y12⟩ := HB13.out.c 12 _ (show (hd ++ [Value.slice Ae acc.length ce, Value.slice none 0 0])[12]? = some (.slice none 0 0) by rw [List.getElem?_append_right (by have := HHL.out; omega), HHL.out]; rfl)
        obtain ⟨V4, hV4⟩ : ∃ W, W = WY.setCell ⟨N, 12, none⟩ (.slice (some ⟨w13.heap.size, 0, none⟩) tx.length cap) := ⟨_, rfl⟩
        have RV4 := hid (show RW V4 p p bd a12 e12 by rw [hV4]; exact RW13.out.set hpN _)
        have hb4 := HB13.out.set 12 (by simp [HHL.out]) (.slice (some ⟨w13.heap.size, 0, none⟩) tx.length cap)
        rw [show (hd ++ [Value.slice Ae acc.length ce, Value.slice none 0 0]).set 12 (.slice (some ⟨w13.heap.size, 0, none⟩) tx.length cap) = hd ++ [Value.slice Ae acc.length ce, .slice (some ⟨w13.heap.size, 0, none⟩) tx.length cap] by rw [List.set_append_right _ _ (by have := HHL.out; omega), HHL.out]; rfl, ← hV4] at hb4
        have HV4 := hid hb4
        have HE4 := hid (show ERow V4 (N + 1) (.slice Ae acc.length ce) acc by rw [hV4]; exact HE13.out.set (by omega) _)
        have hs4 : SlE V4 (fun k => k = w13.heap.size) (.slice (some ⟨w13.heap.size, 0, none⟩) tx.length cap) (bvals tx) := by
          rw [hV4]
          exact HSY.out.kept (fun k hk => (Below.heap_setCell _ _ _ k (by simp; omega)))
        have HS4 := hid hs4
        have HZ4 := hid (show w13.heap.size < V4.heap.size by rw [hV4]; simpa [World.setCell] using hltY)
        have HEND := hid (fun W (hW : RW W p p bd a12 e12) => refReadEnd_any p p bd a12 e12 W hW)
        obtain ⟨ee, hee⟩ : ∃ ee, ee = rEnd bd a12 e12 := ⟨_, rfl⟩
        rw [← hee] at HEND
        have hR1 := HR1.out
        have hR2 := HR2.out
        have hmm := msgBody_in 0 1099511627776 K bd ⟨by omega, by have := hK; omega⟩ (by omega) (by omega)
        rw [HMT.out] at hR1 hR2 hmm
        simp only at hR1 hR2 hmm
        rw [← hee] at hR1 hR2
        obtain ⟨mm, hmm0⟩ : ∃ mm : MsgX, mm = ⟨K, z1, z2, z3, z4, z5, z6, z7, z8 == 1, z9, z10, acc, tx⟩ := ⟨_, rfl⟩
        rw [← hmm0] at hR1 hR2 hmm
        have HMAY := hid (refMayM_any (.agg (msgCs mm (.slice Ae acc.length ce) (.slice (some ⟨w13.heap.size, 0, none⟩) tx.length cap)).toArray) mm V4
          (by rw [hmm0] at hmm ⊢; exact ⟨Ae, ce, some ⟨w13.heap.size, 0, none⟩, cap, rfl, HE4.out.rows hmm.2, HS4.out.sl, hmm.1⟩))
        rw [show msgCs mm (.slice Ae acc.length ce) (.slice (some ⟨w13.heap.size, 0, none⟩) tx.length cap) = [.int .i64 K, .int .i64 z1, .int .i64 z2, .int .i64 z3, .int .i64 z4, .int .i64 z5, .int .i64 z6, .int .i64 z7, .bool (z8 == 1), .int .i64 z9, .int .i64 z10, .slice Ae acc.length ce, .slice (some ⟨w13.heap.size, 0, none⟩) tx.length cap] by rw [hmm0]; rfl] at HMAY
        have HR1' := hid hR1; have HR2' := hid hR2; have HMM := hid hmm0
        have HV4' := hid hV4
        have HVF := HV4.out
        rw [HHD.out] at HVF
        clear hrw hu hsY hbY hb4 hs4 hee hR1 hR2 hV4 hmm hmm0
        go_upto_region 25 with (fail)
        rw [← HV4'.out]
        obtain ⟨c0, -⟩ := HVF.c 0 _ rfl; obtain ⟨c1, -⟩ := HVF.c 1 _ rfl; obtain ⟨c2, -⟩ := HVF.c 2 _ rfl; obtain ⟨c3, -⟩ := HVF.c 3 _ rfl; obtain ⟨c4, -⟩ := HVF.c 4 _ rfl; obtain ⟨c5, -⟩ := HVF.c 5 _ rfl; obtain ⟨c6, -⟩ := HVF.c 6 _ rfl; obtain ⟨c7, -⟩ := HVF.c 7 _ rfl; obtain ⟨c8, -⟩ := HVF.c 8 _ rfl; obtain ⟨c9, -⟩ := HVF.c 9 _ rfl; obtain ⟨c10, -⟩ := HVF.c 10 _ rfl; obtain ⟨c11, -⟩ := HVF.c 11 _ rfl; obtain ⟨c12, -⟩ := HVF.c 12 _ rfl
        clear m12 y12 hWY
        go_wp2_with fail
        (with_reducible refine HMAY.out.mono ?_)
        rintro en w15 ⟨bb, rfl, hbb, hb15⟩
        have RW15 := hid (RV4.out.keep (hb15.mono (by have := HV4.out.lt; omega)))
        have HBB := hid hbb
        have HV5a := hid (HVF.over hp3 (hb15.mono (by have := HVF.lt; omega)))
        have HE5a := hid (HE4.out.on hb15)
        have HS5a := hid (HS4.out.kept (E := fun k => k = w13.heap.size) (fun k hk => hb15.block k (by have := HZ4.out; omega)))
        clear hbb hb15 HVF c0 c1 c2 c3 c4 c5 c6 c7 c8 c9 c10 c11 c12
        go_wp2_with fail
        refine (HEND.out w15 RW15.out).mono ?_
        rintro en w14 ⟨rfl, hq14⟩
        have HV5 := hid (HV5a.out.over hp3 (hq14.below _)); have HE5 := hid (HE5a.out.on (hq14.below _))
        have HS5 := hid (HS5a.out.kept (E := fun k => k = w13.heap.size) (fun k hk => (hq14.below (k + 1)).block k (by omega)))
        clear hq14
        obtain ⟨c0, -⟩ := HV5.out.c 0 _ rfl; obtain ⟨c1, -⟩ := HV5.out.c 1 _ rfl; obtain ⟨c2, -⟩ := HV5.out.c 2 _ rfl; obtain ⟨c3, -⟩ := HV5.out.c 3 _ rfl; obtain ⟨c4, -⟩ := HV5.out.c 4 _ rfl; obtain ⟨c5, -⟩ := HV5.out.c 5 _ rfl; obtain ⟨c6, -⟩ := HV5.out.c 6 _ rfl; obtain ⟨c7, -⟩ := HV5.out.c 7 _ rfl; obtain ⟨c8, -⟩ := HV5.out.c 8 _ rfl; obtain ⟨c9, -⟩ := HV5.out.c 9 _ rfl; obtain ⟨c10, -⟩ := HV5.out.c 10 _ rfl; obtain ⟨c11, -⟩ := HV5.out.c 11 _ rfl; obtain ⟨c12, -⟩ := HV5.out.c 12 _ rfl
        have F6 := HF3.out.upd HV5.out.upd hp3 (by omega)
        have B6 := HB3.out.trans (HV5.out.upd.below (B := w.heap.size) (by have := HQ.out; omega) hp3)
        have HF6 := hid F6; have HB6 := hid B6
        obtain ⟨d0, y0⟩ := F6.c 0 _ rfl; obtain ⟨d1, y1⟩ := F6.c 1 _ rfl; obtain ⟨d2, y2⟩ := F6.c 2 _ rfl; obtain ⟨d3, y3⟩ := F6.c 3 _ rfl; obtain ⟨d4, y4⟩ := F6.c 4 _ rfl; obtain ⟨d5, y5⟩ := F6.c 5 _ rfl; obtain ⟨d6, y6⟩ := F6.c 6 _ rfl; obtain ⟨d7, y7⟩ := F6.c 7 _ rfl; obtain ⟨d8, y8⟩ := F6.c 8 _ rfl; obtain ⟨d9, y9⟩ := F6.c 9 _ rfl; obtain ⟨d10, y10⟩ := F6.c 10 _ rfl; obtain ⟨d11, y11⟩ := F6.c 11 _ rfl; obtain ⟨d12, y12⟩ := F6.c 12 _ rfl
        clear F6 B6 m11
        by_cases he : ee = 0
        · have t1 : (ee != 0) = false := by simp [he]
          by_cases hsd : bb = true
          · have HR := hid (HR2'.out he (HBB.out.1 hsd))
            subst hsd
            rw [HMM.out] at HR
            clear he
            go_wp2
            obtain ⟨W8, hW8⟩ : ∃ W, W = (((((((((((((w14.setCell ⟨q, 0, none⟩ (.int .i64 K)).setCell ⟨q, 1, none⟩ (.int .i64 z1)).setCell ⟨q, 2, none⟩ (.int .i64 z2)).setCell ⟨q, 3, none⟩ (.int .i64 z3)).setCell ⟨q, 4, none⟩ (.int .i64 z4)).setCell ⟨q, 5, none⟩ (.int .i64 z5)).setCell ⟨q, 6, none⟩ (.int .i64 z6)).setCell ⟨q, 7, none⟩ (.int .i64 z7)).setCell ⟨q, 8, none⟩ (.bool (z8 == 1))).setCell ⟨q, 9, none⟩ (.int .i64 z9)).setCell ⟨q, 10, none⟩ (.int .i64 z10)).setCell ⟨q, 11, none⟩ (.slice Ae acc.length ce)).setCell ⟨q, 12, none⟩ (.slice (some ⟨w13.heap.size, 0, none⟩) tx.length cap)) := ⟨_, rfl⟩
            rw [← hW8]
            have F8 : BoxC W8 q [(.int .i64 K), (.int .i64 z1), (.int .i64 z2), (.int .i64 z3), (.int .i64 z4), (.int .i64 z5), (.int .i64 z6), (.int .i64 z7), (.bool (z8 == 1)), (.int .i64 z9), (.int .i64 z10), (.slice Ae acc.length ce), (.slice (some ⟨w13.heap.size, 0, none⟩) tx.length cap)] := by rw [hW8]; exact (((((((((((((HF6.out.set 0 (by simp) _).set 1 (by simp) _).set 2 (by simp) _).set 3 (by simp) _).set 4 (by simp) _).set 5 (by simp) _).set 6 (by simp) _).set 7 (by simp) _).set 8 (by simp) _).set 9 (by simp) _).set 10 (by simp) _).set 11 (by simp) _).set 12 (by simp) _)
            have B8 : Below w.heap.size w W8 := by
              rw [hW8]
              have hqq := HQ.out
              exact (((((((((((((HB6.out.setCell (show w.heap.size ≤ q by omega) _).setCell (show w.heap.size ≤ q by omega) _).setCell (show w.heap.size ≤ q by omega) _).setCell (show w.heap.size ≤ q by omega) _).setCell (show w.heap.size ≤ q by omega) _).setCell (show w.heap.size ≤ q by omega) _).setCell (show w.heap.size ≤ q by omega) _).setCell (show w.heap.size ≤ q by omega) _).setCell (show w.heap.size ≤ q by omega) _).setCell (show w.heap.size ≤ q by omega) _).setCell (show w.heap.size ≤ q by omega) _).setCell (show w.heap.size ≤ q by omega) _).setCell (show w.heap.size ≤ q by omega) _)
            have E8 : ERow W8 (N + 1) (.slice Ae acc.length ce) acc := by
              rw [hW8]
              exact (((((((((((((HE5.out.set (show q < N + 1 by omega) _).set (show q < N + 1 by omega) _).set (show q < N + 1 by omega) _).set (show q < N + 1 by omega) _).set (show q < N + 1 by omega) _).set (show q < N + 1 by omega) _).set (show q < N + 1 by omega) _).set (show q < N + 1 by omega) _).set (show q < N + 1 by omega) _).set (show q < N + 1 by omega) _).set (show q < N + 1 by omega) _).set (show q < N + 1 by omega) _).set (show q < N + 1 by omega) _)
            have S8 : SlE W8 (fun k => k = w13.heap.size) (.slice (some ⟨w13.heap.size, 0, none⟩) tx.length cap) (bvals tx) := by
              rw [hW8]
              refine HS5.out.kept (fun k hk => ?_)
              have hkq : k ≠ q := by omega
              rw [Below.heap_setCell _ _ _ k (by simp; omega)]
              rw [Below.heap_setCell _ _ _ k (by simp; omega)]
              rw [Below.heap_setCell _ _ _ k (by simp; omega)]
              rw [Below.heap_setCell _ _ _ k (by simp; omega)]
              rw [Below.heap_setCell _ _ _ k (by simp; omega)]
              rw [Below.heap_setCell _ _ _ k (by simp; omega)]
              rw [Below.heap_setCell _ _ _ k (by simp; omega)]
              rw [Below.heap_setCell _ _ _ k (by simp; omega)]
              rw [Below.heap_setCell _ _ _ k (by simp; omega)]
              rw [Below.heap_setCell _ _ _ k (by simp; omega)]
              rw [Below.heap_setCell _ _ _ k (by simp; omega)]
              rw [Below.heap_setCell _ _ _ k (by simp; omega)]
              rw [Below.heap_setCell _ _ _ k (by simp; omega)]
            have s0 := (F8.c 0 _ rfl).1; have s1 := (F8.c 1 _ rfl).1; have s2 := (F8.c 2 _ rfl).1; have s3 := (F8.c 3 _ rfl).1; have s4 := (F8.c 4 _ rfl).1; have s5 := (F8.c 5 _ rfl).1; have s6 := (F8.c 6 _ rfl).1; have s7 := (F8.c 7 _ rfl).1; have s8 := (F8.c 8 _ rfl).1; have s9 := (F8.c 9 _ rfl).1; have s10 := (F8.c 10 _ rfl).1; have s11 := (F8.c 11 _ rfl).1; have s12 := (F8.c 12 _ rfl).1
            refine bodyPost_ret (v := .tuple #[.agg #[(.int .i64 K), (.int .i64 z1), (.int .i64 z2), (.int .i64 z3), (.int .i64 z4), (.int .i64 z5), (.int .i64 z6), (.int .i64 z7), (.bool (z8 == 1)), (.int .i64 z9), (.int .i64 z10), (.slice Ae acc.length ce), (.slice (some ⟨w13.heap.size, 0, none⟩) tx.length cap)], .int .i64 0]) ?_ rfl ?_
            · simp [results, Tryz.results13, go_sem, s0, s1, s2, s3, s4, s5, s6, s7, s8, s9, s10, s11, s12]
            · rw [HR.out]
              exact ⟨Ae, ce, some ⟨w13.heap.size, 0, none⟩, cap, rfl, E8.less (by have := HQ.out; omega), S8.sl, B8⟩

          · have hbf : bb = false := by simpa using hsd
            have HR := hid (HR1'.out (.inr (fun h => hsd (HBB.out.2 h))))
            subst hbf
            clear he hsd
            go_wp2
            obtain ⟨W8, hW8⟩ : ∃ W, W = (((((((((((((w14.setCell ⟨q, 0, none⟩ (.int .i64 0)).setCell ⟨q, 1, none⟩ (.int .i64 0)).setCell ⟨q, 2, none⟩ (.int .i64 0)).setCell ⟨q, 3, none⟩ (.int .i64 0)).setCell ⟨q, 4, none⟩ (.int .i64 0)).setCell ⟨q, 5, none⟩ (.int .i64 0)).setCell ⟨q, 6, none⟩ (.int .i64 0)).setCell ⟨q, 7, none⟩ (.int .i64 0)).setCell ⟨q, 8, none⟩ (.bool false)).setCell ⟨q, 9, none⟩ (.int .i64 0)).setCell ⟨q, 10, none⟩ (.int .i64 0)).setCell ⟨q, 11, none⟩ (.slice none 0 0)).setCell ⟨q, 12, none⟩ (.slice none 0 0)) := ⟨_, rfl⟩
            rw [← hW8]
            have F8 : BoxC W8 q [(.int .i64 0), (.int .i64 0), (.int .i64 0), (.int .i64 0), (.int .i64 0), (.int .i64 0), (.int .i64 0), (.int .i64 0), (.bool false), (.int .i64 0), (.int .i64 0), (.slice none 0 0), (.slice none 0 0)] := by rw [hW8]; exact (((((((((((((HF6.out.set 0 (by simp) _).set 1 (by simp) _).set 2 (by simp) _).set 3 (by simp) _).set 4 (by simp) _).set 5 (by simp) _).set 6 (by simp) _).set 7 (by simp) _).set 8 (by simp) _).set 9 (by simp) _).set 10 (by simp) _).set 11 (by simp) _).set 12 (by simp) _)
            have B8 : Below w.heap.size w W8 := by
              rw [hW8]
              have hqq := HQ.out
              exact (((((((((((((HB6.out.setCell (show w.heap.size ≤ q by omega) _).setCell (show w.heap.size ≤ q by omega) _).setCell (show w.heap.size ≤ q by omega) _).setCell (show w.heap.size ≤ q by omega) _).setCell (show w.heap.size ≤ q by omega) _).setCell (show w.heap.size ≤ q by omega) _).setCell (show w.heap.size ≤ q by omega) _).setCell (show w.heap.size ≤ q by omega) _).setCell (show w.heap.size ≤ q by omega) _).setCell (show w.heap.size ≤ q by omega) _).setCell (show w.heap.size ≤ q by omega) _).setCell (show w.heap.size ≤ q by omega) _).setCell (show w.heap.size ≤ q by omega) _)
            have s0 := (F8.c 0 _ rfl).1; have s1 := (F8.c 1 _ rfl).1; have s2 := (F8.c 2 _ rfl).1; have s3 := (F8.c 3 _ rfl).1; have s4 := (F8.c 4 _ rfl).1; have s5 := (F8.c 5 _ rfl).1; have s6 := (F8.c 6 _ rfl).1; have s7 := (F8.c 7 _ rfl).1; have s8 := (F8.c 8 _ rfl).1; have s9 := (F8.c 9 _ rfl).1; have s10 := (F8.c 10 _ rfl).1; have s11 := (F8.c 11 _ rfl).1; have s12 := (F8.c 12 _ rfl).1
            refine bodyPost_ret (v := .tuple #[.agg #[(.int .i64 0), (.int .i64 0), (.int .i64 0), (.int .i64 0), (.int .i64 0), (.int .i64 0), (.int .i64 0), (.int .i64 0), (.bool false), (.int .i64 0), (.int .i64 0), (.slice none 0 0), (.slice none 0 0)], .int .i64 2]) ?_ rfl ?_
            · simp [results, Tryz.results13, go_sem, s0, s1, s2, s3, s4, s5, s6, s7, s8, s9, s10, s11, s12]
            · rw [HR.out]
              exact ⟨none, 0, none, 0, rfl, ERow.nil_ _ _, Sl.nil_, B8⟩

        · have t1 : (ee != 0) = true := by simpa using he
          have HR := hid (HR1'.out (.inl he))
          clear he
          go_wp2
          obtain ⟨W8, hW8⟩ : ∃ W, W = (((((((((((((w14.setCell ⟨q, 0, none⟩ (.int .i64 0)).setCell ⟨q, 1, none⟩ (.int .i64 0)).setCell ⟨q, 2, none⟩ (.int .i64 0)).setCell ⟨q, 3, none⟩ (.int .i64 0)).setCell ⟨q, 4, none⟩ (.int .i64 0)).setCell ⟨q, 5, none⟩ (.int .i64 0)).setCell ⟨q, 6, none⟩ (.int .i64 0)).setCell ⟨q, 7, none⟩ (.int .i64 0)).setCell ⟨q, 8, none⟩ (.bool false)).setCell ⟨q, 9, none⟩ (.int .i64 0)).setCell ⟨q, 10, none⟩ (.int .i64 0)).setCell ⟨q, 11, none⟩ (.slice none 0 0)).setCell ⟨q, 12, none⟩ (.slice none 0 0)) := ⟨_, rfl⟩
          rw [← hW8]
          have F8 : BoxC W8 q [(.int .i64 0), (.int .i64 0), (.int .i64 0), (.int .i64 0), (.int .i64 0), (.int .i64 0), (.int .i64 0), (.int .i64 0), (.bool false), (.int .i64 0), (.int .i64 0), (.slice none 0 0), (.slice none 0 0)] := by rw [hW8]; exact (((((((((((((HF6.out.set 0 (by simp) _).set 1 (by simp) _).set 2 (by simp) _).set 3 (by simp) _).set 4 (by simp) _).set 5 (by simp) _).set 6 (by simp) _).set 7 (by simp) _).set 8 (by simp) _).set 9 (by simp) _).set 10 (by simp) _).set 11 (by simp) _).set 12 (by simp) _)
          have B8 : Below w.heap.size w W8 := by
            rw [hW8]
            have hqq := HQ.out
            exact (((((((((((((HB6.out.setCell (show w.heap.size ≤ q by omega) _).setCell (show w.heap.size ≤ q by omega) _).setCell (show w.heap.size ≤ q by omega) _).setCell (show w.heap.size ≤ q by omega) _).setCell (show w.heap.size ≤ q by omega) _).setCell (show w.heap.size ≤ q by omega) _).setCell (show w.heap.size ≤ q by omega) _).setCell (show w.heap.size ≤ q by omega) _).setCell (show w.heap.size ≤ q by omega) _).setCell (show w.heap.size ≤ q by omega) _).setCell (show w.heap.size ≤ q by omega) _).setCell (show w.heap.size ≤ q by omega) _).setCell (show w.heap.size ≤ q by omega) _)
          have s0 := (F8.c 0 _ rfl).1; have s1 := (F8.c 1 _ rfl).1; have s2 := (F8.c 2 _ rfl).1; have s3 := (F8.c 3 _ rfl).1; have s4 := (F8.c 4 _ rfl).1; have s5 := (F8.c 5 _ rfl).1; have s6 := (F8.c 6 _ rfl).1; have s7 := (F8.c 7 _ rfl).1; have s8 := (F8.c 8 _ rfl).1; have s9 := (F8.c 9 _ rfl).1; have s10 := (F8.c 10 _ rfl).1; have s11 := (F8.c 11 _ rfl).1; have s12 := (F8.c 12 _ rfl).1
          refine bodyPost_ret (v := .tuple #[.agg #[(.int .i64 0), (.int .i64 0), (.int .i64 0), (.int .i64 0), (.int .i64 0), (.int .i64 0), (.int .i64 0), (.int .i64 0), (.bool false), (.int .i64 0), (.int .i64 0), (.slice none 0 0), (.slice none 0 0)], .int .i64 2]) ?_ rfl ?_
          · simp [results, Tryz.results13, go_sem, s0, s1, s2, s3, s4, s5, s6, s7, s8, s9, s10, s11, s12]
          · rw [HR.out]
            exact ⟨none, 0, none, 0, rfl, ERow.nil_ _ _, Sl.nil_, B8⟩

end Go.Proofs.YtkgifbnkkmeoiaaGreatDoor
