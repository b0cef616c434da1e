/- The law's does. -/
import Derived.Test.YtkgifbnkkmeoiaaLnkBoth
import Derived.Deep.RegionLaw
namespace Go.Proofs.Ytkgifbnkkmeoiaa
open Go.ChangeShapes Go.WideShapes Go.ChangeAt Go.RowKit
set_option linter.unusedVariables false
set_option linter.unusedSimpArgs false

theorem SlE.head {w : World} {E : Nat → Prop} {A : Option Addr} {c : Nat} {d : List UInt8} (h : SlE w E (.slice A d.length c) (bvals d)) (m : Nat) : SlE w E (.slice A (d.take m).length c) (bvals (d.take m)) := by
  obtain ⟨A', c', e, h2, h3, h4⟩ := h
  injection e with e1 _ e3
  subst e1; subst e3
  rw [bvals_len] at h2 h4
  refine ⟨A, c, by rw [bvals_len], by rw [bvals_len, List.length_take]; omega, h3, fun h0 => ?_⟩
  rw [bvals_len, List.length_take] at h0
  obtain ⟨b, off, e, hE, hc⟩ := h4 (by omega)
  refine ⟨b, off, e, hE, fun j u hu => hc j u ?_⟩
  rw [show bvals (d.take m) = (bvals d).take m by simp [bvals, List.map_take], List.getElem?_take] at hu
  split at hu
  · exact hu
  · cases hu
def DoesP (E : Nat → Prop) (n r : Nat) (L : List PK) (w : World) (e : Ending) (w' : World) : Prop := e = .returned (.bool true) ∧ BothE w' E n r L L ∧ Frame E w w'
theorem doesP_of {E : Nat → Prop} {n r : Nat} {L : List PK} {w W1 w' : World} (hb : Below w.heap.size w W1) (hE : ∀ k, E k → k < w.heap.size) {q : Nat} (h : BothE w' (fun k => E k ∨ k = q) n r L L) (hf : Frame (fun k => E k ∨ k = q) W1 w') : DoesP E n r L w (.returned (.bool true)) w' :=
  ⟨rfl, h.less (fun k hk => .inl hk), (Chg.of_below hb).same (hf.less (fun k hk => .inl hk))⟩
set_option maxRecDepth 100000 in
set_option maxHeartbeats 1600000 in
theorem does_any (E : Nat → Prop) (n r : Nat) (L : List PK) (k f t p : Int) (s : Bool) (A : Option Addr) (c : Nat) (d : List UInt8) (w : World) (h : BothE w E n r L L) (hok : OkN L) (hk : InI64 k) (hd : SlE w E (.slice A d.length c) (bvals d)) :
    Calls Try.prog 7 #[.pointer (some ⟨n, 0, none⟩), .pointer (some ⟨r, 0, none⟩), .agg #[.int .i64 k, .int .i64 f, .int .i64 t, .int .i64 p, .bool s, .slice A d.length c]] w (DoesP E n r (doesN L k f t p s d) w) := by
  have HE : Hid (∀ k, E k → k < w.heap.size) := hid (by obtain ⟨D, R, -, -, -, -, -, h6⟩ := h; exact h6)
  obtain ⟨L', hL'⟩ : ∃ L', L' = doesN L k f t p s d := ⟨_, rfl⟩
  rw [← hL']
  obtain ⟨q, hq⟩ : ∃ q, q = w.heap.size := ⟨_, rfl⟩
  obtain ⟨W1, hW1⟩ : ∃ W', W' = w.alloc (.cells #[.int .i64 k, .int .i64 f, .int .i64 t, .int .i64 p, .bool s, .slice A d.length c] 32) := ⟨_, rfl⟩
  have hb1 : Below w.heap.size w W1 := by rw [hW1]; exact bl1 _ _
  have hz1 : W1.heap.size = q + 1 := by rw [hW1, hq]; simp
  have hbe : BothE W1 (fun k => E k ∨ k = q) n r L L := h.new hb1 (by omega) (by omega)
  have hsl : SlE W1 (fun k => E k ∨ k = q) (.slice A (d.take 20).length c) (bvals (d.take 20)) := ((hd.kept (fun k hk => hb1.block k (HE.out k hk))).mono (fun k hk => .inl hk)).head 20
  have y0 : W1.cell? ⟨q, 0, none⟩ = some (.int .i64 k) := by rw [hW1, hq]; simp [go_sem]
  have y1 : W1.cell? ⟨q, 1, none⟩ = some (.int .i64 f) := by rw [hW1, hq]; simp [go_sem]
  have y2 : W1.cell? ⟨q, 2, none⟩ = some (.int .i64 t) := by rw [hW1, hq]; simp [go_sem]
  have y3 : W1.cell? ⟨q, 3, none⟩ = some (.int .i64 p) := by rw [hW1, hq]; simp [go_sem]
  have y4 : W1.cell? ⟨q, 4, none⟩ = some (.bool s) := by rw [hW1, hq]; simp [go_sem]
  have y5 : W1.cell? ⟨q, 5, none⟩ = some (.slice A d.length c) := by rw [hW1, hq]; simp [go_sem]
  have hcc : d.length ≤ c ∧ c ≤ maxLen := by
    obtain ⟨A', c', e, h2, h3, -⟩ := hd
    injection e with _ _ e3
    subst e3
    rw [bvals_len] at h2
    exact ⟨h2, h3⟩
  have HCUT := hid (fun W => cut_any A d c W hcc.1 hcc.2)
  have HPK := hid (pick_any k 3 W1 hk (by omega) (by omega))
  have hpk := pickN_in k 3 (by omega)
  have HL := hid hL'; have HBE1 := hid hbe; have HSL1 := hid hsl; have HB1 := hid hb1; have HW1 := hid hW1; have HOK := hid hok
  have H160 := hid hok.1
  have HD20 := hid (show (d.take 20).length ≤ 1000 by rw [List.length_take]; omega)
  have HD1000 := hid (fun x (hx : x ∈ L) => (show x.2.2.length ≤ 1000 by have := (hok.2 x hx).2; omega))
  have HL1000 := hid (show L.length ≤ 1000 by have := hok.1; omega)
  have hmL : (doesN L k f t p s d) = (if pickN k 3 = 0 then (sendN L f t (d.take 20)).1 else if pickN k 3 = 1 then (if s = true then L else dropN L p) else dropN L p) := rfl
  rw [hmL] at HL
  generalize pickN k 3 = z at *
  generalize d.take 20 = b at *
  clear hL' hW1 hb1 hbe hsl hok h hd hmL hcc hk
  have hc3 : z = 0 ∨ z = 1 ∨ z = 2 := by omega
  have hqq := hid hq
  go_enter Try.func7, Try.ntmps7
  go_upto_region 1 with (fail)
  rw [← HW1.out, ← hq]
  clear hq
  go_wp2_with fail
  refine HPK.out.mono ?_
  rintro e w1 ⟨rfl, rfl⟩
  clear HPK hpk
  rcases hc3 with rfl | rfl | rfl
  · rw [if_pos rfl] at HL
    have HBE := hid (HBE1.out.qu (⟨1, rfl⟩ : Qu W1 W1.drew))
    have HSL := hid (HSL1.out.kept (w' := W1.drew) (fun k hk => rfl))
    have HC := hid (Chg.of_qu (D := fun k => ¬ (E k ∨ k = q)) (⟨1, rfl⟩ : Qu W1 W1.drew))
    go_upto_region 3 with (fail)
    go_region_held3 (fun w' => w'.cell? ⟨q, 1, none⟩ = some (.int .i64 f) ∧ w'.cell? ⟨q, 2, none⟩ = some (.int .i64 t) ∧ w'.cell? ⟨q, 5, none⟩ = some (.slice A d.length c)) (go_keep) ((first | ((with_reducible refine (HCUT.out _).mono ?_); rintro e w5 ⟨rfl, rfl⟩) | ((with_reducible refine (sendPE (fun k => E k ∨ k = q) n r _ _ f t _ b _ HBE.out H160.out HSL.out HD20.out).mono ?_); rintro e w5 ⟨rfl, hbe5, hc5⟩; have HSL := hid (HSL.out.kept (hc5.kept HBE.out.lt)); have HBE := hid hbe5; have y1 := hc5.cell (.inr rfl) y1; have y2 := hc5.cell (.inr rfl) y2; have y5 := hc5.cell (.inr rfl) y5; have HC := hid (HC.out.same hc5); clear hbe5 hc5) | ((with_reducible refine (sendRE (fun k => E k ∨ k = q) n r _ _ f t _ b _ HBE.out H160.out HSL.out HD20.out).mono ?_); rintro e w5 ⟨rfl, hbe5, hc5⟩; have HSL := hid (HSL.out.kept (hc5.kept HBE.out.lt)); have HBE := hid hbe5; have y1 := hc5.cell (.inr rfl) y1; have y2 := hc5.cell (.inr rfl) y2; have y5 := hc5.cell (.inr rfl) y5; have HC := hid (HC.out.same hc5); clear hbe5 hc5)))
    all_goals
      go_wp2
      go_ret
      rw [HL.out]
      exact doesP_of HB1.out HE.out HBE.out HC.out
  · rw [if_neg (by omega), if_pos rfl] at HL
    have HT := hid (takePE (fun k => E k ∨ k = q) n r L L p s W1 HBE1.out HL1000.out HD1000.out)
    go_wp2_with fail
    refine HT.out.mono ?_
    rintro e w2 ⟨bv, rfl, ho2, hbe2, hc2⟩
    have y3 := hc2.cell (.inr rfl) y3
    have y4 := hc2.cell (.inr rfl) y4
    have hq2 : q < w2.heap.size := hbe2.lt q (.inl (.inr rfl))
    have HO2 := hid ho2; have HBE2 := hid hbe2; have HC2 := hid hc2
    obtain ⟨BA, bc, rfl⟩ := ho2.form
    have hlk : ∃ R, NetR w2 R r L ∧ ∀ k, (k = r → R k) := by
      obtain ⟨D, R, g1, g2, g3, g4, g5, g6⟩ := hbe2
      exact ⟨R, g2, fun k e => e ▸ g2.1⟩
    obtain ⟨R, hnr, -⟩ := hlk
    have hRl := hnr.2.1
    have hrr := hnr.1
    have HLK := hid (lookR_any R r L p w2 hnr)
    have hloc : (inN L p = true ∧ (lookN L p).2 = 0) ∨ (inN L p = false ∧ (lookN L p).2 = 33 ∧ dropN L p = L) := by
      cases hin : inN L p
      · exact .inr ⟨rfl, by unfold lookN; rw [hin]; rfl, by unfold dropN; rw [hin]; rfl⟩
      · exact .inl ⟨rfl, by unfold lookN; rw [hin]; rfl⟩
    have HDR := hid (fun W (hb : Below w2.heap.size w2 W) => dropRE _ n r (if s = true then L else dropN L p) L p W (HBE2.out.below hb) HL1000.out)
    have HDN := hid (rfl : (lookN L p).2 = (lookN L p).2)
    have HLEN := hid (show (lookN L p).1.2.2.length ≤ 1000 by
      unfold lookN
      split
      · rename_i hin
        have hp : 0 ≤ p ∧ p < (L.length : Int) := by unfold inN at hin; exact of_decide_eq_true hin
        rw [List.getD_eq_getElem?_getD, List.getElem?_eq_getElem (show p.toNat < L.length by omega)]
        exact HD1000.out _ (List.getElem_mem _)
      · simp [zP])
    clear ho2 hbe2 hc2 hnr HT
    generalize lookN L p = lk at *
    obtain ⟨⟨x1, x2, l⟩, er⟩ := lk
    simp only at HO2 HLK HDR hloc ⊢
    go_wp2_with fail
    refine HLK.out.mono ?_
    rintro e w3 ⟨C, cc, rfl, hs3, hb3⟩
    have y3 := cellK hb3 hq2 y3
    have y4 := cellK hb3 hq2 y4
    have HS3 := hid hs3; have HB3 := hid hb3
    clear hs3 hb3
    have hz3 := HB3.out.size
    obtain ⟨W4, hW4⟩ : ∃ W', W' = w3.alloc (.cells #[.int .i64 x1, .int .i64 x2, .slice C l.length cc] 55) := ⟨_, rfl⟩
    have z1 : W4.cell? ⟨w3.heap.size, 1, none⟩ = some (.int .i64 x2) := by rw [hW4]; simp [go_sem]
    have z2 : W4.cell? ⟨w3.heap.size, 2, none⟩ = some (.slice C l.length cc) := by rw [hW4]; simp [go_sem]
    have hb4 : Below w3.heap.size w3 W4 := by rw [hW4]; exact bl1 _ _
    have hz4 : W4.heap.size = w3.heap.size + 1 := by rw [hW4]; simp
    have y3 := cellK hb4 (by omega) y3
    have y4 := cellK hb4 (by omega) y4
    have HW4 := hid hW4; have HB4 := hid (HB3.out.trans (hb4.mono hz3))
    have HS4 := hid (HS3.out.kept (w' := W4) (fun k hk => hb4.block k (by have := hRl k hk.1; omega)))
    have HO4 := hid (own_kept HO2.out (fun g hg => HB4.out.block g (HO2.out.lt g hg).2))
    have HF4 := hid (HC2.out.same (Chg.of_below HB4.out))
    have HLL := hid (show l.length ≤ 140737488355328 by have h := HO2.out.1; have h2 := HLEN.out; omega)
    clear hW4 hb4 HS3 HB3 HC2
    rcases hloc with ⟨hin, rfl⟩ | ⟨hin, rfl, hdn⟩
    · cases s with
      | false =>
        rw [if_neg (by simp)] at HL HDR HBE2
        have HD4 := hid (HDR.out W4 HB4.out)
        go_upto_region 7 with (fail)
        rw [← HW4.out]
        go_wp2_with fail
        refine HD4.out.mono ?_
        rintro e w5 ⟨rfl, hbe5, hf5, hu5⟩
        have z1 := hu5.cellAt (show w3.heap.size < W4.heap.size by omega) (by have := hRl r hrr; omega) z1
        have z2 := hu5.cellAt (show w3.heap.size < W4.heap.size by omega) (by have := hRl r hrr; omega) z2
        have HSD := hid ((HS4.out.kept (w' := w5) (fun k hk => hu5.block k (by have := hRl k hk.1; omega) (fun e => by injection e with e; exact hk.2 e))).sl)
        have HSB := hid (Sl.of_own (own_kept HO4.out (w' := w5) (fun g hg => hf5.block g (HO4.out.lt g hg).2 (fun hn => hn (.inr hg)))))
        have HBF := hid hbe5
        have HFR := hid (HF4.out.same (hf5.less (fun k hk => .inl hk)))
        clear hbe5 hf5 hu5
        go_wp2_with fail
        refine (sameB_any _ _ l l _ HLL.out HLL.out HSB.out HSD.out).mono ?_
        rintro e w6 ⟨rfl, hq6⟩
        rw [decide_eq_true rfl]
        have z1 := (hq6.cell _).trans z1
        have HQ6 := hid hq6
        clear hq6
        go_wp2
        go_ret
        rw [HL.out]
        exact doesP_of HB1.out HE.out ((HBF.out.qu HQ6.out).less (fun k hk => .inl hk)) (HFR.out.same (Chg.of_qu HQ6.out))
      | true =>
        rw [if_pos rfl] at HL HBE2
        have HSD := hid HS4.out.sl
        have HSB := hid (Sl.of_own HO4.out)
        have HBF := hid (HBE2.out.below HB4.out)
        have HFR := HF4
        go_upto_region 7 with (fail)
        rw [← HW4.out]
        go_wp2_with fail
        refine (sameB_any _ _ l l _ HLL.out HLL.out HSB.out HSD.out).mono ?_
        rintro e w6 ⟨rfl, hq6⟩
        rw [decide_eq_true rfl]
        have z1 := (hq6.cell _).trans z1
        have HQ6 := hid hq6
        clear hq6
        go_wp2
        go_ret
        rw [HL.out]
        exact doesP_of HB1.out HE.out ((HBF.out.qu HQ6.out).less (fun k hk => .inl hk)) (HFR.out.same (Chg.of_qu HQ6.out))
    · have HSD := hid HS4.out.sl
      have HSB := hid (Sl.of_own HO4.out)
      have hss : (if s = true then L else dropN L p) = L := by rw [hdn]; exact ite_self _
      rw [hss] at HL HBE2
      have HBF := hid (HBE2.out.below HB4.out)
      have HFR := HF4
      clear hdn hss
      go_upto_region 7 with (fail)
      rw [← HW4.out]
      go_wp2_with fail
      refine (sameB_any _ _ l l _ HLL.out HLL.out HSB.out HSD.out).mono ?_
      rintro e w6 ⟨rfl, hq6⟩
      rw [decide_eq_true rfl]
      have z1 := (hq6.cell _).trans z1
      have HQ6 := hid hq6
      clear hq6
      go_wp2
      go_ret
      rw [HL.out]
      exact doesP_of HB1.out HE.out ((HBF.out.qu HQ6.out).less (fun k hk => .inl hk)) (HFR.out.same (Chg.of_qu HQ6.out))
  · rw [if_neg (by omega), if_neg (by omega)] at HL
    have HBE := hid (HBE1.out.qu (⟨1, rfl⟩ : Qu W1 W1.drew))
    have HC := hid (Chg.of_qu (D := fun k => ¬ (E k ∨ k = q)) (⟨1, rfl⟩ : Qu W1 W1.drew))
    go_upto_region 11 with (fail)
    go_region_held3 (fun w' => w'.cell? ⟨q, 3, none⟩ = some (.int .i64 p)) (go_keep) ((first | ((with_reducible refine (dropPE (fun k => E k ∨ k = q) n r _ _ p _ HBE.out HL1000.out HD1000.out).mono ?_); rintro e w5 ⟨rfl, hbe5, hc5⟩; have HBE := hid hbe5; have y3 := hc5.cell (.inr rfl) y3; have HC := hid (HC.out.same hc5); clear hbe5 hc5) | ((with_reducible refine (dropRE (fun k => E k ∨ k = q) n r _ _ p _ HBE.out HL1000.out).mono ?_); rintro e w5 ⟨rfl, hbe5, hc5, -⟩; have HBE := hid hbe5; have y3 := hc5.cell (.inr rfl) y3; have HC := hid (HC.out.same hc5); clear hbe5 hc5)))
    all_goals
      go_wp2
      go_ret
      rw [HL.out]
      exact doesP_of HB1.out HE.out HBE.out HC.out
end Go.Proofs.Ytkgifbnkkmeoiaa
