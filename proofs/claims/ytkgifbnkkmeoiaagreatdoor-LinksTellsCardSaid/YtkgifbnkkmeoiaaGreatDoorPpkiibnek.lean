/- 1 text of this claim, in build order. -/
import Derived.Test.YtkgifbnkkmeoiaaGreatDoorPeglidhog
/- The program's Send, Take, Drop: the walks. -/
namespace Go.Proofs.YtkgifbnkkmeoiaaGreatDoor
open Go.ChangeShapes Go.WideShapes Go.ChangeAt Go.RowKit
set_option linter.unusedVariables false
set_option linter.unusedSimpArgs false

theorem cells_new_at (w : World) (vs : Array Value) (t : TypeId) {N : Nat} (hN : w.heap.size = N) : ∀ j u, vs.toList[j]? = some u → (w.alloc (.cells vs t)).cell? ((⟨N, 0, none⟩ : Addr).add j) = some u := by
  subst hN
  intro j u hu
  have e : (⟨w.heap.size, 0, none⟩ : Addr).add j = ⟨w.heap.size, j, none⟩ := by unfold Addr.add; split <;> simp_all
  rw [e, World.cell?_alloc_at _ _ _ _ rfl]
  simpa using hu
def SendP (D : Nat → Prop) (n : Nat) (r : List PK × Int) (w : World) (e : Ending) (w' : World) : Prop := e = .returned (.int .i64 r.2) ∧ NetQ D n r.1 w w'
theorem NetQ.same {D : Nat → Prop} {n : Nat} {L : List PK} {w w' : World} (h : NetP w D n L) (hq : Qu w w') : NetQ D n L w w' := ⟨D, h.qu hq, Grow.refl _ _, Chg.of_qu hq⟩
theorem NetQ.lose {D D1 D2 : Nat → Prop} {n : Nat} {L : List PK} {w w1 w2 : World} (h1 : D n) (hg : Grow w D D1) (hc : Chg D w w1) (h : NetP w2 D2 n L) (hg2 : Grow w1 D1 D2) (hu : Upd n w1 w2) : NetQ D n L w w2 :=
  ⟨D2, h, hg.trans hg2 hc.size, hc.same (Chg.upd hu h1)⟩
set_option maxRecDepth 100000 in
set_option maxHeartbeats 3200000 in
theorem sendP_any (D : Nat → Prop) (n : Nat) (L : List PK) (f t : Int) (v : Value) (b : List UInt8) (w : World) (h : NetP w D n L) (hL : L.length ≤ 160) (hv : Sl w w.heap.size v (bvals b)) (hb : b.length ≤ 1000) :
    Calls Tryz.prog 34 #[.pointer (some ⟨n, 0, none⟩), .int .i64 f, .int .i64 t, v] w (SendP D n (sendN L f t b) w) := by
  obtain ⟨i0, hi, hz0, hz1, hzb⟩ := info_parts info_pk
  have hcs : ¬ (1 ≤ f ∧ f ≤ 7) ∨ ((1 ≤ f ∧ f ≤ 7) ∧ ¬ (1 ≤ t ∧ t ≤ 7)) ∨ ((1 ≤ f ∧ f ≤ 7) ∧ (1 ≤ t ∧ t ≤ 7) ∧ f = t) ∨ ((1 ≤ f ∧ f ≤ 7) ∧ (1 ≤ t ∧ t ≤ 7) ∧ f ≠ t) := by omega
  have HN1 := hid (fun w => number_any f 1 7 w)
  have HN2 := hid (fun w => number_any t 1 7 w)
  have HV := hid hv
  have HH := hid h
  obtain ⟨K, kc, e1, -, -, -⟩ := hv
  rw [bvals_len] at e1
  subst e1
  have hno : mayN f t = false → sendN L f t b = (L, 1) := fun h => by unfold sendN; rw [h]; rfl
  have hnoi : ¬ (1 ≤ f ∧ f ≤ 7 ∧ 1 ≤ t ∧ t ≤ 7 ∧ f ≠ t) → sendN L f t b = (L, 1) := fun h => hno (by unfold mayN; exact decide_eq_false h)
  rcases hcs with h1 | ⟨h1, h2⟩ | ⟨h1, h2, h3⟩ | ⟨h1, h2, h3⟩
  · rw [hnoi (by omega)]
    rw [decide_eq_false h1] at HN1
    clear h1 hno hnoi h
    go_enter Tryz.func34, Tryz.ntmps34
    go_wp2_with fail
    refine (HN1.out w).mono ?_
    rintro e w1 ⟨rfl, hq1⟩
    have HQ := hid hq1; clear hq1
    go_wp2
    go_ret
    exact ⟨rfl, NetQ.same HH.out HQ.out⟩
  · rw [hnoi (by omega)]
    rw [decide_eq_true h1] at HN1
    rw [decide_eq_false h2] at HN2
    clear h1 h2 hno hnoi h
    go_enter Tryz.func34, Tryz.ntmps34
    go_wp2_with fail
    refine (HN1.out w).mono ?_
    rintro e w1 ⟨rfl, hq1⟩
    go_wp2_with fail
    refine (HN2.out w1).mono ?_
    rintro e w2 ⟨rfl, hq2⟩
    have HQ := hid (hq1.trans hq2); clear hq1 hq2
    go_wp2
    go_ret
    exact ⟨rfl, NetQ.same HH.out HQ.out⟩
  · rw [hnoi (by omega)]
    rw [decide_eq_true h1] at HN1
    rw [decide_eq_true h2] at HN2
    have t1 : (f == t) = true := by simp [h3]
    clear h1 h2 h3 hno hnoi h
    go_enter Tryz.func34, Tryz.ntmps34
    go_wp2_with fail
    refine (HN1.out w).mono ?_
    rintro e w1 ⟨rfl, hq1⟩
    go_wp2_with fail
    refine (HN2.out w1).mono ?_
    rintro e w2 ⟨rfl, hq2⟩
    have HQ := hid (hq1.trans hq2); clear hq1 hq2
    go_wp2
    go_ret
    exact ⟨rfl, NetQ.same HH.out HQ.out⟩
  · have hse : sendN L f t b = (if 160 < L.length + 1 then (L ++ [(f, t, b)]).drop 1 else L ++ [(f, t, b)], 0) := by unfold sendN mayN; rw [if_pos (decide_eq_true (by omega))]
    rw [hse]
    obtain ⟨r, hr⟩ : ∃ r, r = if 160 < L.length + 1 then (L ++ [(f, t, b)]).drop 1 else L ++ [(f, t, b)] := ⟨_, rfl⟩
    rw [← hr]
    have HR := hid hr
    clear hr
    rw [decide_eq_true h1] at HN1
    rw [decide_eq_true h2] at HN2
    have t1 : (f == t) = false := by simpa using h3
    clear h1 h2 h3 hno hnoi h hse
    go_enter Tryz.func34, Tryz.ntmps34
    go_wp2_with fail
    refine (HN1.out w).mono ?_
    rintro e w1 ⟨rfl, hq1⟩
    go_wp2_with fail
    refine (HN2.out w1).mono ?_
    rintro e w2 ⟨rfl, hq2⟩
    have hq12 := hq1.trans hq2
    have hnet := HH.out.qu hq12
    have hz2 : w2.heap.size = w.heap.size := by obtain ⟨q, rfl⟩ := hq12; rfl
    have HG2 := hid (fun (D' : Nat → Prop) (h : Grow w2 D D') => show Grow w D D' from ⟨h.1, fun k hk => (h.2 k hk).imp id (fun h => by omega)⟩)
    have HCH := hid (fun (w' : World) (h : Chg D w2 w') => show Chg D w w' from (Chg.of_qu hq12).same h)
    have HCB := hid (fun W (hq : Qu w2 W) => clone_any (.slice K b.length kc) b W ((HV.out.qu' (hq12.trans hq)).more (by obtain ⟨q, rfl⟩ := hq12.trans hq; exact Nat.le_refl _)) (by omega))
    obtain ⟨d1, d2, d3, u, es, d4, d5, d6, d7⟩ := hnet
    obtain ⟨A, c, rfl⟩ := own_formN d5
    have hnl := d2 n d1
    have HD2 := hid d2; have HD5 := hid d5; have HD6 := hid d6; have HD7 := hid d7
    clear hq1 hq2 hq12 d2 d5 d6 d7
    go_wp2
    go_region_law (first
      | (refine step_append_lies _ (by rfl) (.tmp 26) (.tmp 32) 97 (by rfl) 0 101 i0 (.agg #[.int .i64 0, .int .i64 0, .slice none 0 0]) 3 40 Tryz.underlying97 hi hz0 hz1 hzb rfl (by omega) _ L.length (flatP es) (by rfl) (O5.out.alloc _) ⟨w5.heap.size, 0, none⟩ 1 1 [.int .i64 f, .int .i64 t, .slice C b.length cc] (by rfl) rfl HNA.out (by intro u hu; simp at hu; rcases hu with rfl | rfl | rfl <;> rfl) (by omega) (by unfold maxLen; omega) (by omega) (by omega) (w5.heap.size + 1) (by simp) ?_; intro g cap w6 ho6 hg6 hat6 hlt6; obtain ⟨m1, m2, hnq⟩ := netP_app d1 HD2.out d3 d4 HD6.out HD7.out HB5.out HC5.out ho6 hg6 hat6; have HNQ := hid hnq; clear ho6 hg6 hat6 hlt6 hnq)
      | (go_simp; go_at_call 55; refine (HCB.out _ ⟨1, rfl⟩).mono ?_; rintro en w5 ⟨cv, rfl, hc5, hb5⟩; have HB5 := hid (show Below w2.heap.size w2 w5 from (Below.refl _ _).drew.trans hb5); obtain ⟨C, cc, rfl⟩ := own_formN hc5; have HC5 := hid (show w5.ownsRow w2.heap.size 5 1 (.slice C b.length cc) b.length (bvals b) from hc5); have O5 := hid (own_kept HD5.out (fun g hg => HB5.out.block g (HD2.out g (HD6.out g hg).1))); have HNA := hid (show ∀ j u, [Value.int .i64 f, .int .i64 t, .slice C b.length cc][j]? = some u → (w5.alloc (.cells #[.int .i64 f, .int .i64 t, .slice C b.length cc] 101)).cell? ((⟨w5.heap.size, 0, none⟩ : Addr).add j) = some u from cells_new_at w5 _ _ rfl); have m0 := cellK HB5.out hnl d4; have z5 := HB5.out.size; have m4 := cell_alloc (o := .cells #[.int .i64 f, .int .i64 t, .slice C b.length cc] 101) (show n < w5.heap.size by omega) m0; clear hc5 hb5))
    all_goals
      obtain ⟨D7, hn7, hg7, hc7⟩ := HNQ.out
      obtain ⟨w7, hw7⟩ : ∃ w', w' = w6.setCell ⟨n, 0, none⟩ (.slice (some ⟨g, 0, none⟩) (L.length + 1) cap) := ⟨_, rfl⟩
      have y7 : w7.cell? ⟨n, 0, none⟩ = some (.slice (some ⟨g, 0, none⟩) (L.length + 1) cap) := by rw [hw7]; exact cell_here m1
      rw [← hw7] at hn7 hc7
      have HN7 := hid hn7; have HG7 := hid (HG2.out D7 hg7); have HC7 := hid (HCH.out w7 hc7)
      have HW7 := hid hw7
      have hll : (L ++ [(f, t, b)]).length = L.length + 1 := by rw [List.length_append]; rfl
      rw [← HW7.out]
      clear hn7 hg7 hc7 hw7 m0 m4 m1 m2
      by_cases h160 : 160 < L.length + 1
      · have hr := HR.out
        rw [if_pos h160] at hr
        have HLO := hid (lose_any D7 n (L ++ [(f, t, b)]) 0 w7 HN7.out (by omega) (by omega))
        have HR2 := hid hr
        clear hr hll
        go_wp2_with fail
        refine HLO.out.mono ?_
        rintro e w8 ⟨D8, rfl, hn8, hg8, hu8⟩
        have HP := hid (show SendP D n (r, 0) w (.returned (.int .i64 0)) w8 by
          refine ⟨rfl, NetQ.lose d1 HG7.out HC7.out ?_ hg8 hu8⟩
          rw [HR2.out]
          simpa using hn8)
        clear hn8 hg8 hu8
        go_wp2
        go_ret
        exact HP.out
      · have hr := HR.out
        rw [if_neg h160] at hr
        have HR2 := hid hr
        clear hr hll
        go_wp2
        go_ret
        exact ⟨rfl, D7, by rw [HR2.out]; exact HN7.out, HG7.out, HC7.out⟩
/-! ### Take, Drop -/
def TakeP (D : Nat → Prop) (n : Nat) (L : List PK) (p : Int) (stays : Bool) (w : World) (e : Ending) (w' : World) : Prop :=
  ∃ b D', e = .returned (.tuple #[.int .i64 (lookN L p).1.2.1, b, .int .i64 (lookN L p).2]) ∧ Own8 w' w.heap.size b (lookN L p).1.2.2 ∧ NetP w' D' n (if stays = true then L else dropN L p) ∧ Grow w D D' ∧ Chg D w w' ∧ ∀ g, b.ownBlock = some g → ¬ D' g
set_option maxRecDepth 100000 in
set_option maxHeartbeats 1600000 in
theorem takeP_any (D : Nat → Prop) (n : Nat) (L : List PK) (p : Int) (stays : Bool) (w : World) (h : NetP w D n L) (hd : ∀ x ∈ L, x.2.2.length ≤ 1000) (hL : L.length ≤ 1000) :
    Calls Tryz.prog 37 #[.pointer (some ⟨n, 0, none⟩), .int .i64 p, .bool stays] w (TakeP D n L p stays w) := by
  have HLK := hid (lookP_any D n L p w h hd)
  have HH := hid h
  have hd1 := h.1
  obtain ⟨r, hr⟩ : ∃ r, r = if stays = true then L else dropN L p := ⟨_, rfl⟩
  unfold TakeP
  rw [← hr]
  have hloc : (inN L p = true ∧ ∃ k : Nat, p = (k : Int) ∧ k < L.length ∧ (lookN L p).2 = 0) ∨ (inN L p = false ∧ (lookN L p).2 = 33) := by
    cases hin : inN L p
    · exact .inr ⟨rfl, by unfold lookN; rw [hin]; rfl⟩
    · have hp : 0 ≤ p ∧ p < (L.length : Int) := by unfold inN at hin; exact of_decide_eq_true hin
      exact .inl ⟨rfl, p.toNat, by omega, by omega, by unfold lookN; rw [hin]; rfl⟩
  have HR := hid hr
  clear hr h
  generalize hlk : lookN L p = x at *
  obtain ⟨⟨f, t, l⟩, er⟩ := x
  simp only at hloc HLK ⊢
  clear hlk
  rcases hloc with ⟨hin, k, rfl, hk, rfl⟩ | ⟨hin, rfl⟩
  · have HLO := hid (fun W (hb : Below w.heap.size w W) => lose_any D n L k W (HH.out.below hb) hk hL)
    cases hst : stays
    · have hr := HR.out
      rw [hst] at hr
      rw [if_neg (by simp)] at hr
      unfold dropN at hr
      rw [if_pos hin, Int.toNat_natCast] at hr
      have HR2 := hid hr
      clear hr hin
      go_enter Tryz.func37, Tryz.ntmps37
      go_wp2_with fail
      refine HLK.out.mono ?_
      rintro e w1 ⟨b, rfl, ho1, hb1⟩
      have HB1 := hid hb1; have HO1 := hid ho1
      have HLO1 := hid (HLO.out w1 hb1)
      have hz1 := hb1.size
      clear hb1 ho1
      go_wp2_with fail
      refine HLO1.out.mono ?_
      rintro e w2 ⟨D2, rfl, hn2, hg2, hu2⟩
      have HP := hid (show ∃ D', Own8 w2 w.heap.size b l ∧ NetP w2 D' n r ∧ Grow w D D' ∧ Chg D w w2 ∧ ∀ g, b.ownBlock = some g → ¬ D' g from ⟨D2, own_kept HO1.out (fun g hg => hu2.block g (HO1.out.lt g hg).2 (fun e => by injection e with e; have := (HO1.out.lt g hg).1; have := HH.out.2.1 n hd1; omega)), by rw [HR2.out]; exact hn2, ⟨hg2.1, fun i hi => (hg2.2 i hi).imp id (fun h => by omega)⟩, (Chg.of_below HB1.out).same (Chg.upd hu2 hd1), fun g hg hd => by
        have hl := HO1.out.lt g hg
        rcases hg2.2 g hd with h | h
        · have := HH.out.2.1 g h; omega
        · omega⟩)
      clear hn2 hg2 hu2
      go_wp2
      go_ret3
      obtain ⟨D', hP⟩ := HP.out
      exact ⟨b, D', rfl, hP⟩
    · have hr := HR.out
      rw [hst, if_pos rfl] at hr
      have HR2 := hid hr
      clear hr hin HLO
      go_enter Tryz.func37, Tryz.ntmps37
      go_wp2_with fail
      refine HLK.out.mono ?_
      rintro e w1 ⟨b, rfl, ho1, hb1⟩
      have HP := hid (show Own8 w1 w.heap.size b l ∧ NetP w1 D n r ∧ Grow w D D ∧ Chg D w w1 ∧ ∀ g, b.ownBlock = some g → ¬ D g from ⟨ho1, by rw [HR2.out]; exact HH.out.below hb1, Grow.refl _ _, Chg.of_below hb1, fun g hg hd => by have := ho1.lt g hg; have := HH.out.2.1 g hd; omega⟩)
      clear hb1 ho1
      go_wp2
      go_ret3
      exact ⟨b, D, rfl, HP.out⟩
  · have hr := HR.out
    have hr2 : r = L := by
      rw [hr]
      split
      · rfl
      · unfold dropN; rw [hin]; rfl
    have HR2 := hid hr2
    clear hr hin hr2
    go_enter Tryz.func37, Tryz.ntmps37
    go_wp2_with fail
    refine HLK.out.mono ?_
    rintro e w1 ⟨b, rfl, ho1, hb1⟩
    have HP := hid (show Own8 w1 w.heap.size b l ∧ NetP w1 D n r ∧ Grow w D D ∧ Chg D w w1 ∧ ∀ g, b.ownBlock = some g → ¬ D g from ⟨ho1, by rw [HR2.out]; exact HH.out.below hb1, Grow.refl _ _, Chg.of_below hb1, fun g hg hd => by have := ho1.lt g hg; have := HH.out.2.1 g hd; omega⟩)
    clear hb1 ho1
    go_wp2
    go_ret3
    exact ⟨b, D, rfl, HP.out⟩
theorem dropP_any (D : Nat → Prop) (n : Nat) (L : List PK) (p : Int) (w : World) (h : NetP w D n L) (hd : ∀ x ∈ L, x.2.2.length ≤ 1000) (hL : L.length ≤ 1000) :
    Calls Tryz.prog 38 #[.pointer (some ⟨n, 0, none⟩), .int .i64 p] w (SendP D n (dropN L p, (lookN L p).2) w) := by
  have HT := hid (takeP_any D n L p false w h hd hL)
  clear h
  go_enter Tryz.func38, Tryz.ntmps38
  go_wp2_with fail
  refine HT.out.mono ?_
  rintro e w1 ⟨b, D', rfl, -, hn, hg, hc, -⟩
  rw [if_neg (by simp)] at hn
  have HQ := hid (show NetQ D n (dropN L p) w w1 from ⟨D', hn, hg, hc⟩)
  clear hn hg hc
  go_wp2
  go_ret
  exact ⟨rfl, HQ.out⟩
end Go.Proofs.YtkgifbnkkmeoiaaGreatDoor
