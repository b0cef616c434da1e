/- 4 texts of this claim, in build order. -/
import Derived.Test.YteebgmhdikcnnaaPjojobbed
import Derived.Test.YteebgmhdikcnnaaPnkcnobfn
import Derived.WalkLawsBesides
import Derived.Maps.OwnSet
/- The program's Send, Take, Drop: the walks. -/
namespace Go.Proofs.Yteebgmhdikcnnaa
open Go.ChangeShapes Go.WideShapes Go.ChangeAt Go.RowKit
set_option linter.unusedVariables false
set_option linter.unusedSimpArgs false

theorem cells_new_at (w : World) (vs : Array Value) (t : TypeId) {N : Nat} (hN : w.heap.size = N) : ∀ j u, vs.toList[j]? = some u → (w.alloc (.cells vs t)).cell? ((⟨N, 0, none⟩ : Addr).add j) = some u := by
  subst hN
  intro j u hu
  have e : (⟨w.heap.size, 0, none⟩ : Addr).add j = ⟨w.heap.size, j, none⟩ := by unfold Addr.add; split <;> simp_all
  rw [e, World.cell?_alloc_at _ _ _ _ rfl]
  simpa using hu
def SendP (D : Nat → Prop) (n : Nat) (r : List PK × Int) (w : World) (e : Ending) (w' : World) : Prop := e = .returned (.int .i64 r.2) ∧ NetQ D n r.1 w w'
theorem NetQ.same {D : Nat → Prop} {n : Nat} {L : List PK} {w w' : World} (h : NetP w D n L) (hq : Qu w w') : NetQ D n L w w' := ⟨D, h.qu hq, Grow.refl _ _, Chg.of_qu hq⟩
theorem NetQ.lose {D D1 D2 : Nat → Prop} {n : Nat} {L : List PK} {w w1 w2 : World} (h1 : D n) (hg : Grow w D D1) (hc : Chg D w w1) (h : NetP w2 D2 n L) (hg2 : Grow w1 D1 D2) (hu : Upd n w1 w2) : NetQ D n L w w2 :=
  ⟨D2, h, hg.trans hg2 hc.size, hc.same (Chg.upd hu h1)⟩
set_option maxRecDepth 100000 in
set_option maxHeartbeats 3200000 in
theorem sendP_any (D : Nat → Prop) (n : Nat) (L : List PK) (f t : Int) (v : Value) (b : List UInt8) (w : World) (h : NetP w D n L) (hL : L.length ≤ 160) (hv : Sl w w.heap.size v (bvals b)) (hb : b.length ≤ 1000) :
    Calls Try.prog 16 #[.pointer (some ⟨n, 0, none⟩), .int .i64 f, .int .i64 t, v] w (SendP D n (sendN L f t b) w) := by
  obtain ⟨i0, hi, hz0, hz1, hzb⟩ := info_parts info_pk
  have hcs : ¬ (1 ≤ f ∧ f ≤ 7) ∨ ((1 ≤ f ∧ f ≤ 7) ∧ ¬ (1 ≤ t ∧ t ≤ 7)) ∨ ((1 ≤ f ∧ f ≤ 7) ∧ (1 ≤ t ∧ t ≤ 7) ∧ f = t) ∨ ((1 ≤ f ∧ f ≤ 7) ∧ (1 ≤ t ∧ t ≤ 7) ∧ f ≠ t) := by omega
  have HN1 := hid (fun w => number_any f 1 7 w)
  have HN2 := hid (fun w => number_any t 1 7 w)
  have HV := hid hv
  have HH := hid h
  obtain ⟨K, kc, e1, -, -, -⟩ := hv
  rw [bvals_len] at e1
  subst e1
  have hno : mayN f t = false → sendN L f t b = (L, 1) := fun h => by unfold sendN; rw [h]; rfl
  have hnoi : ¬ (1 ≤ f ∧ f ≤ 7 ∧ 1 ≤ t ∧ t ≤ 7 ∧ f ≠ t) → sendN L f t b = (L, 1) := fun h => hno (by unfold mayN; exact decide_eq_false h)
  rcases hcs with h1 | ⟨h1, h2⟩ | ⟨h1, h2, h3⟩ | ⟨h1, h2, h3⟩
  · rw [hnoi (by omega)]
    rw [decide_eq_false h1] at HN1
    clear h1 hno hnoi h
    go_enter Try.func16, Try.ntmps16
    go_wp2_with fail
    refine (HN1.out w).mono ?_
    rintro e w1 ⟨rfl, hq1⟩
    have HQ := hid hq1; clear hq1
    go_wp2
    go_ret
    exact ⟨rfl, NetQ.same HH.out HQ.out⟩
  · rw [hnoi (by omega)]
    rw [decide_eq_true h1] at HN1
    rw [decide_eq_false h2] at HN2
    clear h1 h2 hno hnoi h
    go_enter Try.func16, Try.ntmps16
    go_wp2_with fail
    refine (HN1.out w).mono ?_
    rintro e w1 ⟨rfl, hq1⟩
    go_wp2_with fail
    refine (HN2.out w1).mono ?_
    rintro e w2 ⟨rfl, hq2⟩
    have HQ := hid (hq1.trans hq2); clear hq1 hq2
    go_wp2
    go_ret
    exact ⟨rfl, NetQ.same HH.out HQ.out⟩
  · rw [hnoi (by omega)]
    rw [decide_eq_true h1] at HN1
    rw [decide_eq_true h2] at HN2
    have t1 : (f == t) = true := by simp [h3]
    clear h1 h2 h3 hno hnoi h
    go_enter Try.func16, Try.ntmps16
    go_wp2_with fail
    refine (HN1.out w).mono ?_
    rintro e w1 ⟨rfl, hq1⟩
    go_wp2_with fail
    refine (HN2.out w1).mono ?_
    rintro e w2 ⟨rfl, hq2⟩
    have HQ := hid (hq1.trans hq2); clear hq1 hq2
    go_wp2
    go_ret
    exact ⟨rfl, NetQ.same HH.out HQ.out⟩
  · have hse : sendN L f t b = (if 160 < L.length + 1 then (L ++ [(f, t, b)]).drop 1 else L ++ [(f, t, b)], 0) := by unfold sendN mayN; rw [if_pos (decide_eq_true (by omega))]
    rw [hse]
    obtain ⟨r, hr⟩ : ∃ r, r = if 160 < L.length + 1 then (L ++ [(f, t, b)]).drop 1 else L ++ [(f, t, b)] := ⟨_, rfl⟩
    rw [← hr]
    have HR := hid hr
    clear hr
    rw [decide_eq_true h1] at HN1
    rw [decide_eq_true h2] at HN2
    have t1 : (f == t) = false := by simpa using h3
    clear h1 h2 h3 hno hnoi h hse
    go_enter Try.func16, Try.ntmps16
    go_wp2_with fail
    refine (HN1.out w).mono ?_
    rintro e w1 ⟨rfl, hq1⟩
    go_wp2_with fail
    refine (HN2.out w1).mono ?_
    rintro e w2 ⟨rfl, hq2⟩
    have hq12 := hq1.trans hq2
    have hnet := HH.out.qu hq12
    have hz2 : w2.heap.size = w.heap.size := by obtain ⟨q, rfl⟩ := hq12; rfl
    have HG2 := hid (fun (D' : Nat → Prop) (h : Grow w2 D D') => show Grow w D D' from ⟨h.1, fun k hk => (h.2 k hk).imp id (fun h => by omega)⟩)
    have HCH := hid (fun (w' : World) (h : Chg D w2 w') => show Chg D w w' from (Chg.of_qu hq12).same h)
    have HCB := hid (fun W (hq : Qu w2 W) => clone_any (.slice K b.length kc) b W ((HV.out.qu' (hq12.trans hq)).more (by obtain ⟨q, rfl⟩ := hq12.trans hq; exact Nat.le_refl _)) (by omega))
    obtain ⟨d1, d2, d3, u, es, d4, d5, d6, d7⟩ := hnet
    obtain ⟨A, c, rfl⟩ := own_formN d5
    have hnl := d2 n d1
    have HD2 := hid d2; have HD5 := hid d5; have HD6 := hid d6; have HD7 := hid d7
    clear hq1 hq2 hq12 d2 d5 d6 d7
    go_wp2
    go_region_law (first
      | (refine step_append_lies _ (by rfl) (.tmp 26) (.tmp 32) 47 (by rfl) 0 69 i0 (.agg #[.int .i64 0, .int .i64 0, .slice none 0 0]) 3 40 Try.underlying47 hi hz0 hz1 hzb rfl (by omega) _ L.length (flatP es) (by rfl) (O5.out.alloc _) ⟨w5.heap.size, 0, none⟩ 1 1 [.int .i64 f, .int .i64 t, .slice C b.length cc] (by rfl) rfl HNA.out (by intro u hu; simp at hu; rcases hu with rfl | rfl | rfl <;> rfl) (by omega) (by unfold maxLen; omega) (by omega) (by omega) (w5.heap.size + 1) (by simp) ?_; intro g cap w6 ho6 hg6 hat6 hlt6; obtain ⟨m1, m2, hnq⟩ := netP_app d1 HD2.out d3 d4 HD6.out HD7.out HB5.out HC5.out ho6 hg6 hat6; have HNQ := hid hnq; clear ho6 hg6 hat6 hlt6 hnq)
      | (go_simp; go_at_call 31; refine (HCB.out _ ⟨1, rfl⟩).mono ?_; rintro en w5 ⟨cv, rfl, hc5, hb5⟩; have HB5 := hid (show Below w2.heap.size w2 w5 from (Below.refl _ _).drew.trans hb5); obtain ⟨C, cc, rfl⟩ := own_formN hc5; have HC5 := hid (show w5.ownsRow w2.heap.size 5 1 (.slice C b.length cc) b.length (bvals b) from hc5); have O5 := hid (own_kept HD5.out (fun g hg => HB5.out.block g (HD2.out g (HD6.out g hg).1))); have HNA := hid (show ∀ j u, [Value.int .i64 f, .int .i64 t, .slice C b.length cc][j]? = some u → (w5.alloc (.cells #[.int .i64 f, .int .i64 t, .slice C b.length cc] 69)).cell? ((⟨w5.heap.size, 0, none⟩ : Addr).add j) = some u from cells_new_at w5 _ _ rfl); have m0 := cellK HB5.out hnl d4; have z5 := HB5.out.size; have m4 := cell_alloc (o := .cells #[.int .i64 f, .int .i64 t, .slice C b.length cc] 69) (show n < w5.heap.size by omega) m0; clear hc5 hb5))
    all_goals
      obtain ⟨D7, hn7, hg7, hc7⟩ := HNQ.out
      obtain ⟨w7, hw7⟩ : ∃ w', w' = w6.setCell ⟨n, 0, none⟩ (.slice (some ⟨g, 0, none⟩) (L.length + 1) cap) := ⟨_, rfl⟩
      have y7 : w7.cell? ⟨n, 0, none⟩ = some (.slice (some ⟨g, 0, none⟩) (L.length + 1) cap) := by rw [hw7]; exact cell_here m1
      rw [← hw7] at hn7 hc7
      have HN7 := hid hn7; have HG7 := hid (HG2.out D7 hg7); have HC7 := hid (HCH.out w7 hc7)
      have HW7 := hid hw7
      have hll : (L ++ [(f, t, b)]).length = L.length + 1 := by rw [List.length_append]; rfl
      rw [← HW7.out]
      clear hn7 hg7 hc7 hw7 m0 m4 m1 m2
      by_cases h160 : 160 < L.length + 1
      · have hr := HR.out
        rw [if_pos h160] at hr
        have HLO := hid (lose_any D7 n (L ++ [(f, t, b)]) 0 w7 HN7.out (by omega) (by omega))
        have HR2 := hid hr
        clear hr hll
        go_wp2_with fail
        refine HLO.out.mono ?_
        rintro e w8 ⟨D8, rfl, hn8, hg8, hu8⟩
        have HP := hid (show SendP D n (r, 0) w (.returned (.int .i64 0)) w8 by
          refine ⟨rfl, NetQ.lose d1 HG7.out HC7.out ?_ hg8 hu8⟩
          rw [HR2.out]
          simpa using hn8)
        clear hn8 hg8 hu8
        go_wp2
        go_ret
        exact HP.out
      · have hr := HR.out
        rw [if_neg h160] at hr
        have HR2 := hid hr
        clear hr hll
        go_wp2
        go_ret
        exact ⟨rfl, D7, by rw [HR2.out]; exact HN7.out, HG7.out, HC7.out⟩
/-! ### Take, Drop -/
def TakeP (D : Nat → Prop) (n : Nat) (L : List PK) (p : Int) (stays : Bool) (w : World) (e : Ending) (w' : World) : Prop :=
  ∃ b D', e = .returned (.tuple #[.int .i64 (lookN L p).1.2.1, b, .int .i64 (lookN L p).2]) ∧ Own8 w' w.heap.size b (lookN L p).1.2.2 ∧ NetP w' D' n (if stays = true then L else dropN L p) ∧ Grow w D D' ∧ Chg D w w' ∧ ∀ g, b.ownBlock = some g → ¬ D' g
set_option maxRecDepth 100000 in
set_option maxHeartbeats 1600000 in
theorem takeP_any (D : Nat → Prop) (n : Nat) (L : List PK) (p : Int) (stays : Bool) (w : World) (h : NetP w D n L) (hd : ∀ x ∈ L, x.2.2.length ≤ 1000) (hL : L.length ≤ 1000) :
    Calls Try.prog 18 #[.pointer (some ⟨n, 0, none⟩), .int .i64 p, .bool stays] w (TakeP D n L p stays w) := by
  have HLK := hid (lookP_any D n L p w h hd)
  have HH := hid h
  have hd1 := h.1
  obtain ⟨r, hr⟩ : ∃ r, r = if stays = true then L else dropN L p := ⟨_, rfl⟩
  unfold TakeP
  rw [← hr]
  have hloc : (inN L p = true ∧ ∃ k : Nat, p = (k : Int) ∧ k < L.length ∧ (lookN L p).2 = 0) ∨ (inN L p = false ∧ (lookN L p).2 = 33) := by
    cases hin : inN L p
    · exact .inr ⟨rfl, by unfold lookN; rw [hin]; rfl⟩
    · have hp : 0 ≤ p ∧ p < (L.length : Int) := by unfold inN at hin; exact of_decide_eq_true hin
      exact .inl ⟨rfl, p.toNat, by omega, by omega, by unfold lookN; rw [hin]; rfl⟩
  have HR := hid hr
  clear hr h
  generalize hlk : lookN L p = x at *
  obtain ⟨⟨f, t, l⟩, er⟩ := x
  simp only at hloc HLK ⊢
  clear hlk
  rcases hloc with ⟨hin, k, rfl, hk, rfl⟩ | ⟨hin, rfl⟩
  · have HLO := hid (fun W (hb : Below w.heap.size w W) => lose_any D n L k W (HH.out.below hb) hk hL)
    cases hst : stays
    · have hr := HR.out
      rw [hst] at hr
      rw [if_neg (by simp)] at hr
      unfold dropN at hr
      rw [if_pos hin, Int.toNat_natCast] at hr
      have HR2 := hid hr
      clear hr hin
      go_enter Try.func18, Try.ntmps18
      go_wp2_with fail
      refine HLK.out.mono ?_
      rintro e w1 ⟨b, rfl, ho1, hb1⟩
      have HB1 := hid hb1; have HO1 := hid ho1
      have HLO1 := hid (HLO.out w1 hb1)
      have hz1 := hb1.size
      clear hb1 ho1
      go_wp2_with fail
      refine HLO1.out.mono ?_
      rintro e w2 ⟨D2, rfl, hn2, hg2, hu2⟩
      have HP := hid (show ∃ D', Own8 w2 w.heap.size b l ∧ NetP w2 D' n r ∧ Grow w D D' ∧ Chg D w w2 ∧ ∀ g, b.ownBlock = some g → ¬ D' g from ⟨D2, own_kept HO1.out (fun g hg => hu2.block g (HO1.out.lt g hg).2 (fun e => by injection e with e; have := (HO1.out.lt g hg).1; have := HH.out.2.1 n hd1; omega)), by rw [HR2.out]; exact hn2, ⟨hg2.1, fun i hi => (hg2.2 i hi).imp id (fun h => by omega)⟩, (Chg.of_below HB1.out).same (Chg.upd hu2 hd1), fun g hg hd => by
        have hl := HO1.out.lt g hg
        rcases hg2.2 g hd with h | h
        · have := HH.out.2.1 g h; omega
        · omega⟩)
      clear hn2 hg2 hu2
      go_wp2
      go_ret3
      obtain ⟨D', hP⟩ := HP.out
      exact ⟨b, D', rfl, hP⟩
    · have hr := HR.out
      rw [hst, if_pos rfl] at hr
      have HR2 := hid hr
      clear hr hin HLO
      go_enter Try.func18, Try.ntmps18
      go_wp2_with fail
      refine HLK.out.mono ?_
      rintro e w1 ⟨b, rfl, ho1, hb1⟩
      have HP := hid (show Own8 w1 w.heap.size b l ∧ NetP w1 D n r ∧ Grow w D D ∧ Chg D w w1 ∧ ∀ g, b.ownBlock = some g → ¬ D g from ⟨ho1, by rw [HR2.out]; exact HH.out.below hb1, Grow.refl _ _, Chg.of_below hb1, fun g hg hd => by have := ho1.lt g hg; have := HH.out.2.1 g hd; omega⟩)
      clear hb1 ho1
      go_wp2
      go_ret3
      exact ⟨b, D, rfl, HP.out⟩
  · have hr := HR.out
    have hr2 : r = L := by
      rw [hr]
      split
      · rfl
      · unfold dropN; rw [hin]; rfl
    have HR2 := hid hr2
    clear hr hin hr2
    go_enter Try.func18, Try.ntmps18
    go_wp2_with fail
    refine HLK.out.mono ?_
    rintro e w1 ⟨b, rfl, ho1, hb1⟩
    have HP := hid (show Own8 w1 w.heap.size b l ∧ NetP w1 D n r ∧ Grow w D D ∧ Chg D w w1 ∧ ∀ g, b.ownBlock = some g → ¬ D g from ⟨ho1, by rw [HR2.out]; exact HH.out.below hb1, Grow.refl _ _, Chg.of_below hb1, fun g hg hd => by have := ho1.lt g hg; have := HH.out.2.1 g hd; omega⟩)
    clear hb1 ho1
    go_wp2
    go_ret3
    exact ⟨b, D, rfl, HP.out⟩
theorem dropP_any (D : Nat → Prop) (n : Nat) (L : List PK) (p : Int) (w : World) (h : NetP w D n L) (hd : ∀ x ∈ L, x.2.2.length ≤ 1000) (hL : L.length ≤ 1000) :
    Calls Try.prog 22 #[.pointer (some ⟨n, 0, none⟩), .int .i64 p] w (SendP D n (dropN L p, (lookN L p).2) w) := by
  have HT := hid (takeP_any D n L p false w h hd hL)
  clear h
  go_enter Try.func22, Try.ntmps22
  go_wp2_with fail
  refine HT.out.mono ?_
  rintro e w1 ⟨b, D', rfl, -, hn, hg, hc, -⟩
  rw [if_neg (by simp)] at hn
  have HQ := hid (show NetQ D n (dropN L p) w w1 from ⟨D', hn, hg, hc⟩)
  clear hn hg hc
  go_wp2
  go_ret
  exact ⟨rfl, HQ.out⟩
end Go.Proofs.Yteebgmhdikcnnaa
/- The program's Way. -/
namespace Go.Proofs.Yteebgmhdikcnnaa
open Go.ChangeShapes Go.WideShapes Go.ChangeAt Go.RowKit
set_option linter.unusedVariables false
set_option linter.unusedSimpArgs false

def wayK (L : List PK) (f t : Int) (k : Nat) : List Int := ((List.range k).filter fun i => decide ((L.getD i zP).1 = f ∧ (L.getD i zP).2.1 = t)).map fun (i : Nat) => (i : Int)
def wayN (L : List PK) (f t : Int) : List Int := wayK L f t L.length
theorem wayK_succ (L : List PK) (f t : Int) (k : Nat) : wayK L f t (k + 1) = wayK L f t k ++ (if (L.getD k zP).1 = f ∧ (L.getD k zP).2.1 = t then [(k : Int)] else []) := by
  unfold wayK
  rw [List.range_succ, List.filter_append, List.map_append]
  congr 1
  by_cases h : (L.getD k zP).1 = f ∧ (L.getD k zP).2.1 = t
  · rw [if_pos h, List.filter_cons_of_pos (by exact decide_eq_true h)]; rfl
  · rw [if_neg h, List.filter_cons_of_neg (by rw [decide_eq_false h]; simp)]; rfl
theorem wayK_len (L : List PK) (f t : Int) (k : Nat) : (wayK L f t k).length ≤ k := by
  unfold wayK
  rw [List.length_map]
  exact Nat.le_trans (List.length_filter_le _ _) (by simp)
def IntsP (xs : List Int) (w : World) (e : Ending) (w' : World) : Prop := ∃ v, e = .returned v ∧ w'.ownsRow w.heap.size 3 1 v xs.length (ivals xs) ∧ Below w.heap.size w w'
def WayRel (L : List PK) (f t : Int) (w : World) (out i : Value) (wr : World) : Prop := ∃ k : Nat, k ≤ L.length ∧ i = .int .i64 k ∧ wr.ownsRow w.heap.size 3 1 out (wayK L f t k).length (ivals (wayK L f t k)) ∧ Below w.heap.size w wr
set_option maxRecDepth 100000 in
set_option maxHeartbeats 1600000 in
theorem wayP_any (D : Nat → Prop) (n : Nat) (L : List PK) (f t : Int) (w : World) (h : NetP w D n L) (hL : L.length ≤ 1000) :
    Calls Try.prog 11 #[.pointer (some ⟨n, 0, none⟩), .int .i64 f, .int .i64 t] w (IntsP (wayN L f t) w) := by
  obtain ⟨i0, hi, hz0, hz1, hz2⟩ := info_parts info_int
  obtain ⟨h1, h2, h3, v, es, h4, h5, -, h7⟩ := h
  have hnl := h2 n h1
  have HEL := hid (fun k (hk : k < L.length) => pk_elem (RowA.of_own h5) h7 hk)
  obtain ⟨A, c, rfl⟩ := own_formN h5
  clear h2 h5 h7
  go_enter Try.func11, Try.ntmps11
  go_wp2
  go_loopw [7, 15] (fun out i wr => WayRel L f t w out i wr) (fun _ i _ => L.length - (intOf i).toNat)
  case atStart => exact ⟨0, by omega, rfl, World.ownsRow_nil _ _ _ _, Below.refl _ _⟩
  case round =>
    obtain ⟨k, hk, rfl, ho, hb⟩ := hrel
    have hsb := hb.size
    by_cases hlt : k < L.length
    · obtain ⟨g, off, cap, C, cc, e, -, hg, hlc, hcm, q0, q1, q2, -⟩ := HEL.out k hlt
      injection e with e1 _ e3
      subst e1; subst e3
      have q0 := cellK hb hg q0
      have q1 := cellK hb hg q1
      have q2 := cellK hb hg q2
      have hws := wayK_succ L f t k
      have hwl := wayK_len L f t k
      generalize (L.getD k zP).2.2.length = dl at *
      generalize (L.getD k zP).1 = x1 at *
      generalize (L.getD k zP).2.1 = x2 at *
      have HWS := hid hws; have HO := hid ho; have HB := hid hb
      obtain ⟨W1, hW1⟩ : ∃ W', W' = wr.alloc (.cells #[.int .i64 x1, .int .i64 x2, .slice C dl cc] 69) := ⟨_, rfl⟩
      have y0 : W1.cell? ⟨wr.heap.size, 0, none⟩ = some (.int .i64 x1) := by rw [hW1]; simp [go_sem]
      have y1 : W1.cell? ⟨wr.heap.size, 1, none⟩ = some (.int .i64 x2) := by rw [hW1]; simp [go_sem]
      have hb1 : Below wr.heap.size wr W1 := by rw [hW1]; exact bl1 _ _
      have hz1' : W1.heap.size = wr.heap.size + 1 := by rw [hW1]; simp
      have HB1 := hid (hb.trans (hb1.mono hsb)); have HW1 := hid hW1
      have HO1 := hid (own_kept ho (fun g hg => hb1.block g (ho.lt g hg).2))
      clear hws ho hb hb1 hW1
      unfold maxLen at hcm
      by_cases hm : x1 = f ∧ x2 = t
      · have t1 : (x1 == f) = true := by simp [hm.1]
        have t2 : (x2 == t) = true := by simp [hm.2]
        have hws := HWS.out
        rw [if_pos hm] at hws
        have HWS2 := hid hws
        clear hws hm
        go_upto_region 5 with (fail)
        rw [← HW1.out]
        go_wp2_with (at_builtin; refine stop_here ?_)
        refine go_on ?_
        refine app_own_at (.tmp 30) (.tmp 32) 39 39 rfl rfl w.heap.size 3 i0 (.int .i64 0) 1 8 Try.underlying39 hi hz0 hz1 hz2 rfl (by decide) _ _ _ rfl (HO1.out.alloc _) (.slice (some ⟨wr.heap.size + 1, 0, none⟩) 1 1) 1 [.int .i64 k] rfl (Src.ofSlice _ Try.underlying39 _ 1 1 _ rfl (cells_new_at _ _ _ hz1') (by simp; rfl)) (by simp only [maxLen]; omega) (by omega) (by rw [World.size_alloc]; omega) ?_
        intro v8 w8 hown8 hg8 hb8 hat8
        have hown9 : w8.ownsRow w.heap.size 3 1 v8 (wayK L f t (k + 1)).length (ivals (wayK L f t (k + 1))) := by
          rw [HWS2.out, List.length_append, show ivals (wayK L f t k ++ [(k : Int)]) = ivals (wayK L f t k) ++ [.int .i64 k] by simp [ivals]]
          exact hown8
        have HO8 := hid hown9
        have HB8 := hid ((HB1.out.alloc (by omega) _).trans hb8)
        clear hown8 hown9 hg8 hb8 hat8
        go_wp2
        go_roundw
        case rel => exact ⟨k + 1, by omega, by go_num, HO8.out, HB8.out⟩
        case measure => simp [intOf]; omega
      · have hws := HWS.out
        rw [if_neg hm, List.append_nil] at hws
        have HWS2 := hid hws
        clear hws
        have hc2 : (x1 ≠ f) ∨ (x1 = f ∧ x2 ≠ t) := by
          by_cases h : x1 = f
          · exact .inr ⟨h, fun h' => hm ⟨h, h'⟩⟩
          · exact .inl h
        clear hm
        rcases hc2 with hc2 | ⟨hc1, hc2⟩
        · have t1 : (x1 == f) = false := by simpa using hc2
          clear hc2
          go_upto_region 5 with (fail)
          rw [← HW1.out]
          go_wp2
          go_roundw
          case rel => exact ⟨k + 1, by omega, by go_num, by rw [HWS2.out]; exact HO1.out, HB1.out⟩
          case measure => simp [intOf]; omega
        · have t1 : (x1 == f) = true := by simp [hc1]
          have t2 : (x2 == t) = false := by simpa using hc2
          clear hc1 hc2
          go_upto_region 5 with (fail)
          rw [← HW1.out]
          go_wp2
          go_roundw
          case rel => exact ⟨k + 1, by omega, by go_num, by rw [HWS2.out]; exact HO1.out, HB1.out⟩
          case measure => simp [intOf]; omega
    · obtain rfl : k = L.length := by omega
      have HO := hid ho; have HB := hid hb
      clear ho hb
      go_wp2
      go_ret
      exact ⟨_, rfl, HO.out, HB.out⟩
end Go.Proofs.Yteebgmhdikcnnaa
/- The few floats of the net's links: their bits, and what the machine does with them. -/
namespace Go.Proofs.Yteebgmhdikcnnaa
open Go.ChangeShapes Go.WideShapes Go.ChangeAt Go.RowKit
set_option linter.unusedVariables false
set_option linter.unusedSimpArgs false

/-- The bits of the float of a small number. -/
def FB (n : Nat) : Nat := if n = 1 then 4607182418800017408 else if n = 2 then 4611686018427387904 else if n = 3 then 4613937818241073152 else if n = 4 then 4616189618054758400 else if n = 5 then 4617315517961601024 else if n = 6 then 4618441417868443648 else if n = 7 then 4619567317775286272 else 0
theorem le7 {n : Nat} (h : 1 ≤ n) (h7 : n ≤ 7) : n = 1 ∨ n = 2 ∨ n = 3 ∨ n = 4 ∨ n = 5 ∨ n = 6 ∨ n = 7 := by omega
theorem conv_to {n : Nat} (h : 1 ≤ n) (h7 : n ≤ 7) (w : World) : (convert 3 75 (.int .i64 n)).run Try.prog w = .ok (.float .f64 (FB n)) w := by
  rcases le7 h h7 with rfl | rfl | rfl | rfl | rfl | rfl | rfl <;> kernel_rfl
theorem conv_of {n : Nat} (h : 1 ≤ n) (h7 : n ≤ 7) (w : World) : (convert 75 3 (.float .f64 (FB n))).run Try.prog w = .ok (.int .i64 n) w := by
  rcases le7 h h7 with rfl | rfl | rfl | rfl | rfl | rfl | rfl <;> kernel_rfl
theorem float_lt {n m : Nat} (h : 1 ≤ n) (h7 : n ≤ 7) (k : 1 ≤ m) (k7 : m ≤ 7) (w : World) : (binOp .lss 75 (.float .f64 (FB n)) (.float .f64 (FB m))).run Try.prog w = .ok (.bool (decide (n < m))) w := by
  rcases le7 h h7 with rfl | rfl | rfl | rfl | rfl | rfl | rfl <;> rcases le7 k k7 with rfl | rfl | rfl | rfl | rfl | rfl | rfl <;> kernel_rfl
theorem float_gt {n m : Nat} (h : 1 ≤ n) (h7 : n ≤ 7) (k : 1 ≤ m) (k7 : m ≤ 7) (w : World) : (binOp .gtr 75 (.float .f64 (FB n)) (.float .f64 (FB m))).run Try.prog w = .ok (.bool (decide (m < n))) w := by
  rcases le7 h h7 with rfl | rfl | rfl | rfl | rfl | rfl | rfl <;> rcases le7 k k7 with rfl | rfl | rfl | rfl | rfl | rfl | rfl <;> kernel_rfl
theorem float_ne {n : Nat} (h : 1 ≤ n) (h7 : n ≤ 7) (w : World) : (binOp .neq 75 (.float .f64 (FB n)) (.float .f64 (FB n))).run Try.prog w = .ok (.bool false) w := by
  rcases le7 h h7 with rfl | rfl | rfl | rfl | rfl | rfl | rfl <;> kernel_rfl
theorem cmake (a b : Nat) (w : World) : (Builtin.complex_ #[75, 75] 70 #[.float .f64 a, .float .f64 b]).run Try.prog w = .ok (.complex .f64 a b) w := by
  kernel_rfl
end Go.Proofs.Yteebgmhdikcnnaa
/- A map from complex numbers to bools: what was laid in is found. -/
namespace Go.Proofs.Yteebgmhdikcnnaa
open Go.ChangeShapes Go.WideShapes Go.ChangeAt Go.RowKit Go.Maps
open Go.ChangeMaps (setBlock)
set_option linter.unusedVariables false
set_option linter.unusedSimpArgs false

abbrev G2 := Nat × Nat
def CV (x : G2) : Value := .complex .f64 (FB x.1) (FB x.2)
def inG (x : G2) : Prop := (1 ≤ x.1 ∧ x.1 ≤ 7) ∧ 1 ≤ x.2 ∧ x.2 ≤ 7
theorem feq {n m : Nat} (h : 1 ≤ n) (h7 : n ≤ 7) (k : 1 ≤ m) (k7 : m ≤ 7) : Op.floatEq .f64 (FB n) (FB m) = decide (n = m) := by
  rcases le7 h h7 with rfl | rfl | rfl | rfl | rfl | rfl | rfl <;> rcases le7 k k7 with rfl | rfl | rfl | rfl | rfl | rfl | rfl <;> kernel_rfl
theorem equal_run {x y : G2} (hx : inG x) (hy : inG y) (w : World) : (Op.equal 70 (CV x) (CV y)).run Try.prog w = .ok (decide (x = y)) w := by
  obtain ⟨x1, x2⟩ := x
  obtain ⟨y1, y2⟩ := y
  have e1 := feq hx.1.1 hx.1.2 hy.1.1 hy.1.2
  have e2 := feq hx.2.1 hx.2.2 hy.2.1 hy.2.2
  simp only at e1 e2
  show (Op.equalIn (9999 + 1) _ _ _).run _ _ = _
  rw [Op.equalIn]
  simp [run_underlying Try.underlying70, CV, e1, e2]
/-- The entries, in the order in which they were laid in. -/
def entG : Nat → List G2 → List MapEntry
  | _, [] => []
  | i, x :: S => ⟨CV x, .bool true, i⟩ :: entG (i + 1) S
theorem entG_snoc (x : G2) : ∀ (i : Nat) (S : List G2), entG i (S ++ [x]) = entG i S ++ [⟨CV x, .bool true, i + S.length⟩]
  | i, [] => rfl
  | i, y :: S => by
    show _ :: entG (i + 1) (S ++ [x]) = _
    rw [entG_snoc x (i + 1) S]
    simp [entG, Nat.add_comm, Nat.add_left_comm]
theorem asking_run {x : G2} (hx : inG x) (w : World) : ∀ (S : List G2) (i k : Nat), (∀ y ∈ S, inG y) → ∃ r, (Instr.findAsking 70 (CV x) (entG i S) k).run Try.prog w = .ok r w ∧ (x ∈ S → ∃ j, r = some (j, .bool true)) ∧ (x ∉ S → r = none)
  | [], i, k, _ => ⟨none, rfl, fun h => by simp at h, fun _ => rfl⟩
  | y :: S, i, k, h => by
    have he := equal_run hx (h y List.mem_cons_self) w
    by_cases e : x = y
    · subst e
      rw [decide_eq_true rfl] at he
      refine ⟨some (k, .bool true), ?_, fun _ => ⟨k, rfl⟩, fun hn => absurd List.mem_cons_self hn⟩
      show (Instr.findAsking _ _ (_ :: _) _).run _ _ = _
      unfold Instr.findAsking
      simp [he]
    · obtain ⟨r, h1, h2, h3⟩ := asking_run hx w S (i + 1) (k + 1) (fun z hz => h z (List.mem_cons_of_mem _ hz))
      refine ⟨r, ?_, fun hm => h2 ((List.mem_cons.1 hm).resolve_left e), fun hn => h3 (fun hm => hn (List.mem_cons_of_mem _ hm))⟩
      show (Instr.findAsking _ _ (_ :: _) _).run _ _ = _
      unfold Instr.findAsking
      simp [he, e, h1]
theorem find_run {x : G2} (hx : inG x) (w : World) (S : List G2) (h : ∀ y ∈ S, inG y) : ∃ r, (Instr.findKey 70 (CV x) (entG 0 S)).run Try.prog w = .ok r w ∧ (x ∈ S → ∃ j, r = some (j, .bool true)) ∧ (x ∉ S → r = none) := by
  cases S with
  | nil => exact ⟨none, by simp [Instr.findKey, run_underlying Try.underlying70, entG, Instr.findNow], fun h => by simp at h, fun _ => rfl⟩
  | cons y S =>
    obtain ⟨r, h1, h2, h3⟩ := asking_run hx w (y :: S) 0 0 h
    refine ⟨r, ?_, h2, h3⟩
    rw [← h1]
    simp [Instr.findKey, run_underlying Try.underlying70, entG, Instr.findNow, Instr.sameNow]
theorem check_run (e : Bool) (x : G2) (w : World) : (Instr.checkKey e 10000 70 (CV x)).run Try.prog w = .ok () w := by
  show (Instr.checkKey e (9999 + 1) _ _).run _ _ = _
  rw [Instr.checkKey]
  simp [run_underlying Try.underlying70, CV]
/-- The map at m holds the links S. -/
def HasM (w : World) (m : Nat) (S : List G2) : Prop := w.heap[m]? = some (.map (entG 0 S).toArray S.length) ∧ ∀ y ∈ S, inG y
theorem HasM.look {w : World} {m : Nat} {S : List G2} (h : HasM w m S) {x : G2} (hx : inG x) : (Instr.lookup 66 (.map (some m)) (CV x) false).run Try.prog w = .ok (.bool (decide (x ∈ S))) w := by
  obtain ⟨r, h1, h2, h3⟩ := find_run hx w S h.2
  by_cases hm : x ∈ S
  · obtain ⟨j, rfl⟩ := h2 hm
    simp [Instr.lookup, run_underlying Try.underlying66, MapKept.run_getObj_map h.1, check_run, h1, hm]
  · rw [h3 hm] at h1
    have hz : (zeroValue 4).run Try.prog w = .ok (.bool false) w := by kernel_rfl
    simp [Instr.lookup, run_underlying Try.underlying66, MapKept.run_getObj_map h.1, check_run, h1, hm, hz]
theorem HasM.put {w : World} {m : Nat} {S : List G2} (h : HasM w m S) {x : G2} (hx : inG x) (hn : x ∉ S) :
    ∃ w', (Instr.mapUpdate 66 (.map (some m)) (CV x) (.bool true)).run Try.prog w = .ok () w' ∧ HasM w' m (S ++ [x]) ∧ Upd m w w' := by
  obtain ⟨r, h1, h2, h3⟩ := find_run hx w S h.2
  rw [h3 hn] at h1
  have hlt : m < w.heap.size := (Array.getElem?_eq_some_iff.1 h.1).1
  refine ⟨setBlock w m (.map ((entG 0 S).toArray.push ⟨CV x, .bool true, S.length⟩) (S.length + 1)), ?_, ⟨?_, fun y hy => ?_⟩, ⟨rfl, rfl, rfl, ?_, fun k hk hne => ?_⟩⟩
  · simp [Instr.mapUpdate, run_underlying Try.underlying66, MapKept.run_getObj_map h.1, check_run, h1, MapKept.run_setObj_map _ h.1, Result.andThen, setBlock]
  · rw [entG_snoc, Nat.zero_add]
    simp [setBlock, hlt]
  · rcases List.mem_append.1 hy with hy | hy
    · exact h.2 y hy
    · rw [List.mem_singleton.1 hy]; exact hx
  · simp [setBlock]
  · have : m ≠ k := fun e => hne (by rw [e])
    simp [setBlock, Array.getElem?_setIfInBounds, this]
end Go.Proofs.Yteebgmhdikcnnaa
