/- 4 texts of this claim, in build order. -/
import Derived.Test.YtclhnnidbhchnaaPbbkgkmbm
import Derived.Test.YtclhnnidbhchnaaPfbgcnnke
import Derived.Test.YtclhnnidbhchnaaPanfhakag
import Derived.BigQuiet
import Derived.Deep.QuietTactic
/- The walk of CuboidPlays. -/
namespace Go.Proofs.Ytclhnnidbhchnaa
open Go.ChangeShapes Go.WideShapes Go.ChangeAt Go.RowKit Go.Maps
set_option linter.unusedVariables false
set_option linter.unusedSimpArgs false

theorem rowsC_of_rd {w : World} {B : Nat} {v : Value} {l : List (List Int)} (h : rdSlice 1 (rdSlice 1 rdInt) w B [v] l) : RowsI w B v l := by
  obtain ⟨A, c, e, h1, h2, h3⟩ := h
  injection e with e _
  subst e
  refine ⟨A, c, rfl, h1, h2, fun i hi => ?_⟩
  obtain ⟨b, off, e1, hb, hx⟩ := h3 (by omega)
  obtain ⟨es, q1, q2, q3⟩ := hx i l[i] (List.getElem?_eq_getElem hi)
  obtain ⟨u, rfl, hs⟩ := ints_sl q3
  refine ⟨b, off, u, e1, hb, by simpa using q2 0 u rfl, ?_⟩
  rw [show l.getD i [] = l[i] by simp [List.getD_eq_getElem?_getD, hi]]
  exact hs
theorem opens_rowsC : Opens Try.prog 33 1 (rdSlice 1 (rdSlice 1 rdInt)) := opens_slice (e := 23) (good_slice good_int) Try.underlying33 opens_intsI (by kernel_rfl) (by omega)
theorem newC_no (a b : Int) (w : World) (h : ¬ (1 ≤ a ∧ a ≤ 3 ∧ 1 ≤ b ∧ b ≤ 2)) : Calls Try.prog 21 #[.int .i64 a, .int .i64 b] w (Stays (.pointer none) w) := by
  have hc : (a < 1) ∨ (¬ a < 1 ∧ 3 < a) ∨ (¬ a < 1 ∧ ¬ 3 < a ∧ b < 1) ∨ (¬ a < 1 ∧ ¬ 3 < a ∧ ¬ b < 1 ∧ 2 < b) := by omega
  clear h
  rcases hc with h1 | ⟨h1, h2⟩ | ⟨h1, h2, h3⟩ | ⟨h1, h2, h3, h4⟩
  all_goals
    go_enter Try.func21, Try.ntmps21
    go_wp2
    go_ret
    exact ⟨rfl, Qu.refl _⟩
theorem getC_all (D : Nat → Prop) (p m W M : Nat) (L : List KC) (v : Value) (k : List Int) (w : World) (hc : CubW w D p m W M L) (hs : OkL W M L) (hv : Sl w w.heap.size v (ivals k)) (h1 : 1 ≤ W) (h3 : W ≤ 3) (hM : M ≤ 2) :
    Calls Try.prog 25 #[.pointer (some ⟨p, 0, none⟩), v] w (GetCP (getC L k) (getK L k).isSome w) := by
  cases hk : okB W k
  · have hn : getK L k = none := getK_none.2 (fun x hx e => by
      have := hs.key x hx
      rw [e] at this
      unfold okB at hk
      rw [decide_eq_false_iff_not] at hk
      exact hk this)
    have hg : getC L k = nilC := by unfold getC; rw [hn]; rfl
    rw [hn, hg]
    exact getC_no D p m W M L v k w hc hv hk
  · exact getC_yes D p m W M L v k w hc hs hv h1 h3 hM hk
def PlRel (l : List (List Int)) (w1 : World) (i : Value) (wr : World) : Prop := ∃ k : Nat, k ≤ l.length ∧ k ≤ 20 ∧ i = .int .i64 k ∧ Below w1.heap.size w1 wr
set_option maxRecDepth 100000 in
set_option maxHeartbeats 6400000 in
theorem walk_CuboidPlays (w : World) (a : Int) (ha : -9223372036854775808 ≤ a ∧ a ≤ 9223372036854775807) (b : Int) (hb : -9223372036854775808 ≤ b ∧ b ≤ 9223372036854775807) (v2 : Value) (l2 : List DeedX) (s2 : rdSlice 5 rdDeed w w.heap.size [v2] l2) (v3 : Value) (l3 : List (List Int)) (s3 : rdSlice 1 (rdSlice 1 rdInt) w w.heap.size [v3] l3) :
    Calls Try.prog 6 #[.int .i64 a, .int .i64 b, v2, v3] w fun e w' => e = .returned (.bool true) ∧ Below w.heap.size w w' := by
  have hd := deeds_of_rd s2
  have hr := rowsC_of_rd s3
  have HBT := hid (both_any a b v2 (l2.map DeedX.kc) w ha hb hd)
  obtain ⟨A2, c2, rfl, -, -, -⟩ := hd
  have hr' := hr
  obtain ⟨A3, c3, rfl, -, hc3, -⟩ := hr
  unfold maxLen at hc3
  have HRW := hid hr'
  obtain ⟨h1W, hW, -⟩ := wOf_in a
  obtain ⟨h1M, hM, -⟩ := mOf_in b
  have hok := addAll_ok (wOf a) (mOf b) ((l2.map DeedX.kc).take 60)
  have hlen : (addAll (wOf a) (mOf b) ((l2.map DeedX.kc).take 60)).length ≤ 60 := by
    have := addAll_len (wOf a) (mOf b) ((l2.map DeedX.kc).take 60)
    rw [List.length_take] at this
    omega
  generalize addAll (wOf a) (mOf b) ((l2.map DeedX.kc).take 60) = L at *
  generalize wOf a = W at *
  generalize mOf b = M at *
  generalize (l2.map DeedX.kc).length = n2 at *
  have HOK := hid hok
  clear hok hr' s2 s3
  go_enter Try.func6, Try.ntmps6
  go_wp2_with fail
  refine HBT.out.mono ?_
  rintro e w1 ⟨p, m, r, D, R, rfl, hbo, hb1⟩
  have hz1 := hb1.size
  have HBO := hid hbo; have HB1 := hid hb1
  clear hbo hb1
  go_wp2
  go_loopw [12] (fun i wr => PlRel l3 w1 i wr) (fun i _ => l3.length - (intOf i).toNat)
  case atStart => exact ⟨0, by omega, by omega, rfl, Below.refl _ _⟩
  case round =>
    obtain ⟨k, hk, hk2, rfl, hbr⟩ := hrel
    have hsr := hbr.size
    have hbw := HB1.out.trans (hbr.mono hz1)
    have hc := HBO.out.1.below hbr
    have hrr := HBO.out.2.1.below hbr
    by_cases hend : k < l3.length ∧ k < 20
    · obtain ⟨hlt, h20⟩ := hend
      obtain ⟨A, c, e, -, -, hrow⟩ := HRW.out
      injection e with e1 _ e3
      subst e1; subst e3
      obtain ⟨bq, off, u, rfl, hbq, hcu, hsu⟩ := hrow k hlt
      have hcw := cellK hbw hbq hcu
      generalize l3.getD k [] = key at *
      obtain ⟨Ku, ku, rfl, -, -⟩ := hsu.formI
      have hs1 : Sl wr wr.heap.size (.slice Ku key.length ku) (ivals key) := (hsu.below hbw).more (by omega)
      have HG := hid (getC_all D p m W M L (.slice Ku key.length ku) key wr hc HOK.out hs1 h1W hW hM)
      have HGR := hid (fun W' (h : Below wr.heap.size wr W') => getR_any R r W M L (.slice Ku key.length ku) key W' (hrr.below h) ((hs1.below h).more h.size))
      unfold GetRP at HGR
      generalize (getK L key).isSome = bs at *
      generalize getC L key = cc at *
      have HBR := hid hbr
      clear hrow hcu hsu hs1 hc hrr hbr
      go_wp2_with fail
      refine HG.out.mono ?_
      rintro e w2 ⟨xv, rfl, ho2, hb2⟩
      have hz2 := hb2.size
      obtain ⟨X1, d1, X2, d2, X3, d3, rfl⟩ := (CellE.of_own ho2).lit
      obtain ⟨W2, hW2⟩ : ∃ W', W' = w2.alloc (.cells #[.int .i64 cc.n, .slice X1 cc.s.length d1, .slice X2 cc.lo.length d2, .slice X3 cc.hi.length d3] 25) := ⟨_, rfl⟩
      have hbW2 : Below w2.heap.size w2 W2 := by rw [hW2]; exact bl1 _ _
      have hzW2 : W2.heap.size = w2.heap.size + 1 := by rw [hW2]; simp
      have bx : Blk W2 w2.heap.size (.int .i64 cc.n) (.slice X1 cc.s.length d1) (.slice X2 cc.lo.length d2) (.slice X3 cc.hi.length d3) := by rw [hW2]; exact Blk.new _ _ _ _ _ _
      have hbr2 := hb2.trans (hbW2.mono hz2)
      have hcw := cellK hb2 (by omega) hcw
      have hbq2 : bq < w2.heap.size := by omega
      have HX := hid ((ho2.read.below hbW2).more hbW2.size)
      have HB2 := hid hbr2; have BX := hid bx; have HW2 := hid hW2
      clear ho2 hb2 hbW2 bx hbr2 hW2
      go_wp2_with fail
      rw [← HW2.out]
      refine (HGR.out _ HB2.out).mono ?_
      rintro e w3 ⟨yv, rfl, hce3, hb3⟩
      have hz3 := hb3.size
      obtain ⟨Y1, f1, Y2, f2, Y3, f3, rfl⟩ := hce3.lit
      obtain ⟨W3, hW3⟩ : ∃ W', W' = w3.alloc (.cells #[.int .i64 cc.n, .slice Y1 cc.s.length f1, .slice Y2 cc.lo.length f2, .slice Y3 cc.hi.length f3] 25) := ⟨_, rfl⟩
      have hbW3 : Below w3.heap.size w3 W3 := by rw [hW3]; exact bl1 _ _
      have hzW3 : W3.heap.size = w3.heap.size + 1 := by rw [hW3]; simp
      obtain ⟨b0, b1, b2, b3, -, -, -, -⟩ : Blk W3 w3.heap.size (.int .i64 cc.n) (.slice Y1 cc.s.length f1) (.slice Y2 cc.lo.length f2) (.slice Y3 cc.hi.length f3) := by rw [hW3]; exact Blk.new _ _ _ _ _ _
      have hb23 := hb3.trans (hbW3.mono hz3)
      obtain ⟨a0, a1, a2, a3, -, -, -, -⟩ := BX.out.below hb23 (by omega)
      have HSC := hid (refSameC_any (.agg #[.int .i64 cc.n, .slice X1 cc.s.length d1, .slice X2 cc.lo.length d2, .slice X3 cc.hi.length d3]) (.agg #[.int .i64 cc.n, .slice Y1 cc.s.length f1, .slice Y2 cc.lo.length f2, .slice Y3 cc.hi.length f3]) cc cc W3 ((HX.out.below hb23).more hb23.size) ((hce3.read.below hbW3).more hbW3.size))
      rw [decide_eq_true rfl] at HSC
      have HB3 := hid (HB2.out.trans (hb23.mono (by omega)))
      have HW3 := hid hW3
      clear hb3 hbW3 hce3 hb23 hW3 hcw
      go_upto_region 9 with (fail)
      rw [← HW3.out]
      go_wp2_with fail
      refine HSC.out.mono ?_
      rintro e w4 ⟨rfl, hb4⟩
      have HB4 := hid (HBR.out.trans ((HB3.out.trans (hb4.mono (by omega))).mono hsr))
      clear hb4
      go_wp2
      go_roundw
      case rel => exact ⟨k + 1, by omega, by omega, by go_num, HB4.out⟩
      case measure => simp [intOf]; omega
    · have HLK := hid (like_any D R p m r W M L wr hc hrr HOK.out h1W hW hM (by omega))
      have HBW := hid hbw
      have hex : (k < l3.length ∧ k = 20) ∨ k = l3.length := by omega
      clear hc hrr hbr hbw hend
      rcases hex with ⟨hlt, rfl⟩ | rfl
      all_goals
        go_wp2_with fail
        refine HLK.out.mono ?_
        rintro e w2 ⟨rfl, hb2⟩
        have HB2 := hid (HBW.out.trans (hb2.mono HBW.out.size))
        clear hb2
        by_cases hin : 1 ≤ a ∧ a ≤ 3 ∧ 1 ≤ b ∧ b ≤ 2
        · obtain ⟨an, rfl⟩ : ∃ n : Nat, a = (n : Int) := ⟨a.toNat, by omega⟩
          obtain ⟨bn, rfl⟩ : ∃ n : Nat, b = (n : Int) := ⟨b.toNat, by omega⟩
          obtain ⟨i1, i2, i3, i4⟩ := hin
          have HNW := hid (newC_yes an bn w2 (by omega) (by omega) (by omega) (by omega))
          go_wp2_with fail
          refine HNW.out.mono ?_
          rintro e w3 ⟨p3, m3, D3, rfl, -, -, hb3⟩
          have HB3 := hid (HB2.out.trans (hb3.mono HB2.out.size))
          clear hb3
          go_wp2_with fail
          refine (lives_any w3).mono ?_
          rintro e w4 ⟨rfl, hb4⟩
          have HB4 := hid (HB3.out.trans (hb4.mono HB3.out.size))
          clear hb4
          go_wp2
          go_ret
          exact ⟨rfl, HB4.out⟩
        · have HNW := hid (newC_no a b w2 hin)
          have hc : (a < 1) ∨ (¬ a < 1 ∧ 3 < a) ∨ (¬ a < 1 ∧ ¬ 3 < a ∧ b < 1) ∨ (¬ a < 1 ∧ ¬ 3 < a ∧ ¬ b < 1 ∧ 2 < b) := by omega
          clear hin
          rcases hc with h1 | ⟨h1, h2⟩ | ⟨h1, h2, h3⟩ | ⟨h1, h2, h3, h4⟩
          all_goals
            go_wp2_with fail
            refine HNW.out.mono ?_
            rintro e w3 ⟨rfl, hq3⟩
            have HB3 := hid (HB2.out.trans (hq3.below w.heap.size))
            clear hq3
            go_wp2_with fail
            refine (lives_any w3).mono ?_
            rintro e w4 ⟨rfl, hb4⟩
            have HB4 := hid (HB3.out.trans (hb4.mono HB3.out.size))
            clear hb4
            go_wp2
            go_ret
            exact ⟨by first | rfl | (rw [show decide (b ≤ 2) = false from decide_eq_false (by omega)]; rfl), HB4.out⟩
end Go.Proofs.Ytclhnnidbhchnaa
/- What a roll's error says, plainly. -/
namespace Go.Proofs.Ytclhnnidbhchnaa
set_option linter.unusedVariables false
set_option linter.unusedSimpArgs false

theorem rollE_zero {W : Nat} {ups : List (List Int)} {L : List KC} (h : rollE W ups L = 0) : ups.length = W ∧ (∀ x ∈ L, upAll ups x.1 = true) ∧ ∀ x ∈ rollP ups L, (sumC (gcells (rollP ups L) x.1)).2 = 0 := by
  unfold rollE at h
  split at h
  · cases h
  · rename_i h1
    split at h
    · cases h
    · rename_i h2
      split at h
      · cases h
      · rename_i h3
        rw [Bool.not_eq_false, List.all_eq_true] at h2 h3
        exact ⟨Decidable.not_not.1 h1, h2, fun x hx => of_decide_eq_true (h3 x hx)⟩
theorem rollE_in (W : Nat) (ups : List (List Int)) (L : List KC) : rollE W ups L = 0 ∨ rollE W ups L = 1 ∨ rollE W ups L = 14 := by
  unfold rollE
  split
  · exact .inr (.inl rfl)
  · split
    · exact .inr (.inl rfl)
    · split
      · exact .inr (.inr rfl)
      · exact .inl rfl
theorem rollL_ok {W M : Nat} {ups : List (List Int)} {L : List KC} (hs : OkL W M L) (h : rollE W ups L = 0) : OkL W M (rollL (rollP ups L)) ∧ (rollL (rollP ups L)).length ≤ L.length := by
  obtain ⟨h1, h2, h3⟩ := rollE_zero h
  refine ⟨rollF_ok (fun _ hx => hx) (rollP_key h1 h2) (rollP_all (q := fun c => MayP c) hs.may) (rollP_all (q := fun c => c.n ≠ 0) hs.full) (rollP_all (q := fun c => c.s.length = M) hs.len) h3, ?_⟩
  have := rollF_len (rollP ups L) (rollP ups L)
  unfold rollL
  simpa [rollP] using this
end Go.Proofs.Ytclhnnidbhchnaa
/- Deeds: a higher bound, a beginning. -/
namespace Go.Proofs.Ytclhnnidbhchnaa
open Go.ChangeShapes Go.WideShapes Go.ChangeAt Go.RowKit Go.Maps
set_option linter.unusedVariables false
set_option linter.unusedSimpArgs false

theorem DeedsV.more {w : World} {B B' : Nat} {v : Value} {l : List KC} (h : DeedsV w B v l) (hb : B ≤ B') : DeedsV w B' v l := by
  obtain ⟨A, c, e, h1, h2, h3⟩ := h
  refine ⟨A, c, e, h1, h2, fun i hi => ?_⟩
  obtain ⟨b, off, K, kc, A1, c1, A2, c2, A3, c3, e1, hlt, q0, q1, q2, q3, q4, hs, hc⟩ := h3 i hi
  exact ⟨b, off, K, kc, A1, c1, A2, c2, A3, c3, e1, by omega, q0, q1, q2, q3, q4, hs.more hb, hc.more hb⟩
theorem DeedsV.head {w : World} {B n c : Nat} {A : Option Addr} {l : List KC} (h : DeedsV w B (.slice A n c) l) (m : Nat) (hm : m ≤ n) : DeedsV w B (.slice A m c) (l.take m) := by
  obtain ⟨A', c', e, h1, h2, h3⟩ := h
  injection e with e1 e2 e3
  subst e1; subst e2; subst e3
  have hl : (l.take m).length = m := by rw [List.length_take]; omega
  refine ⟨_, _, by rw [hl], by omega, h2, fun i hi => ?_⟩
  rw [hl] at hi
  rw [show (l.take m).getD i zK = l.getD i zK by simp [List.getD_eq_getElem?_getD, hi]]
  exact h3 i (by omega)
end Go.Proofs.Ytclhnnidbhchnaa
/- The reference's up. -/
namespace Go.Proofs.Ytclhnnidbhchnaa
open Go.ChangeShapes Go.WideShapes Go.ChangeAt Go.RowKit Go.Maps
set_option linter.unusedVariables false
set_option linter.unusedSimpArgs false

def UpRelR (ups : List (List Int)) (k : List Int) (w : World) (out i : Value) (wr : World) : Prop :=
  ∃ j : Nat, j ≤ ups.length ∧ i = .int .i64 j ∧ (∀ t, t < j → upOk ups k t = true) ∧ wr.ownsRow w.heap.size 3 1 out j (ivals ((List.range j).map (upV ups k))) ∧ Below w.heap.size w wr
set_option maxRecDepth 100000 in
set_option maxHeartbeats 3200000 in
theorem refUp_any (kv v : Value) (k : List Int) (ups : List (List Int)) (w : World) (hv : Sl w w.heap.size kv (ivals k)) (hu : RowsI w w.heap.size v ups) (hl : k.length = ups.length) (h3 : ups.length ≤ 3) (hk : ∀ i, 0 ≤ k.getD i 0 ∧ k.getD i 0 ≤ 40) :
    Calls Try.prog 61 #[kv, v] w (UpP ups k w) := by
  obtain ⟨i0, hi, hz0, hz1, hz2⟩ := info_parts info_int
  obtain ⟨K, kc, rfl, hkc, hkm⟩ := hv.formI
  obtain ⟨A, c, rfl, hcl, hcm, hrow⟩ := hu
  unfold maxLen at hcm hkm
  have HROW := hid hrow; have HK := hid hk; have SV := hid hv
  clear hrow hk hv
  rw [hl]
  go_enter Try.func61, Try.ntmps61
  go_wp2
  go_loopw [6, 7] (fun out i wr => UpRelR ups k w out i wr) (fun _ i _ => ups.length - (intOf i).toNat)
  case atStart => exact ⟨0, by omega, rfl, fun t h => by omega, World.ownsRow_nil _ _ _ _, Below.refl _ _⟩
  case round =>
    obtain ⟨j, hj, rfl, hall, hown, hb⟩ := hrel
    have hsb := hb.size
    have HALL := hid hall; have HOW := hid hown; have HB := hid hb
    clear hall hown
    by_cases hlt : j < ups.length
    · obtain ⟨b, off, u, rfl, hbl, hcu, hsu⟩ := HROW.out j hlt
      have hcw := cellK hb hbl hcu
      obtain ⟨bk, ok, rfl, hbk, hck⟩ := SV.out.int (show j < k.length by omega)
      have hck := cellK hb hbk hck
      obtain ⟨Al, cl, rfl, hcl2, hcm2⟩ := hsu.formI
      unfold maxLen at hcm2
      obtain ⟨k0, k40⟩ := HK.out j
      have hok : upOk ups k j = (decide (k.getD j 0 < ((ups.getD j []).length : Int)) && codeB (upV ups k j)) := rfl
      have huv : upV ups k j = (ups.getD j []).getD (k.getD j 0).toNat 0 := rfl
      have hrs := range_map_succ (upV ups k) j
      have HSU := hid (hsu.below hb)
      generalize ups.getD j [] = l at *
      generalize k.getD j 0 = kj at *
      generalize upV ups k j = uv at *
      have HOK := hid hok; have HUV := hid huv; have HRS := hid hrs
      clear hok huv hrs hb hcu hsu
      by_cases hge : (l.length : Int) ≤ kj
      · have HN := hid (upAll_no hlt (show upOk ups k j = false by rw [HOK.out, decide_eq_false (by omega)]; rfl))
        go_wp2
        go_quiet (fail)
        go_wp2
        go_ret2
        exact .inr ⟨HN.out, rfl, (HB.out.trans (below_drewN (Below.refl _ _) _))⟩
      · obtain ⟨kn, rfl⟩ : ∃ n : Nat, kj = (n : Int) := ⟨kj.toNat, by omega⟩
        rw [Int.toNat_natCast] at HUV
        have hkn : kn < l.length := by omega
        obtain ⟨b2, o2, rfl, hb2, hx2⟩ := HSU.out.int hkn
        rw [← HUV.out] at hx2
        go_wp2
        go_quiet (fail)
        have hq1 : Qu wr (wr.drewN nq) := ⟨nq, rfl⟩
        have hcw : (wr.drewN nq).cell? _ = _ := hcw
        have hck : (wr.drewN nq).cell? _ = _ := hck
        have hx2 : (wr.drewN nq).cell? _ = _ := hx2
        generalize wr.drewN nq = w1 at *
        have HOQ := hid (own_kept HOW.out (fun g hg => (hq1.below wr.heap.size).block g (HOW.out.lt g hg).2))
        have HBQ := hid (HB.out.trans ((hq1.below wr.heap.size).mono hsb))
        clear hq1
        have hcc : (uv < 0 ∧ codeB uv = false) ∨ (¬ uv < 0 ∧ 40 < uv ∧ codeB uv = false) ∨ (¬ uv < 0 ∧ ¬ 40 < uv ∧ codeB uv = true) := by
          unfold codeB
          by_cases h1 : uv < 0
          · exact .inl ⟨h1, by rw [decide_eq_false (by omega)]; rfl⟩
          · by_cases h2 : 40 < uv
            · exact .inr (.inl ⟨h1, h2, by rw [decide_eq_false (show ¬ uv ≤ 40 by omega), Bool.and_false]⟩)
            · exact .inr (.inr ⟨h1, h2, by rw [decide_eq_true (by omega), decide_eq_true (by omega)]; rfl⟩)
        go_wp2
        go_quiet (fail)
        have hq2 : Qu w1 (w1.drewN nq) := ⟨nq, rfl⟩
        generalize w1.drewN nq = w2 at *
        have HOQ2 := hid (own_kept HOQ.out (fun g hg => (hq2.below w1.heap.size).block g (HOQ.out.lt g hg).2))
        have HBQ2 := hid (HBQ.out.trans ((hq2.below w1.heap.size).mono HBQ.out.size))
        have hsq := HBQ2.out.size
        clear hq2 hcw hck hx2
        rcases hcc with ⟨h1, hcb⟩ | ⟨h1, h2, hcb⟩ | ⟨h1, h2, hcb⟩
        · have HN := hid (upAll_no hlt (show upOk ups k j = false by rw [HOK.out, hcb, Bool.and_false]))
          clear hcb
          go_wp2
          go_ret2
          exact .inr ⟨HN.out, rfl, HBQ2.out⟩
        · have HN := hid (upAll_no hlt (show upOk ups k j = false by rw [HOK.out, hcb, Bool.and_false]))
          clear hcb
          go_wp2
          go_ret2
          exact .inr ⟨HN.out, rfl, HBQ2.out⟩
        · have HY := hid (show upOk ups k j = true by rw [HOK.out, hcb, decide_eq_true (by omega)]; rfl)
          clear hcb
          go_wp2_with (at_builtin; refine stop_here ?_)
          refine go_on ?_
          refine app_own_at (.tmp 41) (.tmp 43) 23 23 rfl rfl w.heap.size 3 i0 (.int .i64 0) 1 8 Try.underlying23 hi hz0 hz1 hz2 rfl (by decide) _ _ _ rfl (HOQ2.out.alloc _) (.slice (some ⟨w2.heap.size, 0, none⟩) 1 1) 1 [.int .i64 uv] rfl (Src.ofSlice _ Try.underlying23 _ 1 1 _ rfl (cells_new_at _ _ _ rfl) (by simp; rfl)) (by simp only [maxLen]; omega) (by omega) (by rw [World.size_alloc]; omega) ?_
          intro v3 w3 hown3 hg3 hb3 hat3
          rw [show ivals ((List.range j).map (upV ups k)) ++ [.int .i64 uv] = ivals ((List.range (j + 1)).map (upV ups k)) by rw [HRS.out]; simp [ivals]] at hown3
          have HO3 := hid hown3
          have HB3 := hid ((HBQ2.out.alloc hsq _).trans hb3)
          clear hown3 hg3 hb3 hat3
          go_wp2
          go_roundw
          case rel =>
            refine ⟨j + 1, by omega, by go_num, fun t ht => ?_, HO3.out, HB3.out⟩
            rcases Nat.lt_or_ge t j with h | h
            · exact HALL.out t h
            · obtain rfl : t = j := by omega
              exact HY.out
          case measure => simp [intOf]; omega
    · obtain rfl : j = ups.length := by omega
      have HY := hid (upAll_yes HALL.out)
      go_wp2
      go_ret2
      exact .inl ⟨HY.out, _, rfl, by rw [upL_len]; exact HOW.out, HB.out⟩
end Go.Proofs.Ytclhnnidbhchnaa
