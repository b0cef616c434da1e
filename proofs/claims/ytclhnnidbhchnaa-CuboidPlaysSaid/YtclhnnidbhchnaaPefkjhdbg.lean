/- 2 texts of this claim, in build order. -/
import Derived.Test.YtclhnnidbhchnaaPihinhejb
import Derived.Test.YtclhnnidbhchnaaPkpbafcfk
/- The walk of CuboidPlays. -/
namespace Go.Proofs.Ytclhnnidbhchnaa
open Go.ChangeShapes Go.WideShapes Go.ChangeAt Go.RowKit Go.Maps
set_option linter.unusedVariables false
set_option linter.unusedSimpArgs false

theorem rowsC_of_rd {w : World} {B : Nat} {v : Value} {l : List (List Int)} (h : rdSlice 1 (rdSlice 1 rdInt) w B [v] l) : RowsI w B v l := by
  obtain ⟨A, c, e, h1, h2, h3⟩ := h
  injection e with e _
  subst e
  refine ⟨A, c, rfl, h1, h2, fun i hi => ?_⟩
  obtain ⟨b, off, e1, hb, hx⟩ := h3 (by omega)
  obtain ⟨es, q1, q2, q3⟩ := hx i l[i] (List.getElem?_eq_getElem hi)
  obtain ⟨u, rfl, hs⟩ := ints_sl q3
  refine ⟨b, off, u, e1, hb, by simpa using q2 0 u rfl, ?_⟩
  rw [show l.getD i [] = l[i] by simp [List.getD_eq_getElem?_getD, hi]]
  exact hs
theorem opens_rowsC : Opens Try.prog 33 1 (rdSlice 1 (rdSlice 1 rdInt)) := opens_slice (e := 23) (good_slice good_int) Try.underlying33 opens_intsI (by kernel_rfl) (by omega)
theorem newC_no (a b : Int) (w : World) (h : ¬ (1 ≤ a ∧ a ≤ 3 ∧ 1 ≤ b ∧ b ≤ 2)) : Calls Try.prog 21 #[.int .i64 a, .int .i64 b] w (Stays (.pointer none) w) := by
  have hc : (a < 1) ∨ (¬ a < 1 ∧ 3 < a) ∨ (¬ a < 1 ∧ ¬ 3 < a ∧ b < 1) ∨ (¬ a < 1 ∧ ¬ 3 < a ∧ ¬ b < 1 ∧ 2 < b) := by omega
  clear h
  rcases hc with h1 | ⟨h1, h2⟩ | ⟨h1, h2, h3⟩ | ⟨h1, h2, h3, h4⟩
  all_goals
    go_enter Try.func21, Try.ntmps21
    go_wp2
    go_ret
    exact ⟨rfl, Qu.refl _⟩
theorem getC_all (D : Nat → Prop) (p m W M : Nat) (L : List KC) (v : Value) (k : List Int) (w : World) (hc : CubW w D p m W M L) (hs : OkL W M L) (hv : Sl w w.heap.size v (ivals k)) (h1 : 1 ≤ W) (h3 : W ≤ 3) (hM : M ≤ 2) :
    Calls Try.prog 25 #[.pointer (some ⟨p, 0, none⟩), v] w (GetCP (getC L k) (getK L k).isSome w) := by
  cases hk : okB W k
  · have hn : getK L k = none := getK_none.2 (fun x hx e => by
      have := hs.key x hx
      rw [e] at this
      unfold okB at hk
      rw [decide_eq_false_iff_not] at hk
      exact hk this)
    have hg : getC L k = nilC := by unfold getC; rw [hn]; rfl
    rw [hn, hg]
    exact getC_no D p m W M L v k w hc hv hk
  · exact getC_yes D p m W M L v k w hc hs hv h1 h3 hM hk
def PlRel (l : List (List Int)) (w1 : World) (i : Value) (wr : World) : Prop := ∃ k : Nat, k ≤ l.length ∧ k ≤ 20 ∧ i = .int .i64 k ∧ Below w1.heap.size w1 wr
set_option maxRecDepth 100000 in
set_option maxHeartbeats 6400000 in
theorem walk_CuboidPlays (w : World) (a : Int) (ha : -9223372036854775808 ≤ a ∧ a ≤ 9223372036854775807) (b : Int) (hb : -9223372036854775808 ≤ b ∧ b ≤ 9223372036854775807) (v2 : Value) (l2 : List DeedX) (s2 : rdSlice 5 rdDeed w w.heap.size [v2] l2) (v3 : Value) (l3 : List (List Int)) (s3 : rdSlice 1 (rdSlice 1 rdInt) w w.heap.size [v3] l3) :
    Calls Try.prog 6 #[.int .i64 a, .int .i64 b, v2, v3] w fun e w' => e = .returned (.bool true) ∧ Below w.heap.size w w' := by
  have hd := deeds_of_rd s2
  have hr := rowsC_of_rd s3
  have HBT := hid (both_any a b v2 (l2.map DeedX.kc) w ha hb hd)
  obtain ⟨A2, c2, rfl, -, -, -⟩ := hd
  have hr' := hr
  obtain ⟨A3, c3, rfl, -, hc3, -⟩ := hr
  unfold maxLen at hc3
  have HRW := hid hr'
  obtain ⟨h1W, hW, -⟩ := wOf_in a
  obtain ⟨h1M, hM, -⟩ := mOf_in b
  have hok := addAll_ok (wOf a) (mOf b) ((l2.map DeedX.kc).take 60)
  have hlen : (addAll (wOf a) (mOf b) ((l2.map DeedX.kc).take 60)).length ≤ 60 := by
    have := addAll_len (wOf a) (mOf b) ((l2.map DeedX.kc).take 60)
    rw [List.length_take] at this
    omega
  generalize addAll (wOf a) (mOf b) ((l2.map DeedX.kc).take 60) = L at *
  generalize wOf a = W at *
  generalize mOf b = M at *
  generalize (l2.map DeedX.kc).length = n2 at *
  have HOK := hid hok
  clear hok hr' s2 s3
  go_enter Try.func6, Try.ntmps6
  go_wp2_with fail
  refine HBT.out.mono ?_
  rintro e w1 ⟨p, m, r, D, R, rfl, hbo, hb1⟩
  have hz1 := hb1.size
  have HBO := hid hbo; have HB1 := hid hb1
  clear hbo hb1
  go_wp2
  go_loopw [12] (fun i wr => PlRel l3 w1 i wr) (fun i _ => l3.length - (intOf i).toNat)
  case atStart => exact ⟨0, by omega, by omega, rfl, Below.refl _ _⟩
  case round =>
    obtain ⟨k, hk, hk2, rfl, hbr⟩ := hrel
    have hsr := hbr.size
    have hbw := HB1.out.trans (hbr.mono hz1)
    have hc := HBO.out.1.below hbr
    have hrr := HBO.out.2.1.below hbr
    by_cases hend : k < l3.length ∧ k < 20
    · obtain ⟨hlt, h20⟩ := hend
      obtain ⟨A, c, e, -, -, hrow⟩ := HRW.out
      injection e with e1 _ e3
      subst e1; subst e3
      obtain ⟨bq, off, u, rfl, hbq, hcu, hsu⟩ := hrow k hlt
      have hcw := cellK hbw hbq hcu
      generalize l3.getD k [] = key at *
      obtain ⟨Ku, ku, rfl, -, -⟩ := hsu.formI
      have hs1 : Sl wr wr.heap.size (.slice Ku key.length ku) (ivals key) := (hsu.below hbw).more (by omega)
      have HG := hid (getC_all D p m W M L (.slice Ku key.length ku) key wr hc HOK.out hs1 h1W hW hM)
      have HGR := hid (fun W' (h : Below wr.heap.size wr W') => getR_any R r W M L (.slice Ku key.length ku) key W' (hrr.below h) ((hs1.below h).more h.size))
      unfold GetRP at HGR
      generalize (getK L key).isSome = bs at *
      generalize getC L key = cc at *
      have HBR := hid hbr
      clear hrow hcu hsu hs1 hc hrr hbr
      go_wp2_with fail
      refine HG.out.mono ?_
      rintro e w2 ⟨xv, rfl, ho2, hb2⟩
      have hz2 := hb2.size
      obtain ⟨X1, d1, X2, d2, X3, d3, rfl⟩ := (CellE.of_own ho2).lit
      obtain ⟨W2, hW2⟩ : ∃ W', W' = w2.alloc (.cells #[.int .i64 cc.n, .slice X1 cc.s.length d1, .slice X2 cc.lo.length d2, .slice X3 cc.hi.length d3] 25) := ⟨_, rfl⟩
      have hbW2 : Below w2.heap.size w2 W2 := by rw [hW2]; exact bl1 _ _
      have hzW2 : W2.heap.size = w2.heap.size + 1 := by rw [hW2]; simp
      have bx : Blk W2 w2.heap.size (.int .i64 cc.n) (.slice X1 cc.s.length d1) (.slice X2 cc.lo.length d2) (.slice X3 cc.hi.length d3) := by rw [hW2]; exact Blk.new _ _ _ _ _ _
      have hbr2 := hb2.trans (hbW2.mono hz2)
      have hcw := cellK hb2 (by omega) hcw
      have hbq2 : bq < w2.heap.size := by omega
      have HX := hid ((ho2.read.below hbW2).more hbW2.size)
      have HB2 := hid hbr2; have BX := hid bx; have HW2 := hid hW2
      clear ho2 hb2 hbW2 bx hbr2 hW2
      go_wp2_with fail
      rw [← HW2.out]
      refine (HGR.out _ HB2.out).mono ?_
      rintro e w3 ⟨yv, rfl, hce3, hb3⟩
      have hz3 := hb3.size
      obtain ⟨Y1, f1, Y2, f2, Y3, f3, rfl⟩ := hce3.lit
      obtain ⟨W3, hW3⟩ : ∃ W', W' = w3.alloc (.cells #[.int .i64 cc.n, .slice Y1 cc.s.length f1, .slice Y2 cc.lo.length f2, .slice Y3 cc.hi.length f3] 25) := ⟨_, rfl⟩
      have hbW3 : Below w3.heap.size w3 W3 := by rw [hW3]; exact bl1 _ _
      have hzW3 : W3.heap.size = w3.heap.size + 1 := by rw [hW3]; simp
      obtain ⟨b0, b1, b2, b3, -, -, -, -⟩ : Blk W3 w3.heap.size (.int .i64 cc.n) (.slice Y1 cc.s.length f1) (.slice Y2 cc.lo.length f2) (.slice Y3 cc.hi.length f3) := by rw [hW3]; exact Blk.new _ _ _ _ _ _
      have hb23 := hb3.trans (hbW3.mono hz3)
      obtain ⟨a0, a1, a2, a3, -, -, -, -⟩ := BX.out.below hb23 (by omega)
      have HSC := hid (refSameC_any (.agg #[.int .i64 cc.n, .slice X1 cc.s.length d1, .slice X2 cc.lo.length d2, .slice X3 cc.hi.length d3]) (.agg #[.int .i64 cc.n, .slice Y1 cc.s.length f1, .slice Y2 cc.lo.length f2, .slice Y3 cc.hi.length f3]) cc cc W3 ((HX.out.below hb23).more hb23.size) ((hce3.read.below hbW3).more hbW3.size))
      rw [decide_eq_true rfl] at HSC
      have HB3 := hid (HB2.out.trans (hb23.mono (by omega)))
      have HW3 := hid hW3
      clear hb3 hbW3 hce3 hb23 hW3 hcw
      go_upto_region 9 with (fail)
      rw [← HW3.out]
      go_wp2_with fail
      refine HSC.out.mono ?_
      rintro e w4 ⟨rfl, hb4⟩
      have HB4 := hid (HBR.out.trans ((HB3.out.trans (hb4.mono (by omega))).mono hsr))
      clear hb4
      go_wp2
      go_roundw
      case rel => exact ⟨k + 1, by omega, by omega, by go_num, HB4.out⟩
      case measure => simp [intOf]; omega
    · have HLK := hid (like_any D R p m r W M L wr hc hrr HOK.out h1W hW hM (by omega))
      have HBW := hid hbw
      have hex : (k < l3.length ∧ k = 20) ∨ k = l3.length := by omega
      clear hc hrr hbr hbw hend
      rcases hex with ⟨hlt, rfl⟩ | rfl
      all_goals
        go_wp2_with fail
        refine HLK.out.mono ?_
        rintro e w2 ⟨rfl, hb2⟩
        have HB2 := hid (HBW.out.trans (hb2.mono HBW.out.size))
        clear hb2
        by_cases hin : 1 ≤ a ∧ a ≤ 3 ∧ 1 ≤ b ∧ b ≤ 2
        · obtain ⟨an, rfl⟩ : ∃ n : Nat, a = (n : Int) := ⟨a.toNat, by omega⟩
          obtain ⟨bn, rfl⟩ : ∃ n : Nat, b = (n : Int) := ⟨b.toNat, by omega⟩
          obtain ⟨i1, i2, i3, i4⟩ := hin
          have HNW := hid (newC_yes an bn w2 (by omega) (by omega) (by omega) (by omega))
          go_wp2_with fail
          refine HNW.out.mono ?_
          rintro e w3 ⟨p3, m3, D3, rfl, -, -, hb3⟩
          have HB3 := hid (HB2.out.trans (hb3.mono HB2.out.size))
          clear hb3
          go_wp2_with fail
          refine (lives_any w3).mono ?_
          rintro e w4 ⟨rfl, hb4⟩
          have HB4 := hid (HB3.out.trans (hb4.mono HB3.out.size))
          clear hb4
          go_wp2
          go_ret
          exact ⟨rfl, HB4.out⟩
        · have HNW := hid (newC_no a b w2 hin)
          have hc : (a < 1) ∨ (¬ a < 1 ∧ 3 < a) ∨ (¬ a < 1 ∧ ¬ 3 < a ∧ b < 1) ∨ (¬ a < 1 ∧ ¬ 3 < a ∧ ¬ b < 1 ∧ 2 < b) := by omega
          clear hin
          rcases hc with h1 | ⟨h1, h2⟩ | ⟨h1, h2, h3⟩ | ⟨h1, h2, h3, h4⟩
          all_goals
            go_wp2_with fail
            refine HNW.out.mono ?_
            rintro e w3 ⟨rfl, hq3⟩
            have HB3 := hid (HB2.out.trans (hq3.below w.heap.size))
            clear hq3
            go_wp2_with fail
            refine (lives_any w3).mono ?_
            rintro e w4 ⟨rfl, hb4⟩
            have HB4 := hid (HB3.out.trans (hb4.mono HB3.out.size))
            clear hb4
            go_wp2
            go_ret
            exact ⟨by first | rfl | (rw [show decide (b ≤ 2) = false from decide_eq_false (by omega)]; rfl), HB4.out⟩
end Go.Proofs.Ytclhnnidbhchnaa
/- The statement CuboidPlays: from the walk of the law's function (it returns true, and nothing that was there has turned) to the given row. No condition. -/
namespace Go.Proofs.Ytclhnnidbhchnaa.cuboidPlays
open Go.ChangeShapes Go.WideShapes Go.ChangeAt Go.RowKit Go.WideMaps Go.WideElems Go.Joins
open Go.ChangeMaps (open_string shut_string)
set_option linter.unusedVariables false

set_option maxRecDepth 100000 in
theorem lifted (os : Os) (started : os.Started) (H : Type) (enc : TypeId × Value → H) :
    ReturnsInHanded {} Try.checked os 6 .any (Rows.cuboidPlaysSpec.pre6 enc Try.prog Try.f6 Rows.cuboidPlaysRow.domain false) (Rows.cuboidPlaysSpec.post enc Try.prog Try.f6 false true false false) := by
  refine returnsInHanded_of_change (C := Try.checked) own started (by kernel_rfl) Try.func6
    (ChangeSpec.witness6 (enc := enc) (C := Try.checked) false ⟨#[], #[.int .i64 0, .int .i64 0, .slice none 0 0, .slice none 0 0], []⟩ 8 (by kernel_rfl) (by kernel_rfl) (by kernel_rfl) (by kernel_rfl)) ?_
  intro W base args ds gs before hval0 hW hcnd _
  have hval : ∀ (j : Nat) t v, Try.f6.params[j]? = some t → args[j]? = some v → Value.okWide Try.prog W .any base t v := hval0
  have hW' := hW
  obtain ⟨p, q, hA0, hV, rfl, hfz, hnd⟩ := hW
  have hA : DataW.TrodAll enc Try.prog W 0 (fun _ => true) true Try.f6.params.toList args.toList ds p := hA0
  rw [Try.params6] at hA hval
  obtain ⟨v0, vs0, d0, ds0, p0, q0, hargs, rfl, rfl, h0, r0⟩ := trodAll_cons hA
  obtain ⟨v1, vs1, d1, ds1, p1, q1, rfl, rfl, rfl, h1, r1⟩ := trodAll_cons r0
  obtain ⟨v2, vs2, d2, ds2, p2, q2, rfl, rfl, rfl, h2, r2⟩ := trodAll_cons r1
  obtain ⟨v3, vs3, d3, ds3, p3, q3, rfl, rfl, rfl, h3, r3⟩ := trodAll_cons r2
  obtain ⟨rfl, rfl, rfl⟩ := trodAll_nil r3
  obtain rfl : args = #[v0, v1, v2, v3] := by cases args; simp_all
  obtain ⟨rfl, rfl⟩ := trodVars_none hV
  obtain ⟨a0, rfl, rfl, rfl, w0⟩ := open_int Try.underlying3 (hval 0 3 v0 rfl rfl) h0
  have b0 := bounds_i64 w0
  obtain ⟨a1, rfl, rfl, rfl, w1⟩ := open_int Try.underlying3 (hval 1 3 v1 rfl rfl) h1
  have b1 := bounds_i64 w1
  obtain ⟨l2, s2⟩ := open_read_slice Try.underlying32 opens_deeds (hval 2 32 v2 rfl rfl) h2
  obtain ⟨l3, s3⟩ := open_read_slice Try.underlying33 opens_rowsC (hval 3 33 v3 rfl rfl) h3
  clear hval0
  refine (walk_CuboidPlays W a0 b0 a1 b1 v2 l2 s2 v3 l3 s3).mono fun e W' ⟨he, hb⟩ => ?_
  subst he
  exact ⟨_, rfl, post_of_below hW' (fun _ _ _ => (trodAll_cons_mk (shut_bool Try.underlying4 _) trodAll_mk0)) (fun sp hs => trodAll_stays laidOut hb (by kernel_rfl) hA0 (fun x hx => hW'.lt x (List.mem_append_left _ hx)) (fun x hx => hs x (List.mem_append_left _ hx)))
    (fun _ _ => rfl) rfl hb (ok_one (by kernel_rfl) rfl (okWide_bool_mk Try.underlying4 _))⟩

theorem over : Rows.cuboidPlaysRow.holds Try.pinned (OpenSpec.ofChange Rows.cuboidPlaysSpec) :=
  OpenClaim.holds_of_wide 6 Try.f6 rfl rfl rfl rfl rfl rfl rfl ⟨rfl, rfl, rfl, rfl, rfl⟩ rfl rfl rfl rfl rfl (by kernel_rfl) Try.func6 (by kernel_rfl)
    (of_decide_eq_true (by kernel_rfl)) (by unfold Func.isWrapper; first | (rw [if_pos (by decide +kernel)]; kernel_rfl) | (rw [if_neg (by decide +kernel)]; exact ⟨rfl, rfl⟩))
    (fun os started H enc _ => lifted os started H enc)

theorem proved : Rows.CuboidPlaysSaid :=
  over
#print axioms proved
end Go.Proofs.Ytclhnnidbhchnaa.cuboidPlays
