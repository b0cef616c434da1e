/- 2 texts of this claim, in build order. -/
import Derived.Test.YtclhnnidbhchnaaPhklnbiod
import Derived.Test.YtclhnnidbhchnaaPdhkhdgfh
import Derived.Test.YtclhnnidbhchnaaPcbhokcdb
import Derived.Test.YtclhnnidbhchnaaPakdkaceh
import Derived.Test.YtclhnnidbhchnaaPkpbafcfk
/- The walk of CuboidRolls. -/
namespace Go.Proofs.Ytclhnnidbhchnaa
open Go.ChangeShapes Go.WideShapes Go.ChangeAt Go.RowKit Go.Maps
set_option linter.unusedVariables false
set_option linter.unusedSimpArgs false

set_option maxRecDepth 100000 in
set_option maxHeartbeats 6400000 in
theorem walk_CuboidRolls (w : World) (a : Int) (ha : -9223372036854775808 ≤ a ∧ a ≤ 9223372036854775807) (b : Int) (hb : -9223372036854775808 ≤ b ∧ b ≤ 9223372036854775807) (v2 : Value) (l2 : List DeedX) (s2 : rdSlice 5 rdDeed w w.heap.size [v2] l2) (v3 : Value) (l3 : List (List Int)) (s3 : rdSlice 1 (rdSlice 1 rdInt) w w.heap.size [v3] l3) :
    Calls Try.prog 7 #[.int .i64 a, .int .i64 b, v2, v3] w fun e w' => e = .returned (.bool true) ∧ Below w.heap.size w w' := by
  have HFW := hid (few10_any v3 l3 w (rowsC_of_rd s3))
  have HD := hid (deeds_of_rd s2)
  obtain ⟨h1W, hW, -⟩ := wOf_in a
  obtain ⟨h1M, hM, -⟩ := mOf_in b
  have HBT := hid (fun W' (h : DeedsV W' W'.heap.size v2 (l2.map DeedX.kc)) => both_any a b v2 (l2.map DeedX.kc) W' ha hb h)
  have HOK := hid (addAll_ok (wOf a) (mOf b) ((l2.map DeedX.kc).take 60))
  have hlen : (addAll (wOf a) (mOf b) ((l2.map DeedX.kc).take 60)).length ≤ 60 := by
    have := addAll_len (wOf a) (mOf b) ((l2.map DeedX.kc).take 60)
    rw [List.length_take] at this
    omega
  generalize addAll (wOf a) (mOf b) ((l2.map DeedX.kc).take 60) = L at *
  generalize wOf a = W at *
  generalize mOf b = M at *
  obtain ⟨A2, c2, rfl, -, -, -⟩ := HD.out
  generalize (l2.map DeedX.kc).length = n2 at *
  clear s2 s3
  go_enter Try.func7, Try.ntmps7
  go_wp2_with fail
  refine HFW.out.mono ?_
  rintro e w1 ⟨vu, rfl, hru, hb1⟩
  generalize few10 l3 = ups at *
  have hz1 := hb1.size
  have hd1 := (HD.out.below hb1).more hz1
  have HBT1 := hid (HBT.out w1 hd1)
  have hru' := hru
  obtain ⟨A3, c3, rfl, -, -, -⟩ := hru
  have HRU := hid hru'; have HB1 := hid hb1
  clear hru' hb1 hd1
  go_wp2_with fail
  refine HBT1.out.mono ?_
  rintro e w2 ⟨p, m, r, D, R, rfl, hbo, hb2⟩
  have hz2 := hb2.size
  have HBO := hid hbo; have HB2 := hid (HB1.out.trans (hb2.mono hz1))
  have hru2 := (HRU.out.below hb2).more hz2
  have HRL := hid (roll_any D p m W M L _ ups w2 hbo.1 HOK.out h1W hW h1M hM (by omega) hru2)
  have HRR := hid (fun W' (h : Below w2.heap.size w2 W') => rollR_any R r W M L _ ups W' (HBO.out.2.1.below h) HOK.out h1W hW (by omega) ((hru2.below h).more h.size))
  have HLK := hid (fun W' (h : Below w2.heap.size w2 W') => like_any D R p m r W M L W' (HBO.out.1.below h) (HBO.out.2.1.below h) HOK.out h1W hW hM (by omega))
  clear hbo hb2 hru2
  generalize ups.length = nu at *
  go_wp2_with fail
  refine HRL.out.mono ?_
  rintro e w3 (⟨hne, rfl, hb3⟩ | ⟨he, p', m', D', rfl, hc', hd', hb3⟩)
  · have HB3 := hid hb3
    have HRR3 := hid (HRR.out w3 hb3)
    have hz3 := hb3.size
    have hin := rollE_in W ups L
    clear hb3
    go_wp2_with fail
    refine HRR3.out.mono ?_
    rintro e w4 (⟨hne4, rfl, hb4⟩ | ⟨he4, r', R', rfl, hr', hb4⟩)
    · generalize rollE W ups L = en at *
      have HB4 := hid (HB3.out.trans (hb4.mono hz3))
      have HLK4 := hid (HLK.out w4 HB4.out)
      have t0 : (en == 0) = false := by simpa using hne
      clear hb4
      go_wp2_with fail
      refine HLK4.out.mono ?_
      rintro e w5 ⟨rfl, hb5⟩
      have HB5 := hid (HB4.out.trans (hb5.mono HB4.out.size))
      clear hb5
      go_wp2_with fail
      refine (lives_any w5).mono ?_
      rintro e w6 ⟨rfl, hb6⟩
      have HB6 := hid (HB5.out.trans (hb6.mono HB5.out.size))
      clear hb6
      go_wp2
      go_ret
      exact ⟨rfl, HB2.out.trans (HB6.out.mono (by omega))⟩
    · exact absurd he4 hne
  · have HB3 := hid hb3
    have HRR3 := hid (HRR.out w3 hb3)
    have hz3 := hb3.size
    have HC' := hid hc'
    have HKL := hid (rollL_ok HOK.out he)
    clear hb3 hc'
    go_wp2_with fail
    refine HRR3.out.mono ?_
    rintro e w4 (⟨hne4, rfl, hb4⟩ | ⟨he4, r', R', rfl, hr', hb4⟩)
    · exact absurd he hne4
    · have HB4 := hid (HB3.out.trans (hb4.mono hz3))
      have HLK4 := hid (like_any D' R' p' m' r' W M (rollL (rollP ups L)) w4 (HC'.out.below hb4) hr' HKL.out.1 h1W hW hM (by have := HKL.out.2; omega))
      have HLK5 := hid (fun W' (h : Below w4.heap.size w4 W') => HLK.out W' (HB4.out.trans (h.mono HB4.out.size)))
      clear hb4 hr'
      go_wp2_with fail
      refine HLK4.out.mono ?_
      rintro e w5 ⟨rfl, hb5⟩
      have HLK6 := hid (HLK5.out w5 hb5)
      have HB5 := hid (HB4.out.trans (hb5.mono HB4.out.size))
      clear hb5
      go_wp2_with fail
      refine HLK6.out.mono ?_
      rintro e w6 ⟨rfl, hb6⟩
      have HB6 := hid (HB5.out.trans (hb6.mono HB5.out.size))
      clear hb6
      go_wp2_with fail
      refine (lives_any w6).mono ?_
      rintro e w7 ⟨rfl, hb7⟩
      have HB7 := hid (HB6.out.trans (hb7.mono HB6.out.size))
      clear hb7
      go_wp2
      go_ret
      exact ⟨rfl, HB2.out.trans (HB7.out.mono (by omega))⟩
end Go.Proofs.Ytclhnnidbhchnaa
/- The statement CuboidRolls: from the walk of the law's function (it returns true, and nothing that was there has turned) to the given row. No condition. -/
namespace Go.Proofs.Ytclhnnidbhchnaa.cuboidRolls
open Go.ChangeShapes Go.WideShapes Go.ChangeAt Go.RowKit Go.WideMaps Go.WideElems Go.Joins
open Go.ChangeMaps (open_string shut_string)
set_option linter.unusedVariables false

set_option maxRecDepth 100000 in
theorem lifted (os : Os) (started : os.Started) (H : Type) (enc : TypeId × Value → H) :
    ReturnsInHanded {} Try.checked os 7 .any (Rows.cuboidRollsSpec.pre6 enc Try.prog Try.f7 Rows.cuboidRollsRow.domain false) (Rows.cuboidRollsSpec.post enc Try.prog Try.f7 false true false false) := by
  refine returnsInHanded_of_change (C := Try.checked) own started (by kernel_rfl) Try.func7
    (ChangeSpec.witness6 (enc := enc) (C := Try.checked) false ⟨#[], #[.int .i64 0, .int .i64 0, .slice none 0 0, .slice none 0 0], []⟩ 8 (by kernel_rfl) (by kernel_rfl) (by kernel_rfl) (by kernel_rfl)) ?_
  intro W base args ds gs before hval0 hW hcnd _
  have hval : ∀ (j : Nat) t v, Try.f7.params[j]? = some t → args[j]? = some v → Value.okWide Try.prog W .any base t v := hval0
  have hW' := hW
  obtain ⟨p, q, hA0, hV, rfl, hfz, hnd⟩ := hW
  have hA : DataW.TrodAll enc Try.prog W 0 (fun _ => true) true Try.f7.params.toList args.toList ds p := hA0
  rw [Try.params7] at hA hval
  obtain ⟨v0, vs0, d0, ds0, p0, q0, hargs, rfl, rfl, h0, r0⟩ := trodAll_cons hA
  obtain ⟨v1, vs1, d1, ds1, p1, q1, rfl, rfl, rfl, h1, r1⟩ := trodAll_cons r0
  obtain ⟨v2, vs2, d2, ds2, p2, q2, rfl, rfl, rfl, h2, r2⟩ := trodAll_cons r1
  obtain ⟨v3, vs3, d3, ds3, p3, q3, rfl, rfl, rfl, h3, r3⟩ := trodAll_cons r2
  obtain ⟨rfl, rfl, rfl⟩ := trodAll_nil r3
  obtain rfl : args = #[v0, v1, v2, v3] := by cases args; simp_all
  obtain ⟨rfl, rfl⟩ := trodVars_none hV
  obtain ⟨a0, rfl, rfl, rfl, w0⟩ := open_int Try.underlying3 (hval 0 3 v0 rfl rfl) h0
  have b0 := bounds_i64 w0
  obtain ⟨a1, rfl, rfl, rfl, w1⟩ := open_int Try.underlying3 (hval 1 3 v1 rfl rfl) h1
  have b1 := bounds_i64 w1
  obtain ⟨l2, s2⟩ := open_read_slice Try.underlying32 opens_deeds (hval 2 32 v2 rfl rfl) h2
  obtain ⟨l3, s3⟩ := open_read_slice Try.underlying33 opens_rowsC (hval 3 33 v3 rfl rfl) h3
  clear hval0
  refine (walk_CuboidRolls W a0 b0 a1 b1 v2 l2 s2 v3 l3 s3).mono fun e W' ⟨he, hb⟩ => ?_
  subst he
  exact ⟨_, rfl, post_of_below hW' (fun _ _ _ => (trodAll_cons_mk (shut_bool Try.underlying4 _) trodAll_mk0)) (fun sp hs => trodAll_stays laidOut hb (by kernel_rfl) hA0 (fun x hx => hW'.lt x (List.mem_append_left _ hx)) (fun x hx => hs x (List.mem_append_left _ hx)))
    (fun _ _ => rfl) rfl hb (ok_one (by kernel_rfl) rfl (okWide_bool_mk Try.underlying4 _))⟩

theorem over : Rows.cuboidRollsRow.holds Try.pinned (OpenSpec.ofChange Rows.cuboidRollsSpec) :=
  OpenClaim.holds_of_wide 7 Try.f7 rfl rfl rfl rfl rfl rfl rfl ⟨rfl, rfl, rfl, rfl, rfl⟩ rfl rfl rfl rfl rfl (by kernel_rfl) Try.func7 (by kernel_rfl)
    (of_decide_eq_true (by kernel_rfl)) (by unfold Func.isWrapper; first | (rw [if_pos (by decide +kernel)]; kernel_rfl) | (rw [if_neg (by decide +kernel)]; exact ⟨rfl, rfl⟩))
    (fun os started H enc _ => lifted os started H enc)

theorem proved : Rows.CuboidRollsSaid :=
  over
#print axioms proved
end Go.Proofs.Ytclhnnidbhchnaa.cuboidRolls
