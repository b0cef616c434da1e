/- 2 texts of this claim, in build order. -/
import Derived.Test.YtclhnnidbhchnaaPkbnfocpb
import Derived.Test.YtclhnnidbhchnaaPogeelhih
import Derived.Test.YtclhnnidbhchnaaPdhebfpoa
import Derived.Test.YtclhnnidbhchnaaPhphilaoe
/- The law's few (layer 10). -/
namespace Go.Proofs.Ytclhnnidbhchnaa
open Go.ChangeShapes Go.WideShapes Go.ChangeAt Go.RowKit
set_option linter.unusedVariables false
set_option linter.unusedSimpArgs false

def few10 (l : List (List Int)) : List (List Int) := (l.take 5).map fun x => x.take 45
theorem few10_len (l : List (List Int)) : (few10 l).length ≤ 5 := by unfold few10; rw [List.length_map, List.length_take]; omega
/-- Rows that are built: element j's list reads as the j-th. -/
def RowsR (w : World) (B : Nat) (us : List Value) (ks : List (List Int)) : Prop := us.length = ks.length ∧ ∀ i, i < ks.length → Sl w B (us.getD i undef) (ivals (ks.getD i []))
theorem RowsR.below {w w' : World} {B : Nat} {us : List Value} {ks : List (List Int)} (h : RowsR w B us ks) (hb : Below B w w') : RowsR w' B us ks := ⟨h.1, fun i hi => (h.2 i hi).below hb⟩
theorem RowsR.app {w : World} {B : Nat} {us : List Value} {ks : List (List Int)} {u : Value} {k : List Int} (h : RowsR w B us ks) (hu : Sl w B u (ivals k)) : RowsR w B (us ++ [u]) (ks ++ [k]) := by
  refine ⟨by simp [h.1], fun i hi => ?_⟩
  rcases Nat.lt_or_ge i ks.length with hlt | hge
  · rw [List.getD_eq_getElem?_getD, List.getElem?_append_left (by rw [h.1]; exact hlt), ← List.getD_eq_getElem?_getD, List.getD_eq_getElem?_getD (l := ks ++ [k]), List.getElem?_append_left hlt, ← List.getD_eq_getElem?_getD]
    exact h.2 i hlt
  · obtain rfl : i = ks.length := by simp at hi; omega
    rw [List.getD_eq_getElem?_getD, List.getElem?_append_right (by rw [h.1]; exact Nat.le_refl _), List.getD_eq_getElem?_getD (l := ks ++ [k]), List.getElem?_append_right (Nat.le_refl _), h.1, Nat.sub_self]
    exact hu
/-- A built row is read as rows. -/
theorem rows_of_own {w : World} {base B n : Nat} {v : Value} {us : List Value} {ks : List (List Int)} (h : w.ownsRow base 23 1 v n us) (hr : RowsR w B us ks) (hn : n = ks.length) (hB : B ≤ w.heap.size) : RowsI w w.heap.size v ks := by
  subst hn
  have h' := h
  obtain ⟨A, c, rfl, h1, h2, h3⟩ := own_cells h
  refine ⟨A, c, rfl, h1, h2, fun i hi => ?_⟩
  obtain ⟨g, rfl, -, hg, -⟩ := h3 (by omega)
  have hc := h'.cellAt (g := g) i (by omega)
  refine ⟨g, 0, us.getD i undef, rfl, hg, ?_, (hr.2 i hi).more hB⟩
  rw [Nat.zero_add, hc, List.getD_eq_getElem?_getD, List.getElem?_eq_getElem (by rw [hr.1]; exact hi)]; rfl
theorem few10_succ {l : List (List Int)} {k : Nat} (hk : k < l.length) (h5 : k < 5) : few10 (l.take (k + 1)) = few10 (l.take k) ++ [(l.getD k []).take 45] := by
  unfold few10
  rw [List.take_of_length_le (l := l.take (k + 1)) (by rw [List.length_take]; omega), List.take_of_length_le (l := l.take k) (by rw [List.length_take]; omega), List.take_succ_eq_append_getElem hk, List.map_append]
  simp [List.getD_eq_getElem?_getD, hk]
def FwRel (l : List (List Int)) (w : World) (out i : Value) (wr : World) : Prop :=
  ∃ (k : Nat) (us : List Value), k ≤ l.length ∧ k ≤ 5 ∧ i = .int .i64 k ∧ wr.ownsRow w.heap.size 23 1 out k us ∧ RowsR wr w.heap.size us (few10 (l.take k)) ∧ Below w.heap.size w wr
def FwP (l : List (List Int)) (w : World) (e : Ending) (w' : World) : Prop := ∃ v, e = .returned v ∧ RowsI w' w'.heap.size v (few10 l) ∧ Below w.heap.size w w'
theorem info_intsF : (Try.prog.info? 23).map (fun i => (i.zero, i.size, i.bytes)) = some (some (.slice none 0 0), 1, 24) := by kernel_rfl
set_option maxRecDepth 100000 in
set_option maxHeartbeats 3200000 in
theorem few10_any (v : Value) (l : List (List Int)) (w : World) (hv : RowsI w w.heap.size v l) : Calls Try.prog 15 #[v] w (FwP l w) := by
  obtain ⟨i0, hi, hz0, hz1, hz2⟩ := info_parts info_intsF
  obtain ⟨A, c, rfl, hcl, hcm, hrow⟩ := hv
  unfold maxLen at hcm
  have HROW := hid hrow
  clear hrow
  go_enter Try.func15, Try.ntmps15
  go_wp2
  go_loopw [3, 4] (fun out i wr => FwRel l w out i wr) (fun _ i _ => l.length - (intOf i).toNat)
  case atStart => exact ⟨0, [], by omega, by omega, rfl, World.ownsRow_nil _ _ _ _, ⟨rfl, fun i hi => by simp [few10] at hi⟩, Below.refl _ _⟩
  case round =>
    obtain ⟨k, us, hk, hk5, rfl, hown, hrr, hb⟩ := hrel
    have hsb := hb.size
    by_cases hlt : k < l.length
    · by_cases h5 : k < 5
      · obtain ⟨b, off, u, rfl, hbl, hcu, hsu⟩ := HROW.out k hlt
        have hcw := cellK hb hbl hcu
        have hfs := few10_succ hlt h5
        have hlk : (few10 (l.take k)).length = k := by unfold few10; rw [List.length_map, List.length_take, List.length_take]; omega
        generalize l.getD k [] = x at *
        obtain ⟨Al, cl, rfl, hcl2, hcm2⟩ := hsu.formI
        unfold maxLen at hcm2
        have HOW := hid hown; have HRR := hid hrr; have HB := hid hb; have HFS := hid hfs
        have hx : ((45 : Int) < (x.length : Int) ∧ 45 ≤ x.length ∧ Sl w w.heap.size (.slice Al 45 cl) (ivals (x.take 45))) ∨ (¬ (45 : Int) < (x.length : Int) ∧ Sl w w.heap.size (.slice Al x.length cl) (ivals (x.take 45))) := by
          by_cases h : 45 < x.length
          · have := hsu.head (m := 45) (by omega)
            exact .inl ⟨by omega, by omega, by simpa [ivals, List.map_take] using this⟩
          · exact .inr ⟨by omega, by rw [List.take_of_length_le (by omega)]; exact hsu⟩
        clear hown hrr hb hcu hsu hfs
        rcases hx with ⟨y, y5, hs⟩ | ⟨y, hs⟩
        all_goals
          have HX := hid (HRR.out.app (hs.below HB.out))
          clear hs
          generalize x.length = rl at *
          go_wp2_with (at_builtin; refine stop_here ?_)
          refine go_on ?_
          refine app_own (.tmp 25) (.tmp 27) 33 33 rfl rfl w.heap.size 23 i0 (.slice none 0 0) 1 24 Try.underlying33 hi hz0 hz1 hz2 rfl (by decide) _ _ _ rfl (HOW.out.alloc _) (.slice (some ⟨wr.heap.size, 0, none⟩) 1 1) 1 [_] rfl (Src.ofSlice _ Try.underlying33 _ 1 1 _ rfl (cells_new_at _ _ _ rfl) (by simp; rfl)) (by simp only [maxLen]; omega) (by omega) (by rw [World.size_alloc]; omega) ?_
          intro v' w' hown' hg' hb'
          have HO' := hid hown'
          have HBX := hid ((HB.out.alloc hsb _).trans hb')
          have HXX := hid ((HX.out.below ((Below.refl wr.heap.size wr).mono hsb |>.alloc hsb _ |>.trans hb')))
          clear hown' hg' hb'
          go_wp2
          go_roundw
          case rel => exact ⟨k + 1, _, by omega, by omega, by go_num, HO'.out, by rw [HFS.out]; exact HXX.out, HBX.out⟩
          case measure => simp [intOf]; omega
      · obtain rfl : k = 5 := by omega
        have e : few10 (l.take 5) = few10 l := by unfold few10; rw [List.take_take]; rfl
        rw [e] at hrr
        have hl5 : (few10 l).length = 5 := by unfold few10; rw [List.length_map, List.length_take]; omega
        have HRW := hid (rows_of_own hown hrr hl5.symm hsb); have HB := hid hb
        clear hown hrr hb e
        go_wp2
        go_ret
        exact ⟨_, rfl, HRW.out, HB.out⟩
    · obtain rfl : k = l.length := by omega
      rw [List.take_length] at hrr
      have hl5 : (few10 l).length = l.length := by unfold few10; rw [List.length_map, List.length_take]; omega
      have HRW := hid (rows_of_own hown hrr hl5.symm hsb); have HB := hid hb
      clear hown hrr hb
      go_wp2
      go_ret
      exact ⟨_, rfl, HRW.out, HB.out⟩
end Go.Proofs.Ytclhnnidbhchnaa
/- The walk of CuboidTwice. -/
namespace Go.Proofs.Ytclhnnidbhchnaa
open Go.ChangeShapes Go.WideShapes Go.ChangeAt Go.RowKit Go.Maps
set_option linter.unusedVariables false
set_option linter.unusedSimpArgs false

theorem rollP_res {W M : Nat} {ups : List (List Int)} {L : List KC} {w w' : World} {e : Ending} (h : RollP W M ups L w e w') :
    ∃ bv, e = .returned (.tuple #[bv, .int .i64 (rollE W ups L)]) ∧ Below w.heap.size w w' ∧ ((rollE W ups L ≠ 0 ∧ bv = .pointer none) ∨ (rollE W ups L = 0 ∧ ∃ p' m' D', bv = .pointer (some ⟨p', 0, none⟩) ∧ CubW w' D' p' m' W M (rollL (rollP ups L)))) := by
  rcases h with ⟨h1, h2, h3⟩ | ⟨h1, p', m', D', h2, h3, -, h5⟩
  · exact ⟨_, h2, h3, .inl ⟨h1, rfl⟩⟩
  · exact ⟨_, by rw [h1]; exact h2, h5, .inr ⟨h1, p', m', D', rfl, h3⟩⟩
def wayV (b : List Int) (n : Int) : Int := if 0 ≤ n ∧ n < (b.length : Int) then b.getD n.toNat 0 else -1
theorem wayRow_snoc (b l : List Int) {k : Nat} (hk : k < l.length) : wayRow (l.take (k + 1)) b = wayRow (l.take k) b ++ [wayV b (l.getD k 0)] := by
  unfold wayRow
  rw [List.take_succ_eq_append_getElem hk, List.map_append, List.getD_eq_getElem?_getD, List.getElem?_eq_getElem hk]; rfl
theorem wayL_snoc {f s : List (List Int)} {j : Nat} (hj : j < f.length) : (wayL f s).take (j + 1) = (wayL f s).take j ++ [wayRow (f.getD j []) (s.getD j [])] := by
  rw [List.take_succ_eq_append_getElem (by rw [wayL_len]; exact hj), ← wayL_at hj, List.getD_eq_getElem?_getD, List.getElem?_eq_getElem (by rw [wayL_len]; exact hj)]; rfl
def TwRel (f s : List (List Int)) (w0 : World) (out i : Value) (wr : World) : Prop :=
  ∃ (j : Nat) (us : List Value), j ≤ f.length ∧ i = .int .i64 j ∧ wr.ownsRow w0.heap.size 23 1 out j us ∧ RowsU wr w0.heap.size us ((wayL f s).take j) ∧ Below w0.heap.size w0 wr
def TwIn (a b : List Int) (wo : World) (out i : Value) (wr : World) : Prop :=
  ∃ k : Nat, k ≤ a.length ∧ i = .int .i64 k ∧ wr.ownsRow wo.heap.size 3 1 out k (ivals (wayRow (a.take k) b)) ∧ Below wo.heap.size wo wr
theorem few10_row (l : List (List Int)) (j : Nat) : ((few10 l).getD j []).length ≤ 45 := by
  unfold few10
  rw [List.getD_eq_getElem?_getD, List.getElem?_map]
  cases (l.take 5)[j]? with
  | none => simp
  | some x => simp [List.length_take]; omega
set_option maxRecDepth 100000 in
set_option maxHeartbeats 6400000 in
theorem walk_CuboidTwice (w : World) (a : Int) (ha : -9223372036854775808 ≤ a ∧ a ≤ 9223372036854775807) (v1 : Value) (l1 : List DeedX) (s1 : rdSlice 5 rdDeed w w.heap.size [v1] l1) (v2 : Value) (l2 : List (List Int)) (s2 : rdSlice 1 (rdSlice 1 rdInt) w w.heap.size [v2] l2) (v3 : Value) (l3 : List (List Int)) (s3 : rdSlice 1 (rdSlice 1 rdInt) w w.heap.size [v3] l3) :
    Calls Try.prog 4 #[.int .i64 a, v1, v2, v3] w fun e w' => e = .returned (.bool true) ∧ Below w.heap.size w w' := by
  obtain ⟨i0, hi, hx0, hx1, hx2⟩ := info_parts info_int
  obtain ⟨i1, hi1, hy0, hy1, hy2⟩ := info_parts info_ints
  have HF1 := hid (few10_any v2 l2 w (rowsC_of_rd s2))
  have HF2 := hid (fun W' (h : RowsI W' W'.heap.size v3 l3) => few10_any v3 l3 W' h)
  have HR3 := hid (rowsC_of_rd s3)
  have hd := deeds_of_rd s1
  obtain ⟨h1W, hW, -⟩ := wOf_in a
  obtain ⟨h1M, hM, -⟩ := mOf_in 0
  generalize l1.map DeedX.kc = kc at *
  have hd' := hd
  obtain ⟨A1, c1, rfl, hc1, hc1m, -⟩ := hd
  unfold maxLen at hc1m
  generalize kc.length = n1 at *
  obtain ⟨m1, hm1⟩ : ∃ m1, m1 = min n1 40 := ⟨_, rfl⟩
  have HM1 := hid hm1
  have HD := hid (hd'.head m1 (by omega))
  have hm40 : m1 ≤ 40 := by omega
  generalize kc.take m1 = l40 at *
  have HBT := hid (fun W' (h : DeedsV W' W'.heap.size (.slice A1 m1 c1) l40) => both_any a 0 (.slice A1 m1 c1) l40 W' ha (by unfold InI64; omega) h)
  have HOK := hid (addAll_ok (wOf a) (mOf 0) (l40.take 60))
  have hlen : (addAll (wOf a) (mOf 0) (l40.take 60)).length ≤ 60 := by
    have := addAll_len (wOf a) (mOf 0) (l40.take 60)
    rw [List.length_take] at this
    omega
  generalize addAll (wOf a) (mOf 0) (l40.take 60) = L at *
  generalize wOf a = W at *
  generalize mOf 0 = M at *
  clear s1 s2 s3 hd' hm1
  go_enter Try.func4, Try.ntmps4
  go_wp2_with fail
  refine HF1.out.mono ?_
  rintro e w1 ⟨vf, rfl, hrf, hb1⟩
  have hz1 := hb1.size
  have hfl := few10_len l2
  have hfr := few10_row l2
  generalize few10 l2 = F at *
  have HB1 := hid hb1; have HRF := hid hrf; have HFR := hid hfr
  have HF3 := hid (HF2.out w1 ((HR3.out.below hb1).more hz1))
  clear hb1 hrf hfr
  go_wp2_with fail
  refine HF3.out.mono ?_
  rintro e w2 ⟨vs, rfl, hrs, hb2⟩
  have hz2 := hb2.size
  generalize few10 l3 = S at *
  have hrf2 := (HRF.out.below hb2).more hz2
  have HB2 := hid (HB1.out.trans (hb2.mono hz1))
  have HD2 := hid ((HD.out.below HB2.out).more HB2.out.size)
  obtain ⟨Af, cf, rfl, hcf, hcfm, -⟩ := HRF.out
  have HRF2 := hid hrf2; have HRS2 := hid hrs
  obtain ⟨As, cs, rfl, hcs, hcsm, -⟩ := hrs
  unfold maxLen at hcfm hcsm
  clear hb2 hrf2
  go_upto_if 30 with (fail)
  go_cut [1] (fun s1 wx => s1 = .slice A1 m1 c1 ∧ w2 = wx)
  case first =>
    by_cases h1 : 40 < n1
    · have e : m1 = 40 := by have := HM1.out; omega
      have h40 : 40 ≤ c1 := by omega
      go_wp2
      go_meet
      case rel => exact ⟨by rw [e], rfl⟩
    · have e : m1 = n1 := by have := HM1.out; omega
      go_wp2
      go_meet
      case rel => exact ⟨by rw [e], rfl⟩
  case rest =>
  obtain ⟨rfl, rfl⟩ := hcut
  have HBT2 := hid (HBT.out w2 HD2.out)
  go_wp2_with fail
  refine HBT2.out.mono ?_
  rintro e w3 ⟨p, m, r, D, R, rfl, hbo, hb3⟩
  have hz3 := hb3.size
  have HC := hid hbo.1
  have hrf3 := (HRF2.out.below hb3).more hz3
  have HRS3 := hid ((HRS2.out.below hb3).more hz3)
  have HRF3 := hid hrf3
  have HRL := hid (roll_any D p m W M L _ F w3 hbo.1 HOK.out h1W hW h1M hM (by omega) hrf3)
  have HB3 := hid (HB2.out.trans (hb3.mono HB2.out.size))
  clear hbo hb3 hrf3
  go_wp2_with fail
  refine HRL.out.mono ?_
  intro e w4 hro
  obtain ⟨av, rfl, hb4, hres⟩ := rollP_res hro
  clear hro
  have hz4 := hb4.size
  have HB4 := hid (HB3.out.trans (hb4.mono HB3.out.size))
  rcases hres with ⟨hne, rfl⟩ | ⟨he1, p1, mm1, D1, rfl, hc1'⟩
  · generalize rollE W F L = en at *
    have t0 : (en != 0) = true := by simpa using hne
    clear hb4
    go_wp2_with fail
    refine (lives_any w4).mono ?_
    rintro e w5 ⟨rfl, hb5⟩
    have HB5 := hid (HB4.out.trans (hb5.mono HB4.out.size))
    clear hb5
    go_wp2
    go_ret
    exact ⟨rfl, HB5.out⟩
  have hkq := rollL_ok HOK.out he1
  have htw := fun h => roll_twice (s := S) HOK.out he1 h
  rw [he1]
  generalize hQ : rollL (rollP F L) = Q at *
  have HKQ := hid hkq.1
  have hql : Q.length ≤ 60 := by omega
  have HTW := hid htw
  have HRF4 := hid ((HRF3.out.below hb4).more hz4)
  have hrs4 := (HRS3.out.below hb4).more hz4
  have HRS4 := hid hrs4
  have HC4 := hid (HC.out.below hb4)
  have HRL2 := hid (roll_any D1 p1 mm1 W M Q _ S w4 hc1' hkq.1 h1W hW h1M hM (by omega) hrs4)
  have HFLW := hid (rollE_zero he1).1
  clear hb4 hc1' hkq htw hrs4 he1 hQ
  go_wp2_with fail
  refine HRL2.out.mono ?_
  intro e w5 hro
  obtain ⟨bv, rfl, hb5, hres⟩ := rollP_res hro
  clear hro
  have hz5 := hb5.size
  have HB5 := hid (HB4.out.trans (hb5.mono HB4.out.size))
  have HRES := hid hres
  have HSI := hid (rollE_in W S Q)
  have hsl : rollE W S Q ≠ 1 → S.length = W := fun h => by
    rcases Nat.decEq S.length W with h' | h'
    · exfalso; apply h; unfold rollE; rw [if_pos h']
    · exact h'
  have HSL := hid hsl
  have HRF5 := hid ((HRF4.out.below hb5).more hz5)
  have HRS5 := hid ((HRS4.out.below hb5).more hz5)
  have HC5 := hid (HC4.out.below hb5)
  clear hb5 hres hsl
  generalize he2q : rollE W S Q = e2 at *
  have HE2Q := hid he2q
  clear he2q
  by_cases he2 : e2 = 1
  · subst he2
    obtain ⟨-, rfl⟩ : (1 : Int) ≠ 0 ∧ bv = .pointer none := by
      rcases HRES.out with h | h
      · exact h
      · exact absurd h.1 (by decide)
    go_wp2_with fail
    refine (lives_any w5).mono ?_
    rintro e w6 ⟨rfl, hb6⟩
    have HB6 := hid (HB5.out.trans (hb6.mono HB5.out.size))
    clear hb6
    go_wp2
    go_ret
    exact ⟨rfl, HB6.out⟩
  have t1 : (e2 == 1) = false := by simpa using he2
  have hsf : S.length = F.length := (HSL.out he2).trans HFLW.out.symm
  have HSF := hid hsf
  have HW2 := hid (HTW.out he2)
  clear hsf
  go_wp2
  go_loopw [16, 17] (fun out i wr => TwRel F S w5 out i wr) (fun _ i _ => F.length - (intOf i).toNat)
  case atStart => exact ⟨0, [], by omega, rfl, World.ownsRow_nil _ _ _ _, RowsU.nil_ _ _, Below.refl _ _⟩
  case round =>
    obtain ⟨j, us, hj, rfl, hown, hrr, hb⟩ := hrel
    have hsb := hb.size
    have HOW := hid hown; have HRR := hid hrr; have HB := hid hb
    clear hown hrr
    by_cases hlt : j < F.length
    · have hjS : j < S.length := by rw [HSF.out]; exact hlt
      obtain ⟨A, c, e, -, -, hrow⟩ := HRF5.out
      injection e with e1 _ e3
      subst e1; subst e3
      obtain ⟨bf, of, uf, rfl, hbf, hcuf, hsuf⟩ := hrow j hlt
      obtain ⟨A, c, e, -, -, hrow2⟩ := HRS5.out
      injection e with e1 _ e3
      subst e1; subst e3
      obtain ⟨bs, os, us', rfl, hbs, hcus, hsus⟩ := hrow2 j hjS
      have zf := cellK hb hbf hcuf
      have zs := cellK hb hbs hcus
      have hsn := wayL_snoc (f := F) (s := S) hlt
      have hrl := HFR.out j
      generalize F.getD j [] = lf at *
      generalize S.getD j [] = ls at *
      obtain ⟨Kf, kf, rfl, hkf, hkfm⟩ := hsuf.formI
      obtain ⟨Ks, ks, rfl, hks, hksm⟩ := hsus.formI
      unfold maxLen at hkfm hksm
      have HLF := hid ((hsuf.below hb).more hsb); have HLS := hid ((hsus.below hb).more hsb)
      have HSN := hid hsn
      have hbfr : bf < wr.heap.size := by omega
      have hbsr : bs < wr.heap.size := by omega
      clear hrow hrow2 hcuf hcus hsuf hsus hsn hb
      obtain ⟨wo, rfl⟩ : ∃ wo : World, wo = wr := ⟨_, rfl⟩
      go_wp2
      go_loopw [18, 19] (fun out i wq => TwIn lf ls wo out i wq) (fun _ i _ => lf.length - (intOf i).toNat)
      case atStart => exact ⟨0, by omega, rfl, World.ownsRow_nil _ _ _ _, Below.refl _ _⟩
      case round =>
        obtain ⟨k, hk, rfl, hown, hb⟩ := hrel
        have hsb2 := hb.size
        have zf := cellK hb hbfr zf
        have zs := cellK hb hbsr zs
        have HO := hid hown; have HBI := hid hb
        by_cases hlt2 : k < lf.length
        · obtain ⟨bx, ox, rfl, hbx, hx⟩ := HLF.out.int hlt2
          have hx := cellK hb hbx hx
          have hws := wayRow_snoc ls lf hlt2
          have hwv : wayV ls (lf.getD k 0) = if 0 ≤ lf.getD k 0 ∧ lf.getD k 0 < (ls.length : Int) then ls.getD (lf.getD k 0).toNat 0 else -1 := rfl
          generalize lf.getD k 0 = n at *
          generalize wayV ls n = wv at *
          have HWS := hid hws; have HWV := hid hwv
          clear hown hws hwv
          by_cases hn : 0 ≤ n ∧ n < (ls.length : Int)
          · have hwv := HWV.out
            rw [if_pos hn] at hwv
            obtain ⟨hn0, hnl⟩ := hn
            obtain ⟨nn, rfl⟩ : ∃ nn : Nat, n = (nn : Int) := ⟨n.toNat, by omega⟩
            rw [Int.toNat_natCast] at hwv
            obtain ⟨by', oy, rfl, hby, hy⟩ := HLS.out.int (show nn < ls.length by omega)
            have hy := cellK hb hby hy
            rw [← hwv] at hy
            have hnn : nn < ls.length := by omega
            clear hwv hb
            go_wp2_with (at_builtin; refine stop_here ?_)
            refine go_on ?_
            refine app_own_at (.tmp 101) (.tmp 109) 23 23 rfl rfl wo.heap.size 3 i0 (.int .i64 0) 1 8 Try.underlying23 hi hx0 hx1 hx2 rfl (by decide) _ _ _ rfl (HO.out.alloc _) (.slice (some ⟨wr.heap.size, 0, none⟩) 1 1) 1 [.int .i64 wv] rfl (Src.ofSlice _ Try.underlying23 _ 1 1 _ rfl (cells_new_at _ _ _ rfl) (by simp; rfl)) (by simp only [maxLen]; omega) (by omega) (by rw [World.size_alloc]; omega) ?_
            intro v8 w8 hown8 hg8 hb8 hat8
            rw [show ivals (wayRow (lf.take k) ls) ++ [.int .i64 wv] = ivals (wayRow (lf.take (k + 1)) ls) by rw [HWS.out]; simp [ivals]] at hown8
            have HO8 := hid hown8
            have HB8 := hid ((HBI.out.alloc hsb2 _).trans hb8)
            clear hown8 hg8 hb8 hat8
            go_wp2
            go_roundw
            case rel => exact ⟨k + 1, by omega, by go_num, HO8.out, HB8.out⟩
            case measure => simp [intOf]; omega
          · have hwv := HWV.out
            rw [if_neg hn] at hwv
            subst hwv
            have hn' : (n < 0) ∨ (0 ≤ n ∧ ¬ n < (ls.length : Int)) := by omega
            clear hn hb
            rcases hn' with hn0 | ⟨hn0, hn1⟩
            all_goals
              go_wp2_with (at_builtin; refine stop_here ?_)
              refine go_on ?_
              refine app_own_at (.tmp 111) (.tmp 112) 23 23 rfl rfl wo.heap.size 3 i0 (.int .i64 0) 1 8 Try.underlying23 hi hx0 hx1 hx2 rfl (by decide) _ _ _ rfl (HO.out.alloc _) (.slice (some ⟨wr.heap.size, 0, none⟩) 1 1) 1 [.int .i64 (-1)] rfl (Src.ofSlice _ Try.underlying23 _ 1 1 _ rfl (cells_new_at _ _ _ rfl) (by simp; rfl)) (by simp only [maxLen]; omega) (by omega) (by rw [World.size_alloc]; omega) ?_
              intro v8 w8 hown8 hg8 hb8 hat8
              rw [show ivals (wayRow (lf.take k) ls) ++ [.int .i64 (-1)] = ivals (wayRow (lf.take (k + 1)) ls) by rw [HWS.out]; simp [ivals]] at hown8
              have HO8 := hid hown8
              have HB8 := hid ((HBI.out.alloc hsb2 _).trans hb8)
              clear hown8 hg8 hb8 hat8
              go_wp2
              go_roundw
              case rel => exact ⟨k + 1, by omega, by go_num, HO8.out, HB8.out⟩
              case measure => simp [intOf]; omega
        · obtain rfl : k = lf.length := by omega
          rw [List.take_length] at hown
          have hwl : (wayRow lf ls).length = lf.length := by simp [wayRow]
          rw [← hwl] at hown
          obtain ⟨Lv, lc, rfl, -, -, -⟩ := own_cells hown
          have hown4 := own_kept HOW.out (fun g hg => hb.block g (HOW.out.lt g hg).2)
          have hrr5 := HRR.out.app (k := wayRow lf ls) hb hown hsb
          rw [← HSN.out] at hrr5
          have HO4 := hid hown4; have HR5 := hid hrr5
          have HB4' := hid (HB.out.trans (hb.mono hsb))
          clear hown hb hown4 hrr5
          generalize (wayRow lf ls).length = ul at *
          clear hwl
          go_wp2_with (at_builtin; refine stop_here ?_)
          refine go_on ?_
          refine app_own_at (.tmp 114) (.tmp 116) 33 33 rfl rfl w5.heap.size 23 i1 (.slice none 0 0) 1 24 Try.underlying33 hi1 hy0 hy1 hy2 rfl (by decide) _ _ _ rfl (HO4.out.alloc _) (.slice (some ⟨wr.heap.size, 0, none⟩) 1 1) 1 [_] rfl (Src.ofSlice _ Try.underlying33 _ 1 1 _ rfl (cells_new_at _ _ _ rfl) (by simp; rfl)) (by simp only [maxLen]; omega) (by omega) (by rw [World.size_alloc]; omega) ?_
          intro v8 w8 hown8 hg8 hb8 hat8
          have hrow8 : RowsU w8 w5.heap.size (us ++ [.slice Lv ul lc]) ((wayL F S).take (j + 1)) := by
            refine (HR5.out.below (bl1 wr (.cells #[.slice Lv ul lc] 23))).kept (fun i hi g hg => ?_)
            have hlg := ((HR5.out.2.1 i hi).lt g hg).2
            refine hg8.block g (by rw [World.size_alloc]; omega) (fun e => own_apart (HR5.out.2.1 i hi) HO4.out (by decide) g hg e.symm)
          have HO8 := hid hown8; have HR8 := hid hrow8
          have HB8 := hid ((HB4'.out.alloc (by omega) _).trans hb8)
          clear hown8 hrow8 hg8 hb8 hat8
          go_wp2
          go_roundw
          case rel => exact ⟨j + 1, _, by omega, by go_num, HO8.out, HR8.out, HB8.out⟩
          case measure => simp [intOf]; omega
    · obtain rfl : j = F.length := by omega
      have hrows := HRR.out
      rw [List.take_of_length_le (by rw [wayL_len]; omega)] at hrows
      have hri : RowsI wr wr.heap.size _ (wayL F S) := rows_of_own (B := wr.heap.size) HOW.out ⟨hrows.1, fun i hi => Sl.of_own (hrows.2.1 i hi)⟩ (wayL_len F S).symm (Nat.le_refl _)
      have HRL3 := hid (roll_any D p m W M L _ (wayL F S) wr (HC5.out.below hb) HOK.out h1W hW h1M hM (by omega) hri)
      obtain ⟨Aw, cw, rfl, -, -⟩ := own_cells HOW.out
      have HBR := hid (HB5.out.trans (hb.mono HB5.out.size)); have HB7X := hid hb
      clear hrows hri hb
      go_wp2_with fail
      refine HRL3.out.mono ?_
      intro e w7 hro
      obtain ⟨dv, rfl, hb7, hres⟩ := rollP_res hro
      have hz7 := hb7.size
      have HB7 := hid (HBR.out.trans (hb7.mono HBR.out.size))
      have hw2 := HW2.out
      rw [hw2.1] at hres ⊢
      rcases HSI.out with rfl | rfl | rfl
      · obtain ⟨p2, m2, D2, rfl, hc2⟩ : ∃ p' m' D', bv = .pointer (some ⟨p', 0, none⟩) ∧ CubW w5 D' p' m' W M (rollL (rollP S Q)) := by
          rcases HRES.out with h | h
          · exact absurd rfl h.1
          · exact h.2
        obtain ⟨p3, m3, D3, rfl, hc3⟩ : ∃ p' m' D', dv = .pointer (some ⟨p', 0, none⟩) ∧ CubW w7 D' p' m' W M (rollL (rollP (wayL F S) L)) := by
          rcases hres with h | h
          · exact absurd rfl h.1
          · exact h.2
        rw [hw2.2 hw2.1] at hc3
        have hok := rollL_ok HKQ.out HE2Q.out
        generalize rollL (rollP S Q) = X at *
        have hxl : X.length ≤ 60 := by omega
        have hc2 := (hc2.below (HB7X.out)).below hb7
        have HPA := hid (putC_any D2 p2 m2 W M X w7 hc2 hok.1 hW hM (by omega))
        have HPB := hid (fun W' (h : Below w7.heap.size w7 W') => putC_any D3 p3 m3 W M X W' (hc3.below h) hok.1 hW hM (by omega))
        have hpl := putCub_len hok.1 hW hM (by omega)
        clear hc2 hc3 hok hres hw2 hb7 hro
        go_wp2_with fail
        refine HPA.out.mono ?_
        rintro e w8 ⟨u1, rfl, ho1, hb8⟩
        have hz8 := hb8.size
        have HB8 := hid hb8; have HO1 := hid ho1
        clear ho1 hb8
        go_wp2_with fail
        refine (HPB.out _ HB8.out).mono ?_
        rintro e w9 ⟨u2, rfl, ho2, hb9⟩
        have hz9 := hb9.size
        have HB9 := hid (HB7.out.trans ((HB8.out.trans (hb9.mono hz8)).mono HB7.out.size))
        have HSB := hid (sameB_any u1 u2 (putCub X) (putCub X) w9 (by omega) (by omega) (HO1.out.on hb9).sl ho2.sl)
        clear ho2 hb9
        go_wp2_with fail
        refine HSB.out.mono ?_
        rintro e w10 ⟨rfl, hq5⟩
        have HB10 := hid (HB9.out.trans (hq5.below _))
        clear hq5
        rw [decide_eq_true rfl]
        go_wp2_with fail
        refine (lives_any w10).mono ?_
        rintro e w11 ⟨rfl, hb11⟩
        have HB11 := hid (HB10.out.trans (hb11.mono HB10.out.size))
        clear hb11
        go_wp2
        go_ret
        exact ⟨rfl, HB11.out⟩
      · exact absurd rfl he2
      · obtain ⟨-, rfl⟩ : (14 : Int) ≠ 0 ∧ bv = .pointer none := by
          rcases HRES.out with h | h
          · exact h
          · exact absurd h.1 (by decide)
        obtain ⟨-, rfl⟩ : (14 : Int) ≠ 0 ∧ dv = .pointer none := by
          rcases hres with h | h
          · exact h
          · exact absurd h.1 (by decide)
        clear hres hw2 hb7 hro
        go_wp2_with fail
        refine (lives_any w7).mono ?_
        rintro e w8 ⟨rfl, hb8⟩
        have HB8 := hid (HB7.out.trans (hb8.mono HB7.out.size))
        clear hb8
        go_wp2
        go_ret
        exact ⟨rfl, HB8.out⟩
end Go.Proofs.Ytclhnnidbhchnaa
