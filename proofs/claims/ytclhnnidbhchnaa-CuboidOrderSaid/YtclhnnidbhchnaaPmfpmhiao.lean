/- 1 text of this claim, in build order. -/
import Derived.Test.YtclhnnidbhchnaaPlfcdkkpe
import Derived.Test.YtclhnnidbhchnaaPppmpbjnh
import Derived.Test.YtclhnnidbhchnaaPpoeeoonh
/- The walk of CuboidOrder. -/
namespace Go.Proofs.Ytclhnnidbhchnaa
open Go.ChangeShapes Go.WideShapes Go.ChangeAt Go.RowKit Go.Maps
set_option linter.unusedVariables false
set_option linter.unusedSimpArgs false

theorem pick_same (c n : Int) (w : World) (hc : InI64 c) (hn : 0 < n) (hn2 : n ≤ 9223372036854775807) : Calls Try.prog 23 #[.int .i64 c, .int .i64 n] w fun e w' => e = .returned (.int .i64 (pickN c n)) ∧ w' = w := by
  obtain ⟨hc1, hc2⟩ := hc
  have hp : pickN c n = (if c < 0 then -(c + 1) else c) % n := rfl
  by_cases h0 : c < 0
  · rw [if_pos h0] at hp
    rw [hp]; clear hp
    have h1 := Int.tmod_eq_emod_of_nonneg (a := -(c + 1)) (b := n) (by omega)
    have h2 := Int.emod_nonneg (-(c + 1)) (show n ≠ 0 by omega)
    have h3 := Int.emod_lt_of_pos (-(c + 1)) hn
    go_enter Try.func23, Try.ntmps23
    go_wp2
    go_ret
    exact ⟨rfl, rfl⟩
  · rw [if_neg h0] at hp
    rw [hp]; clear hp
    have h1 := Int.tmod_eq_emod_of_nonneg (a := c) (b := n) (by omega)
    have h2 := Int.emod_nonneg c (show n ≠ 0 by omega)
    have h3 := Int.emod_lt_of_pos c hn
    go_enter Try.func23, Try.ntmps23
    go_wp2
    go_ret
    exact ⟨rfl, rfl⟩
theorem sl_lit1 (w : World) (n : Int) : Sl (w.alloc (.cells #[.int .i64 n] 3)) (w.alloc (.cells #[.int .i64 n] 3)).heap.size (.slice (some ⟨w.heap.size, 0, none⟩) 1 1) (ivals [n]) :=
  Sl.of_own (own_lit1 w n (base := 0) rfl (Nat.zero_le _))
/-- Two cuboids, apart. -/
def TwoC (w : World) (B : Nat) (Da Db : Nat → Prop) (pa ma pb mb : Nat) (La Lb : List KC) : Prop :=
  CubW w Da pa ma 1 1 La ∧ CubW w Db pb mb 1 1 Lb ∧ (∀ k, Da k → ¬ Db k) ∧ (∀ k, Da k → B ≤ k) ∧ (∀ k, Db k → B ≤ k)
theorem TwoC.below {w w' : World} {B : Nat} {Da Db : Nat → Prop} {pa ma pb mb : Nat} {La Lb : List KC} (h : TwoC w B Da Db pa ma pb mb La Lb) (hb : Below w.heap.size w w') : TwoC w' B Da Db pa ma pb mb La Lb :=
  ⟨h.1.below hb, h.2.1.below hb, h.2.2⟩
theorem aftera {w W' w' : World} {B : Nat} {Da Db D' : Nat → Prop} {pa ma pb mb : Nat} {La Lb L' : List KC} (h : TwoC w B Da Db pa ma pb mb La Lb) (hb : Below w.heap.size w W') (hc : CubW w' D' pa ma 1 1 L') (hg : Grow W' Da D') (hu : Upd ma W' w') (hB : B ≤ w.heap.size := by omega) : ∃ Da Db, TwoC w' B Da Db pa ma pb mb L' Lb := by
  obtain ⟨h1, h2, h3, h4, h5⟩ := h.below hb
  have hz := hb.size
  have hl := h2.2.2.2.1
  refine ⟨D', Db, hc, h2.kept (fun k hk => hu.block k (hl k hk) (fun e => by injection e with e; exact h3 ma h1.2.1 (e ▸ hk))) hu.size, fun k hk hk2 => ?_, fun k hk => ?_, h5⟩
  · rcases hg.2 k hk with h | h
    · exact h3 k h hk2
    · have := hl k hk2; omega
  · rcases hg.2 k hk with h | h
    · exact h4 k h
    · omega
theorem afterb {w W' w' : World} {B : Nat} {Da Db D' : Nat → Prop} {pa ma pb mb : Nat} {La Lb L' : List KC} (h : TwoC w B Da Db pa ma pb mb La Lb) (hb : Below w.heap.size w W') (hc : CubW w' D' pb mb 1 1 L') (hg : Grow W' Db D') (hu : Upd mb W' w') (hB : B ≤ w.heap.size := by omega) : ∃ Da Db, TwoC w' B Da Db pa ma pb mb La L' := by
  obtain ⟨h1, h2, h3, h4, h5⟩ := h.below hb
  have hz := hb.size
  have hl := h1.2.2.2.1
  refine ⟨Da, D', h1.kept (fun k hk => hu.block k (hl k hk) (fun e => by injection e with e; exact h3 k hk (e ▸ h2.2.1))) hu.size, hc, fun k hk hk2 => ?_, h4, fun k hk => ?_⟩
  · rcases hg.2 k hk2 with h | h
    · exact h3 k hk h
    · have := hl k hk; omega
  · rcases hg.2 k hk with h | h
    · exact h5 k h
    · omega
def kvX (ks vs : List Int) (n : Nat) : List KV := (List.range n).map fun i => ([pickN (ks.getD i 0) 5], pickN (vs.getD i 0) 1125899906842624)
theorem kvX_ok (ks vs : List Int) {n : Nat} (hn : n ≤ 40) : OkX (kvX ks vs n) := by
  refine ⟨by simp [kvX, hn], fun x hx => ?_⟩
  obtain ⟨i, hi, rfl⟩ := List.mem_map.1 hx
  have h1 := pickN_in (ks.getD i 0) 5 (by omega)
  have h2 := pickN_in (vs.getD i 0) 1125899906842624 (by omega)
  refine ⟨⟨rfl, fun y hy => ?_⟩, h2⟩
  have hy : y ∈ [pickN (ks.getD i 0) 5] := hy
  rw [List.mem_singleton] at hy
  rw [hy]
  omega
theorem OkX.part {X Y : List KV} (h : OkX X) (hl : Y.length ≤ X.length) (hm : ∀ x ∈ Y, x ∈ X) : OkX Y := ⟨Nat.le_trans hl h.1, fun x hx => h.2 x (hm x hx)⟩
theorem take_succV {X : List KV} {i : Nat} {x : KV} (h : X[i]? = some x) : X.take (i + 1) = X.take i ++ [x] := by
  have hi : i < X.length := (List.getElem?_eq_some_iff.1 h).1
  rw [List.take_succ_eq_append_getElem hi]
  rw [List.getElem?_eq_getElem hi] at h
  rw [Option.some.inj h]
theorem kvX_at (ks vs : List Int) {n i : Nat} (hi : i < n) : (kvX ks vs n)[i]? = some ([pickN (ks.getD i 0) 5], pickN (vs.getD i 0) 1125899906842624) := by
  simp [kvX, hi]
theorem kvX_back (ks vs : List Int) {n i : Nat} (hi : i < n) : (kvX ks vs n).reverse[i]? = some ([pickN (ks.getD (n - 1 - i) 0) 5], pickN (vs.getD (n - 1 - i) 0) 1125899906842624) := by
  have hl : (kvX ks vs n).length = n := by simp [kvX]
  rw [List.getElem?_reverse (by omega), hl]
  exact kvX_at ks vs (by omega)
theorem addAll_okO (W M : Nat) (l : List KC) : OkL W M (addAll W M l) := by
  unfold addAll
  suffices h : ∀ (l L : List KC), OkL W M L → OkL W M (l.foldl (fun L x => (addK W M L x.1 x.2).1) L) from h l [] (OkL.nil_ W M)
  intro l
  induction l with
  | nil => exact fun L h => h
  | cons x l ih => exact fun L h => ih _ (addK_ok h x.1 x.2)
theorem addAll_lenO (W M : Nat) (l : List KC) : (addAll W M l).length ≤ l.length := by
  unfold addAll
  suffices h : ∀ (l L : List KC), OkL W M L → (l.foldl (fun L x => (addK W M L x.1 x.2).1) L).length ≤ L.length + l.length by
    have := h l [] (OkL.nil_ W M); simpa using this
  intro l
  induction l with
  | nil => exact fun L h => by simp
  | cons x l ih =>
    intro L h
    have h1 := ih _ (addK_ok h x.1 x.2)
    have h2 := addK_len h x.1 x.2
    rw [List.foldl_cons, List.length_cons]
    omega
def OwRel (X : List KV) (pa ma pb mb : Nat) (w : World) (i : Value) (wr : World) : Prop :=
  ∃ (k : Nat) (Da Db : Nat → Prop), k ≤ X.length ∧ i = .int .i64 k ∧ TwoC wr w.heap.size Da Db pa ma pb mb (addAll 1 1 (kvs (X.take k))) (addAll 1 1 (kvs (X.reverse.take k))) ∧ Below w.heap.size w wr
def AcP (wr w : World) (pa ma pb mb : Nat) (LA LB : List KC) (s : Value) (wx : World) : Prop := ∃ wy, wy = wx ∧ s = .int .i64 0 ∧ (∃ Da Db, TwoC wy w.heap.size Da Db pa ma pb mb LA LB) ∧ Below w.heap.size wr wy
set_option maxRecDepth 100000 in
set_option maxHeartbeats 6400000 in
theorem walk_CuboidOrder (w : World) (v0 : Value) (l0 : List Int) (s0 : Sl w w.heap.size v0 (ivals l0)) (b0 : ∀ x ∈ l0, -9223372036854775808 ≤ x ∧ x ≤ 9223372036854775807) (v1 : Value) (l1 : List Int) (s1 : Sl w w.heap.size v1 (ivals l1)) (b1 : ∀ x ∈ l1, -9223372036854775808 ≤ x ∧ x ≤ 9223372036854775807) :
    Calls Try.prog 5 #[v0, v1] w fun e w' => e = .returned (.bool true) ∧ Below w.heap.size w w' := by
  obtain ⟨A0, c0, rfl, hc0, hm0⟩ := s0.formI
  obtain ⟨A1, c1, rfl, hc1, hm1⟩ := s1.formI
  unfold maxLen at hm0 hm1
  have S0 := hid s0; have S1 := hid s1; have B0 := hid b0; have B1 := hid b1
  clear s0 s1 b0 b1
  have HN := hid (fun W' => (show Calls Try.prog 21 #[.int .i64 1, .int .i64 1] W' (NewCP 1 1 W') from newC_yes 1 1 W' (by omega) (by omega) (by omega) (by omega)))
  go_enter Try.func5, Try.ntmps5
  go_wp2_with fail
  refine (HN.out _).mono ?_
  rintro e w1 ⟨pa, ma, Da, rfl, hca, hda, hb1⟩
  have HCA := hid hca; have HDA := hid hda; have HB1 := hid hb1
  have hz1 := hb1.size
  clear hca hda hb1
  go_wp2_with fail
  refine (HN.out _).mono ?_
  rintro e w2 ⟨pb, mb, Db, rfl, hcb, hdb, hb2⟩
  have hz2 := hb2.size
  have hma : w.heap.size ≤ ma := HDA.out ma HCA.out.2.1
  have hmb : w.heap.size ≤ mb := Nat.le_trans hz1 (hdb mb hcb.2.1)
  have HT := hid (show TwoC w2 w.heap.size Da Db pa ma pb mb [] [] from ⟨HCA.out.below hb2, hcb, fun k hk hk2 => by
    have h1 := HCA.out.2.2.2.1 k hk
    have h2 := hdb k hk2
    omega, HDA.out, fun k hk => Nat.le_trans hz1 (hdb k hk)⟩)
  have HB2 := hid (HB1.out.trans (hb2.mono hz1))
  clear hcb hdb hb2
  obtain ⟨n, hn⟩ : ∃ n, n = min (min l0.length l1.length) 40 := ⟨_, rfl⟩
  have hn0 : n ≤ l0.length := by omega
  have hn1 : n ≤ l1.length := by omega
  have hn40 : n ≤ 40 := by omega
  obtain ⟨n1, hn1'⟩ : ∃ n1, n1 = min l0.length l1.length := ⟨_, rfl⟩
  have HNN := hid (show n = min n1 40 by omega)
  have HN1 := hid hn1'
  clear hn hn1'
  go_upto_if 26 with (fail)
  go_cut [7] (fun s7 wx => s7 = .int .i64 n1 ∧ w2 = wx)
  case first =>
    by_cases h1 : l1.length < l0.length
    · have e : n1 = l1.length := by have := HN1.out; omega
      go_wp2
      go_meet
      case rel => exact ⟨by rw [e], rfl⟩
    · have e : n1 = l0.length := by have := HN1.out; omega
      go_wp2
      go_meet
      case rel => exact ⟨by rw [e], rfl⟩
  case rest =>
  obtain ⟨rfl, rfl⟩ := hcut
  go_upto_if 30 with (fail)
  go_cut [7] (fun s7 wx => s7 = .int .i64 n ∧ w2 = wx)
  case first =>
    by_cases h2 : 40 < n1
    · have e : n = 40 := by have := HNN.out; omega
      go_wp2
      go_meet
      case rel => exact ⟨by rw [e]; rfl, rfl⟩
    · have e : n = n1 := by have := HNN.out; omega
      go_wp2
      go_meet
      case rel => exact ⟨by rw [e], rfl⟩
  case rest =>
  obtain ⟨rfl, rfl⟩ := hcut
  have HX := hid (kvX_ok l0 l1 hn40)
  have hXl : (kvX l0 l1 n).length = n := by simp [kvX]
  go_wp2
  go_loopw [8] (fun i wr => OwRel (kvX l0 l1 n) pa ma pb mb w i wr) (fun i _ => n - (intOf i).toNat)
  case atStart => exact ⟨0, Da, Db, by omega, rfl, HT.out, HB2.out⟩
  case round =>
    obtain ⟨i, D1, D2, hi, rfl, ht, hbw⟩ := hrel
    rw [hXl] at hi
    have hsr := hbw.size
    by_cases hlt : i < n
    · obtain ⟨xn, hxn⟩ : ∃ x, x = n - 1 - i := ⟨_, rfl⟩
      have hxl : xn < n := by omega
      have li0 : i < l0.length := by omega
      have li1 : i < l1.length := by omega
      have lx0 : xn < l0.length := by omega
      have lx1 : xn < l1.length := by omega
      have exn : ((n : Int) - 1 - (i : Int)) = (xn : Int) := by omega
      obtain ⟨bk, ok, rfl, hbk, f1⟩ := S0.out.int (show i < l0.length by omega)
      obtain ⟨bv, ov, rfl, hbv, f2⟩ := S1.out.int (show i < l1.length by omega)
      have g1 := (S0.out.cellInt (show xn < l0.length by omega)).2
      have g2 := (S1.out.cellInt (show xn < l1.length by omega)).2
      have f1 := cellK hbw hbk f1
      have f2 := cellK hbw hbv f2
      have i1 := B0.out _ (getD_mem (show i < l0.length by omega))
      have i2 := B1.out _ (getD_mem (show i < l1.length by omega))
      have j1 := B0.out _ (getD_mem (show xn < l0.length by omega))
      have j2 := B1.out _ (getD_mem (show xn < l1.length by omega))
      have ta := take_succV (kvX_at l0 l1 hlt)
      have tb := take_succV (kvX_back l0 l1 hlt)
      rw [← hxn] at tb
      have oa := OkX.part (Y := (kvX l0 l1 n).take (i + 1)) HX.out (by rw [List.length_take]; omega) (fun x hx => List.mem_of_mem_take hx)
      have ob := OkX.part (Y := (kvX l0 l1 n).reverse.take (i + 1)) HX.out (by rw [List.length_take, List.length_reverse]; omega) (fun x hx => List.mem_reverse.1 (List.mem_of_mem_take hx))
      rw [ta] at oa
      rw [tb] at ob
      have ca := add_code oa
      have cb := add_code ob
      have la : addAll 1 1 (kvs ((kvX l0 l1 n).take (i + 1))) = (addK 1 1 (addAll 1 1 (kvs ((kvX l0 l1 n).take i))) [pickN (l0.getD i 0) 5] (oneC (pickN (l1.getD i 0) 1125899906842624))).1 := by rw [ta, kvs_snoc, addAll_snoc]
      have lb : addAll 1 1 (kvs ((kvX l0 l1 n).reverse.take (i + 1))) = (addK 1 1 (addAll 1 1 (kvs ((kvX l0 l1 n).reverse.take i))) [pickN (l0.getD xn 0) 5] (oneC (pickN (l1.getD xn 0) 1125899906842624))).1 := by rw [tb, kvs_snoc, addAll_snoc]
      have ka : OkL 1 1 (addAll 1 1 (kvs ((kvX l0 l1 n).take i))) := addAll_okO _ _ _
      have kb : OkL 1 1 (addAll 1 1 (kvs ((kvX l0 l1 n).reverse.take i))) := addAll_okO _ _ _
      have na : (addAll 1 1 (kvs ((kvX l0 l1 n).take i))).length ≤ 60 := Nat.le_trans (addAll_lenO _ _ _) (by simp [kvs]; omega)
      have nb : (addAll 1 1 (kvs ((kvX l0 l1 n).reverse.take i))).length ≤ 60 := Nat.le_trans (addAll_lenO _ _ _) (by simp [kvs]; omega)
      simp only at ca cb
      generalize l0.getD i 0 = kx at *
      generalize l1.getD i 0 = vx at *
      generalize l0.getD xn 0 = ky at *
      generalize l1.getD xn 0 = vy at *
      generalize addAll 1 1 (kvs ((kvX l0 l1 n).take i)) = LA at *
      generalize addAll 1 1 (kvs ((kvX l0 l1 n).reverse.take i)) = LB at *
      generalize hLA1 : (addK 1 1 LA [pickN kx 5] (oneC (pickN vx 1125899906842624))).1 = LA1 at *
      generalize hLB1 : (addK 1 1 LB [pickN ky 5] (oneC (pickN vy 1125899906842624))).1 = LB1 at *
      have HLA := hid la; have HLB := hid lb
      have HJ1 := hid j1; have HJ2 := hid j2; have HG1 := hid g1; have HG2 := hid g2; have HCB := hid cb; have HKB := hid kb; have HLB1 := hid hLB1
      have hma' := hma
      have hmwa : ma < wr.heap.size := ht.1.2.2.2.1 ma ht.1.2.1
      have HP1 := hid (fun W' => pick_same kx 5 W' i1 (by omega) (by omega))
      have HP2 := hid (fun W' => pick_same vx 1125899906842624 W' i2 (by omega) (by omega))
      have hpx := pickN_in kx 5 (by omega)
      generalize pickN kx 5 = px at *
      generalize pickN vx 1125899906842624 = pv at *
      have HON := hid (fun W' => one_any pv W')
      have HAD0 := hid (fun (W' : World) (kv xv : Value) (hb : Below wr.heap.size wr W') (hs : Sl W' W'.heap.size kv (ivals [px])) (hx : CellR W' W'.heap.size xv (oneC pv)) =>
        (addC_any D1 pa ma 1 1 LA kv xv [px] (oneC pv) W' (ht.1.below hb) ka (by omega) (by omega) (by omega) (by omega) hs hx).mono (fun e w' h => show ∃ D8, e = .returned (.int .i64 0) ∧ CubW w' D8 pa ma 1 1 LA1 ∧ Grow W' D1 D8 ∧ Upd ma W' w' ∧ Below wr.heap.size wr W' by
          obtain ⟨D8, e1, e2, e3, e4⟩ := h
          rw [ca] at e1
          rw [hLA1] at e2
          exact ⟨D8, e1, e2, e3, e4, hb⟩))
      have HT0 := hid ht; have HBW := hid hbw
      clear hxn ht hbw i1 i2 j1 j2 ta tb oa ob ca cb la lb ka kb g1 g2 hLA1 hLB1 hpx
      go_upto_region 14 with (fail)
      go_cut [10] from 40 to 53 (fun s10 wx => AcP wr w pa ma pb mb LA1 LB s10 wx)
      case first =>
        go_wp2
        go_region_held3 (fun w' => w'.cell? ⟨bk, ok + i, none⟩ = some (.int .i64 kx) ∧ w'.cell? ⟨bv, ov + i, none⟩ = some (.int .i64 vx)) (go_keep) ((first | ((with_reducible refine (HP1.out _).mono ?_); rintro e wp ⟨rfl, rfl⟩) | ((with_reducible refine (HP2.out _).mono ?_); rintro e wp ⟨rfl, rfl⟩) | ((with_reducible refine (HON.out wr.drew).mono ?_); rintro e wo ⟨xv, rfl, ho, hbo⟩; have hzo := hbo.size; have hbo2 : Below wr.heap.size wr wo := (Below.refl _ _).drew.trans hbo; have f1 := cellK hbo2 (by omega) f1; have f2 := cellK hbo2 (by omega) f2; have hso := hbo2.size; have HAD := hid (HAD0.out (wo.alloc (.cells #[.int .i64 px] 3)) (.slice (some ⟨wo.heap.size, 0, none⟩) 1 1) xv (hbo2.trans ((bl1 wo _).mono hso)) (sl_lit1 wo px) ((ho.read.below (bl1 wo _)).more (bl1 wo _).size)); clear ho hbo) | ((with_reducible refine (HON.out _).mono ?_); rintro e wo ⟨xv, rfl, ho, hbo⟩; have hzo := hbo.size; have hbo2 : Below wr.heap.size wr wo := ((bl1 wr (.cells #[.int .i64 px] 3)).drew).trans (hbo.mono (by show wr.heap.size ≤ (wr.alloc _).heap.size; simp)); have f1 := cellK hbo2 (by omega) f1; have f2 := cellK hbo2 (by omega) f2; have hso := hbo2.size; have HAD := hid (HAD0.out wo (.slice (some ⟨wr.heap.size, 0, none⟩) 1 1) xv hbo2 (((sl_lit1 wr px).below (B := (wr.alloc (.cells #[.int .i64 px] 3)).heap.size) (((Below.refl _ _).drew).trans hbo)).more hzo) ho.read); clear ho hbo) | ((with_reducible refine HAD.out.mono ?_); rintro e w8 ⟨D8, rfl, hc8, hg8, hu8, hb08⟩; have HX8 := hid (aftera HT0.out hb08 hc8 hg8 hu8); have hw8 := hu8.below hma (Nat.lt_of_lt_of_le hmwa hb08.size); have HB8 := hid ((hb08.mono hsr).trans hw8); have f1 : w8.cell? ⟨bk, ok + i, none⟩ = some (.int .i64 kx) := (by first | exact cellK hw8 hbk f1 | exact cellK hw8 hbk (cellK (bl1 _ _) (by omega) f1)); have f2 : w8.cell? ⟨bv, ov + i, none⟩ = some (.int .i64 vx) := (by first | exact cellK hw8 hbv f2 | exact cellK hw8 hbv (cellK (bl1 _ _) (by omega) f2)); clear hc8 hg8 hu8 hw8)))
        all_goals go_wp2
        all_goals go_meet
        all_goals
          case rel => exact ⟨_, rfl, rfl, HX8.out, HB8.out⟩
      case rest =>
      obtain ⟨wz, rfl, rfl, ⟨E1, E2, htz⟩, hbz⟩ := hcut
      have hsz0 := hbz.size
      have hsz : w.heap.size ≤ wz.heap.size := by omega
      have f1 := cellK (HBW.out.trans hbz) hbk HG1.out
      have f2 := cellK (HBW.out.trans hbz) hbv HG2.out
      have hmwb : mb < wz.heap.size := htz.2.1.2.2.2.1 mb htz.2.1.2.1
      clear HP1 HP2 HON HAD0 HT0
      have HP1 := hid (fun W' => pick_same ky 5 W' HJ1.out (by omega) (by omega))
      have HP2 := hid (fun W' => pick_same vy 1125899906842624 W' HJ2.out (by omega) (by omega))
      have hpy := pickN_in ky 5 (by omega)
      have hcb := HCB.out; have hLB1 := HLB1.out
      generalize pickN ky 5 = py at *
      generalize pickN vy 1125899906842624 = qv at *
      have HON := hid (fun W' => one_any qv W')
      have HAD0 := hid (fun (W' : World) (kv xv : Value) (hb : Below wz.heap.size wz W') (hs : Sl W' W'.heap.size kv (ivals [py])) (hx : CellR W' W'.heap.size xv (oneC qv)) =>
        (addC_any E2 pb mb 1 1 LB kv xv [py] (oneC qv) W' (htz.2.1.below hb) HKB.out (by omega) (by omega) (by omega) (by omega) hs hx).mono (fun e w' h => show ∃ D8, e = .returned (.int .i64 0) ∧ CubW w' D8 pb mb 1 1 LB1 ∧ Grow W' E2 D8 ∧ Upd mb W' w' ∧ Below wz.heap.size wz W' by
          obtain ⟨D8, e1, e2, e3, e4⟩ := h
          rw [hcb] at e1
          rw [hLB1] at e2
          exact ⟨D8, e1, e2, e3, e4, hb⟩))
      have HT0 := hid htz
      have HBZ := hid (HBW.out.trans hbz)
      clear htz hbz hcb hLB1 hpy
      go_upto_region 15 with (fail)
      go_cut [11] from 54 to 67 (fun s11 wx => AcP wz w pa ma pb mb LA1 LB1 s11 wx)
      case first =>
        go_wp2
        go_region_held3 (fun w' => w'.cell? ⟨bk, ok + xn, none⟩ = some (.int .i64 ky) ∧ w'.cell? ⟨bv, ov + xn, none⟩ = some (.int .i64 vy)) (go_keep) ((first | ((with_reducible refine (HP1.out _).mono ?_); rintro e wp ⟨rfl, rfl⟩) | ((with_reducible refine (HP2.out _).mono ?_); rintro e wp ⟨rfl, rfl⟩) | ((with_reducible refine (HON.out wz.drew).mono ?_); rintro e wo ⟨xv, rfl, ho, hbo⟩; have hzo := hbo.size; have hbo2 : Below wz.heap.size wz wo := (Below.refl _ _).drew.trans hbo; have f1 := cellK hbo2 (by omega) f1; have f2 := cellK hbo2 (by omega) f2; have hso := hbo2.size; have HAD := hid (HAD0.out (wo.alloc (.cells #[.int .i64 py] 3)) (.slice (some ⟨wo.heap.size, 0, none⟩) 1 1) xv (hbo2.trans ((bl1 wo _).mono hso)) (sl_lit1 wo py) ((ho.read.below (bl1 wo _)).more (bl1 wo _).size)); clear ho hbo) | ((with_reducible refine (HON.out _).mono ?_); rintro e wo ⟨xv, rfl, ho, hbo⟩; have hzo := hbo.size; have hbo2 : Below wz.heap.size wz wo := ((bl1 wz (.cells #[.int .i64 py] 3)).drew).trans (hbo.mono (by show wz.heap.size ≤ (wz.alloc _).heap.size; simp)); have f1 := cellK hbo2 (by omega) f1; have f2 := cellK hbo2 (by omega) f2; have hso := hbo2.size; have HAD := hid (HAD0.out wo (.slice (some ⟨wz.heap.size, 0, none⟩) 1 1) xv hbo2 (((sl_lit1 wz py).below (B := (wz.alloc (.cells #[.int .i64 py] 3)).heap.size) (((Below.refl _ _).drew).trans hbo)).more hzo) ho.read); clear ho hbo) | ((with_reducible refine HAD.out.mono ?_); rintro e w8 ⟨D8, rfl, hc8, hg8, hu8, hb08⟩; have HX8 := hid (afterb HT0.out hb08 hc8 hg8 hu8); have hw8 := hu8.below hmb (Nat.lt_of_lt_of_le hmwb hb08.size); have HB8 := hid ((hb08.mono hsz).trans hw8); have f1 : w8.cell? ⟨bk, ok + xn, none⟩ = some (.int .i64 ky) := (by first | exact cellK hw8 hbk f1 | exact cellK hw8 hbk (cellK (bl1 _ _) (by omega) f1)); have f2 : w8.cell? ⟨bv, ov + xn, none⟩ = some (.int .i64 vy) := (by first | exact cellK hw8 hbv f2 | exact cellK hw8 hbv (cellK (bl1 _ _) (by omega) f2)); clear hc8 hg8 hu8 hw8)))
        all_goals go_wp2
        all_goals go_meet
        all_goals
          case rel => exact ⟨_, rfl, rfl, HX8.out, HB8.out⟩
      case rest =>
      obtain ⟨wy, rfl, rfl, ⟨E3, E4, hty⟩, hby⟩ := hcut
      have HTY := hid hty; have HBY := hid (HBZ.out.trans hby)
      clear hty hby f1 f2
      go_wp2
      go_roundw
      case rel => exact ⟨i + 1, E3, E4, by omega, by go_num, by rw [HLA.out, HLB.out]; exact HTY.out, HBY.out⟩
      case measure => simp [intOf]; omega
    · obtain rfl : i = n := by omega
      have e1 : (kvX l0 l1 i).take i = kvX l0 l1 i := List.take_of_length_le (by omega)
      have e2 : (kvX l0 l1 i).reverse.take i = (kvX l0 l1 i).reverse := List.take_of_length_le (by rw [List.length_reverse]; omega)
      rw [e1, e2, add_back HX.out] at ht
      have hok := addAll_okO 1 1 (kvs (kvX l0 l1 i))
      have hle : (addAll 1 1 (kvs (kvX l0 l1 i))).length ≤ 60 := Nat.le_trans (addAll_lenO _ _ _) (by simp [kvs]; omega)
      generalize addAll 1 1 (kvs (kvX l0 l1 i)) = L at *
      have HPA := hid (putC_any D1 pa ma 1 1 L wr ht.1 hok (by omega) (by omega) (by omega))
      have HPB := hid (fun W' (h : Below wr.heap.size wr W') => putC_any D2 pb mb 1 1 L W' (ht.2.1.below h) hok (by omega) (by omega) (by omega))
      have hpl := putCub_len hok (by omega) (by omega) (by omega)
      have HBW := hid hbw
      clear ht hbw hok e1 e2
      go_wp2_with fail
      refine HPA.out.mono ?_
      rintro e w3 ⟨u1, rfl, ho1, hb3⟩
      have hz3 := hb3.size
      have HB3 := hid hb3; have HO1 := hid ho1
      clear ho1 hb3
      go_wp2_with fail
      refine (HPB.out _ HB3.out).mono ?_
      rintro e w4 ⟨u2, rfl, ho2, hb4⟩
      have hz4 := hb4.size
      have HB4 := hid (HBW.out.trans ((HB3.out.trans (hb4.mono hz3)).mono hsr))
      have HSB := hid (sameB_any u1 u2 (putCub L) (putCub L) w4 (by omega) (by omega) (HO1.out.on hb4).sl ho2.sl)
      clear ho2 hb4
      go_wp2_with fail
      refine HSB.out.mono ?_
      rintro e w5 ⟨rfl, hq5⟩
      have HB5 := hid (HB4.out.trans (hq5.below _))
      clear hq5
      rw [decide_eq_true rfl]
      go_wp2_with fail
      refine (lives_any w5).mono ?_
      rintro e w6 ⟨rfl, hb6⟩
      have HB6 := hid (HB5.out.trans (hb6.mono HB5.out.size))
      clear hb6
      go_wp2
      go_ret
      exact ⟨rfl, HB6.out⟩
end Go.Proofs.Ytclhnnidbhchnaa
