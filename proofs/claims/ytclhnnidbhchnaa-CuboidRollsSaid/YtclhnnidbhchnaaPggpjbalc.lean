/- 2 texts of this claim, in build order. -/
import Derived.Test.YtclhnnidbhchnaaPflgikgkp
import Derived.Test.YtclhnnidbhchnaaPofndobli
import Derived.Test.YtclhnnidbhchnaaPbhifglcj
import Derived.Test.YtclhnnidbhchnaaPmfcgbcdp
import Derived.BigQuiet
import Derived.Deep.QuietTactic
import Derived.Test.YtclhnnidbhchnaaPakejhijj
/- The law's like. -/
namespace Go.Proofs.Ytclhnnidbhchnaa
open Go.ChangeShapes Go.WideShapes Go.ChangeAt Go.RowKit Go.Maps
set_option linter.unusedVariables false
set_option linter.unusedSimpArgs false

def LkRel (L : List KC) (w2 : World) (i : Value) (wr : World) : Prop := ∃ k : Nat, k ≤ L.length ∧ i = .int .i64 k ∧ Below w2.heap.size w2 wr
theorem putCub_len {W M : Nat} {L : List KC} (hs : OkL W M L) (hW : W ≤ 3) (hM : M ≤ 2) (hL : L.length ≤ 600) : (putCub L).length ≤ 70000 := by
  have h1 := putKCs_len hs hW hM
  have h2 := putInt_le (L.length : Int)
  unfold putCub
  rw [List.length_append]
  omega
set_option maxRecDepth 100000 in
set_option maxHeartbeats 6400000 in
theorem like_any (D R : Nat → Prop) (p m r W M : Nat) (L : List KC) (w : World) (hc : CubW w D p m W M L) (hr : RefC w R r W M L) (hs : OkL W M L) (h1W : 1 ≤ W) (hW : W ≤ 3) (hM : M ≤ 2) (hL : L.length ≤ 600) :
    Calls Try.prog 27 #[.pointer (some ⟨p, 0, none⟩), .pointer (some ⟨r, 0, none⟩)] w (LivP w) := by
  have hr0 := hr
  obtain ⟨h1, h2, h3, h4, h5, u, es, h6, h7, h8, h9⟩ := hr
  have hrl := h2 r h1
  obtain ⟨Au, cu, rfl⟩ := own_formN h7
  have HEL := hid (fun j (hj : j < L.length) => RefC.elem h7 h9 hj)
  have HC := hid hc; have HR := hid hr0; have HS := hid hs
  have HKS := hid (keys_any D p m W M L w hc hs hW (by omega))
  clear hc hr0 hs h1 h2 h3 h4 h5 h7 h8 h9
  go_enter Try.func27, Try.ntmps27
  go_wp2_with fail
  refine HKS.out.mono ?_
  rintro e w1 ⟨kv, us, rfl, hown, hrows, hb1⟩
  have hz1 := hb1.size
  rw [List.length_map] at hown
  have hown' := hown
  obtain ⟨A, ca, rfl, -, hca, hAk⟩ := own_cells hown
  unfold maxLen at hca
  have y2 := cellK hb1 hrl h6
  have HLN := hid (fun W' (h : Qu w1 W') => len_any D p m W M L W' ((HC.out.below hb1).qu h))
  have HB1 := hid hb1; have HOW := hid hown'; have HRW := hid hrows; have HAK := hid hAk
  clear hb1 hown hown' hrows hAk
  go_wp2
  go_quiet (first | (go_at_call 56; exact Calls.quiet_of (HLN.out _ ⟨_, rfl⟩)))
  have hq2 : Qu w1 (w1.drewN nq) := ⟨nq, rfl⟩
  have hz2 : (w1.drewN nq).heap.size = w1.heap.size := rfl
  generalize w1.drewN nq = w2 at *
  have HB12 := hid (hq2.below w1.heap.size)
  have y2 := cellK HB12.out (by omega) y2
  have HB2 := hid (HB1.out.trans (HB12.out.mono hz1))
  clear hq2
  go_wp2
  go_loopw [6] (fun i wr => LkRel L w2 i wr) (fun i _ => L.length - (intOf i).toNat)
  case atStart => exact ⟨0, by omega, rfl, Below.refl _ _⟩
  case round =>
    obtain ⟨k, hk, rfl, hb⟩ := hrel
    have hsb := hb.size
    have hbw := HB2.out.trans (hb.mono (by omega))
    have hb1r := HB12.out.trans (hb.mono (by omega))
    have y2 := cellK hb (by omega) y2
    by_cases hlt : k < L.length
    · obtain ⟨ga, rfl, -, hga, -⟩ := HAK.out (by omega)
      have hku : us.length = L.length := by have := HRW.out.1; rw [List.length_map] at this; exact this
      have z0 : w1.cell? ⟨ga, k, none⟩ = some (us.getD k undef) := by
        rw [HOW.out.cellAt k (by omega), List.getD_eq_getElem?_getD, List.getElem?_eq_getElem (by omega)]; rfl
      have hrow := HRW.out.2.1 k (by rw [List.length_map]; exact hlt)
      have e0 : (L.map Prod.fst).getD k [] = (L.getD k zK).1 := by simp [List.getD_eq_getElem?_getD, hlt]
      rw [e0] at hrow
      obtain ⟨g, cap, K, kc, A1, c1, A2, c2, A3, c3, e1, hg0, hgl, hnc, hcm, -, q0, q1, q2, q3, q4, hsk, hce⟩ := HEL.out k hlt
      injection e1 with e1 _ e2
      subst e1; subst e2
      have q0 := cellK hbw hgl q0
      have q1 := cellK hbw hgl q1
      have q2 := cellK hbw hgl q2
      have q3 := cellK hbw hgl q3
      have q4 := cellK hbw hgl q4
      have z0 := cellK hb1r hga z0
      have hmem := getD_memK hlt
      have hok : okB W (L.getD k zK).1 = true := decide_eq_true (HS.out.key _ hmem)
      have hgc : getC L (L.getD k zK).1 = (L.getD k zK).2 := by unfold getC; rw [getK_of_mem HS.out.sort hmem]; rfl
      have hgs : (getK L (L.getD k zK).1).isSome = true := by rw [getK_of_mem HS.out.sort hmem]; rfl
      generalize (L.getD k zK).2 = c at *
      generalize (L.getD k zK).1 = key at *
      generalize us.getD k undef = uv at *
      obtain ⟨Ku, ku, rfl, -, -, -⟩ := own_cells hrow
      have hs1 : Sl wr wr.heap.size (.slice Ku key.length ku) (ivals key) := ((Sl.of_own hrow).below hb1r).more (by omega)
      have hs2 : Sl wr wr.heap.size (.slice K key.length kc) (ivals key) := (hsk.sl.below hbw).more (by omega)
      have HSM := hid (fun W' (hq : Qu wr W') => same8_any (.slice Ku key.length ku) (.slice K key.length kc) key key W' wr.heap.size wr.heap.size (hs1.qu' hq) (hs2.qu' hq))
      rw [decide_eq_true rfl] at HSM
      have SL1 := hid hs1; have HCE := hid hce.read; have HOK := hid hok
      have hcw := HC.out.below hbw
      have HG := hid (fun W' (h : Below wr.heap.size wr W') => getC_yes D p m W M L (.slice Ku key.length ku) key W' (hcw.below (h.mono (by have := hcw.2.2.2.1; omega))) HS.out ((hs1.below h).more h.size) h1W hW hM hok)
      rw [hgc, hgs] at HG
      have HBW := hid hbw; have HBB := hid hb
      have hgw : g < wr.heap.size := by omega
      have hrw : r < wr.heap.size := by omega
      clear hs1 hs2 hsk hce hok hgc hgs hmem hrow e0 hbw hb hb1r hcw
      go_upto_region 7 with (fail)
      go_quiet (first | (go_at_call 59; exact Calls.quiet_of (HSM.out _ ⟨_, rfl⟩)))
      have hq3 : Qu wr (wr.drewN nq) := ⟨nq, rfl⟩
      have hz3 : (wr.drewN nq).heap.size = wr.heap.size := rfl
      generalize wr.drewN nq = w3 at *
      have HB3 := hid (hq3.below wr.heap.size)
      have y2 : w3.cell? _ = _ := (hq3.cell _).trans y2
      have z0 : w3.cell? _ = _ := (hq3.cell _).trans z0
      have q1 : w3.cell? _ = _ := (hq3.cell _).trans q1
      have q2 : w3.cell? _ = _ := (hq3.cell _).trans q2
      have q3 : w3.cell? _ = _ := (hq3.cell _).trans q3
      have q4 : w3.cell? _ = _ := (hq3.cell _).trans q4
      clear hq3 q0
      go_wp2_with fail
      refine (HG.out _ HB3.out).mono ?_
      rintro e w4 ⟨xv, rfl, ho4, hb4⟩
      have hz4 := hb4.size
      have hce4 := CellE.of_own ho4
      obtain ⟨X1, d1, X2, d2, X3, d3, rfl⟩ := hce4.lit
      obtain ⟨W4, hW4⟩ : ∃ W', W' = w4.alloc (.cells #[.int .i64 c.n, .slice X1 c.s.length d1, .slice X2 c.lo.length d2, .slice X3 c.hi.length d3] 25) := ⟨_, rfl⟩
      have hbW4 : Below w4.heap.size w4 W4 := by rw [hW4]; exact bl1 _ _
      have hzW4 : W4.heap.size = w4.heap.size + 1 := by rw [hW4]; simp
      obtain ⟨p0, p1, p2, p3, -, -, -, -⟩ : Blk W4 w4.heap.size (.int .i64 c.n) (.slice X1 c.s.length d1) (.slice X2 c.lo.length d2) (.slice X3 c.hi.length d3) := by rw [hW4]; exact Blk.new _ _ _ _ _ _
      have hb34 := hb4.trans (hbW4.mono hz4)
      have y2 := cellK hb34 (by omega) y2
      have q1 := cellK hb34 (by omega) q1
      have q2 := cellK hb34 (by omega) q2
      have q3 := cellK hb34 (by omega) q3
      have q4 := cellK hb34 (by omega) q4
      have hbr4 := HB3.out.trans (hb34.mono (by omega))
      have HSC := hid (refSameC_any (.agg #[.int .i64 c.n, .slice X1 c.s.length d1, .slice X2 c.lo.length d2, .slice X3 c.hi.length d3]) (.agg #[.int .i64 c.n, .slice A1 c.s.length c1, .slice A2 c.lo.length c2, .slice A3 c.hi.length c3]) c c W4.drew ((ho4.read.below hbW4.drew).more (by show w4.heap.size ≤ W4.heap.size; omega)) (((HCE.out.below HBW.out).below ((hbr4.mono (by omega)).drew)).more (by show w.heap.size ≤ W4.heap.size; omega)))
      rw [decide_eq_true rfl] at HSC
      have HBR4 := hid hbr4; have HW4 := hid hW4
      clear ho4 hb4 hce4 hbW4 hb34 hbr4 hW4
      go_upto_region 9 with (fail)
      rw [← HW4.out]
      have hw4z : w4.heap.size < W4.heap.size := by omega
      have hgW : g < W4.heap.size := by omega
      have hrW : r < W4.heap.size := by omega
      go_region_held3 (fun w' => w'.cell? ⟨w4.heap.size, 0, none⟩ = some (.int .i64 c.n) ∧ w'.cell? ⟨w4.heap.size, 1, none⟩ = some (.slice X1 c.s.length d1) ∧ w'.cell? ⟨w4.heap.size, 2, none⟩ = some (.slice X2 c.lo.length d2) ∧ w'.cell? ⟨w4.heap.size, 3, none⟩ = some (.slice X3 c.hi.length d3) ∧ w'.cell? ⟨r, 2, none⟩ = some (.slice (some ⟨g, 0, none⟩) L.length cu) ∧ w'.cell? ⟨g, k * 5 + 1, none⟩ = some (.int .i64 c.n) ∧ w'.cell? ⟨g, k * 5 + 1 + 1, none⟩ = some (.slice A1 c.s.length c1) ∧ w'.cell? ⟨g, k * 5 + 1 + 2, none⟩ = some (.slice A2 c.lo.length c2) ∧ w'.cell? ⟨g, k * 5 + 1 + 3, none⟩ = some (.slice A3 c.hi.length c3)) (go_keep)
        (((with_reducible refine HSC.out.mono ?_); rintro e w5 ⟨rfl, hb5⟩; have hb5 : Below W4.heap.size W4 w5 := (Below.refl _ _).drew.trans hb5; have y2 := cellK hb5 (by omega) y2; have q1 := cellK hb5 (by omega) q1; have q2 := cellK hb5 (by omega) q2; have q3 := cellK hb5 (by omega) q3; have q4 := cellK hb5 (by omega) q4; have p0 := cellK hb5 (by omega) p0; have p1 := cellK hb5 (by omega) p1; have p2 := cellK hb5 (by omega) p2; have p3 := cellK hb5 (by omega) p3; have HB5 := hid hb5; clear hb5))
      have HBX := hid (HBB.out.trans ((HBR4.out.trans (HB5.out.mono (by omega))).mono hsb))
      go_wp2
      go_roundw
      case rel => exact ⟨k + 1, by omega, by go_num, HBX.out⟩
      case measure => simp [intOf]; omega
    · have HBW := hid hbw
      have HPC := hid (putC_any D p m W M L wr (HC.out.below hbw) HS.out hW hM hL)
      have HPR := hid (fun W' (h : Below w.heap.size w W') => putR_any R r W M W M L W' (HR.out.below h) HS.out hW hM hL)
      have hpl := putCub_len HS.out hW hM hL
      clear hb hbw hb1r
      go_wp2_with fail
      refine HPC.out.mono ?_
      rintro e w3 ⟨v1, rfl, ho1, hb3⟩
      have hz3 := hb3.size
      have HB3 := hid (HBW.out.trans (hb3.mono (by omega)))
      have HO1 := hid ho1
      clear ho1 hb3
      go_wp2_with fail
      refine (HPR.out _ HB3.out).mono ?_
      rintro e w4 ⟨v2, rfl, ho2, hb4⟩
      have HB4 := hid (HB3.out.trans (hb4.mono HB3.out.size))
      have HSB := hid (sameB_any v1 v2 (putCub L) (putCub L) w4 (by omega) (by omega) (HO1.out.on hb4).sl ho2.sl)
      clear ho2 hb4
      go_wp2_with fail
      refine HSB.out.mono ?_
      rintro e w5 ⟨rfl, hq5⟩
      have HB5 := hid (HB4.out.trans (hq5.below _))
      clear hq5
      go_wp2
      go_ret
      exact ⟨rfl, HB5.out⟩
end Go.Proofs.Ytclhnnidbhchnaa
/- The laws' lives: the document's examples. -/
namespace Go.Proofs.Ytclhnnidbhchnaa
open Go.ChangeShapes Go.WideShapes Go.ChangeAt Go.RowKit
set_option linter.unusedVariables false
set_option linter.unusedSimpArgs false

theorem Sl.one {w : World} {B N : Nat} {x : Int} (hb : N < B) (h : w.cell? ⟨N, 0, none⟩ = some (.int .i64 x)) : Sl w B (.slice (some ⟨N, 0, none⟩) 1 1) (ivals [x]) := by
  refine ⟨_, 1, rfl, Nat.le_refl _, by simp [maxLen], fun _ => ⟨N, 0, rfl, hb, fun j u hu => ?_⟩⟩
  cases j with
  | zero => simp [ivals] at hu; subst hu; exact h
  | succ j => simp [ivals] at hu
theorem RowsI.lit {w : World} {B N : Nat} (hb : N < B) (us : List Value) (l : List (List Int)) {n : Nat} (hn : n = l.length) (hm : n ≤ 1000) (h : ∀ i, i < l.length → w.cell? ⟨N, i, none⟩ = some (us.getD i undef) ∧ Sl w B (us.getD i undef) (ivals (l.getD i []))) :
    RowsI w B (.slice (some ⟨N, 0, none⟩) n n) l := by
  subst hn
  refine ⟨_, _, rfl, Nat.le_refl _, by unfold maxLen; omega, fun i hi => ?_⟩
  obtain ⟨h1, h2⟩ := h i hi
  exact ⟨N, 0, _, rfl, hb, by rw [Nat.zero_add]; exact h1, h2⟩
def FLit (c : CellM) (k : Int) (w : World) (e : Ending) (w' : World) : Prop :=
  ∃ A1 c1 A2 c2 A3 c3, e = .returned (.tuple #[.agg #[.int .i64 c.n, .slice A1 c.s.length c1, .slice A2 c.lo.length c2, .slice A3 c.hi.length c3], .int .i64 k]) ∧
    CellR w' w'.heap.size (.agg #[.int .i64 c.n, .slice A1 c.s.length c1, .slice A2 c.lo.length c2, .slice A3 c.hi.length c3]) c ∧ Below w.heap.size w w'
theorem flit_of {r : CellM × Int} {c : CellM} {k : Int} (h : r = (c, k)) {w : World} {e : Ending} {w' : World} (hp : MOwnPost r w e w') : FLit c k w e w' := by
  subst h
  obtain ⟨v, rfl, ho, hb⟩ := hp
  have hr := ho.read
  obtain ⟨v1, v2, v3, rfl, s1, s2, s3⟩ := hr
  have hr := ho.read
  obtain ⟨A1, c1, rfl, -, -⟩ := s1.formI
  obtain ⟨A2, c2, rfl, -, -⟩ := s2.formI
  obtain ⟨A3, c3, rfl, -, -⟩ := s3.formI
  exact ⟨A1, c1, A2, c2, A3, c3, rfl, hr, hb⟩
theorem fold_lit {m : Int} {l : List (List Int)} {c : CellM} {k : Int} (h : foldC m l = (c, k)) (hn : l.length ≤ 1000) (v : Value) (w : World) (hv : RowsI w w.heap.size v l) :
    Calls Try.prog 49 #[.int .i64 m, v] w (FLit c k w) := (fold_any m v l w hv hn).mono fun _ _ hp => flit_of h hp
theorem merge_lit {a b : CellM} {c : CellM} {k : Int} (h : mergeC a b = (c, k)) (v x : Value) (w : World) (hv : CellR w w.heap.size v a) (hx : CellR w w.heap.size x b) :
    Calls Try.prog 50 #[v, x] w (FLit c k w) := (merge_any v x a b w hv hx).mono fun _ _ hp => flit_of h hp
theorem lf1 : foldC 1 [[3], [-5]] = (⟨2, [-2], [-5], [3]⟩, 0) := by decide
theorem lf2 : foldC 1 [[2305843009213693952], [2305843009213693952], [2305843009213693952], [-2305843009213693952]] = (⟨4, [4611686018427387904], [-2305843009213693952], [2305843009213693952]⟩, 0) := by decide
theorem lf3 : foldC 1 [[2305843009213693952], [2305843009213693952], [2305843009213693952]] = (⟨0, [], [], []⟩, 14) := by decide
theorem lf4 : mergeC (emptyC 1) (emptyC 2) = (⟨0, [], [], []⟩, 1) := by decide
theorem lf5 : mayC ⟨2, [-2], [-5], [3]⟩ = true := by decide
theorem em1 : emN 1 = 1 := by decide
theorem em2 : emN 2 = 2 := by decide
set_option maxRecDepth 100000 in
set_option maxHeartbeats 3200000 in
theorem lives_true (w : World) : Calls Try.prog 14 #[] w (Gives (.bool true) w) := by
  have HF1 := hid (fun v w hv => fold_lit lf1 (by simp) v w hv)
  have HF2 := hid (fun v w hv => fold_lit lf2 (by simp) v w hv)
  have HF3 := hid (fun v w hv => fold_lit lf3 (by simp) v w hv)
  have HM4 := hid (fun v x w hv hx => merge_lit lf4 v x w hv hx)
  have HE1 := hid (fun w => cellEmpty_any 1 w)
  have HE2 := hid (fun w => cellEmpty_any 2 w)
  rw [em1] at HE1
  rw [em2] at HE2
  have HSM := hid (fun v x w => refSameC_any v x ⟨2, [-2], [-5], [3]⟩ ⟨2, [-2], [-5], [3]⟩ w)
  rw [show decide ((⟨2, [-2], [-5], [3]⟩ : CellM) = ⟨2, [-2], [-5], [3]⟩) = true by decide] at HSM
  have HMY := hid (fun v w => may_any v ⟨2, [-2], [-5], [3]⟩ w)
  rw [lf5] at HMY
  go_enter Try.func14, Try.ntmps14
  go_wp2_with fail
  refine (HF1.out _ _ (RowsI.lit (by simp) [.slice (some ⟨w.heap.size, 0, none⟩) 1 1, .slice (some ⟨w.heap.size + 1, 0, none⟩) 1 1] _ rfl (by simp) (fun i hi => ?_))).mono ?_
  · have : i = 0 ∨ i = 1 := by simp at hi; omega
    rcases this with rfl | rfl
    · exact ⟨by simp [go_sem], Sl.one (by simp; omega) (by simp [go_sem])⟩
    · exact ⟨by simp [go_sem], Sl.one (by simp) (by simp [go_sem])⟩
  rintro e w1 ⟨A1, c1, A2, c2, A3, c3, rfl, hr1, hb1⟩
  have B1 : Below w.heap.size w w1 := (by refine Below.trans ?_ (Below.mono hb1 ?_) <;> first | exact (by repeat' first | with_reducible exact Below.refl _ _ | assumption | (with_reducible refine Below.alloc ?_ ?_ _) | (with_reducible refine Below.setCell ?_ ?_ _) | (with_reducible refine Below.drew ?_) | (with_reducible refine below_drewN ?_ _) | (with_reducible refine Below.trans ?_ (Below.mono ‹_› ?_)) | omega | (with_reducible refine le_alloc ?_) | (with_reducible refine le_setCell ?_) | (with_reducible refine le_drew ?_) | (with_reducible refine le_drewN ?_) | (with_reducible refine Nat.le_trans ?_ (Below.size ‹_›)) | (simp <;> omega)))
  have s1 := B1.size
  have HR1 := hid hr1
  clear hb1 hr1
  go_wp2_with fail
  refine (HF2.out _ _ (RowsI.lit (by simp) [.slice (some ⟨w1.heap.size + 1, 0, none⟩) 1 1, .slice (some ⟨w1.heap.size + 1 + 1, 0, none⟩) 1 1, .slice (some ⟨w1.heap.size + 1 + 1 + 1, 0, none⟩) 1 1, .slice (some ⟨w1.heap.size + 1 + 1 + 1 + 1, 0, none⟩) 1 1] _ rfl (by simp) (fun i hi => ?_))).mono ?_
  · have : i = 0 ∨ i = 1 ∨ i = 2 ∨ i = 3 := by simp at hi; omega
    rcases this with rfl | rfl | rfl | rfl
    all_goals exact ⟨by simp [go_sem], Sl.one (by simp <;> omega) (by simp [go_sem])⟩
  rintro e w2 ⟨D1, d1, D2, d2, D3, d3, rfl, hr2, hb2⟩
  have B2 : Below w1.heap.size w1 w2 := (by refine Below.trans ?_ (Below.mono hb2 ?_) <;> first | exact (by repeat' first | with_reducible exact Below.refl _ _ | assumption | (with_reducible refine Below.alloc ?_ ?_ _) | (with_reducible refine Below.setCell ?_ ?_ _) | (with_reducible refine Below.drew ?_) | (with_reducible refine below_drewN ?_ _) | (with_reducible refine Below.trans ?_ (Below.mono ‹_› ?_)) | omega | (with_reducible refine le_alloc ?_) | (with_reducible refine le_setCell ?_) | (with_reducible refine le_drew ?_) | (with_reducible refine le_drewN ?_) | (with_reducible refine Nat.le_trans ?_ (Below.size ‹_›)) | (simp <;> omega)))
  have s2 := B2.size
  have k1 : Blk w2 w1.heap.size (.int .i64 2) (.slice A1 1 c1) (.slice A2 1 c2) (.slice A3 1 c3) := Blk.below (by constructor <;> simp [go_sem]) hb2 (by simp <;> omega)
  have l1 := World.block_lt_of_cell? _ _ k1.c0
  have K1 := hid k1; have HR2 := hid hr2
  clear hb2 hr2 k1
  go_wp2_with fail
  refine (HF3.out _ _ (RowsI.lit (by simp) [.slice (some ⟨w2.heap.size + 1, 0, none⟩) 1 1, .slice (some ⟨w2.heap.size + 1 + 1, 0, none⟩) 1 1, .slice (some ⟨w2.heap.size + 1 + 1 + 1, 0, none⟩) 1 1] _ rfl (by simp) (fun i hi => ?_))).mono ?_
  · have : i = 0 ∨ i = 1 ∨ i = 2 := by simp at hi; omega
    rcases this with rfl | rfl | rfl
    all_goals exact ⟨by simp [go_sem], Sl.one (by simp <;> omega) (by simp [go_sem])⟩
  rintro e w3 ⟨G1, g1, G2, g2, G3, g3, rfl, hr3, hb3⟩
  have B3 : Below w2.heap.size w2 w3 := (by refine Below.trans ?_ (Below.mono hb3 ?_) <;> first | exact (by repeat' first | with_reducible exact Below.refl _ _ | assumption | (with_reducible refine Below.alloc ?_ ?_ _) | (with_reducible refine Below.setCell ?_ ?_ _) | (with_reducible refine Below.drew ?_) | (with_reducible refine below_drewN ?_ _) | (with_reducible refine Below.trans ?_ (Below.mono ‹_› ?_)) | omega | (with_reducible refine le_alloc ?_) | (with_reducible refine le_setCell ?_) | (with_reducible refine le_drew ?_) | (with_reducible refine le_drewN ?_) | (with_reducible refine Nat.le_trans ?_ (Below.size ‹_›)) | (simp <;> omega)))
  have s3 := B3.size
  have k2 : Blk w3 w2.heap.size (.int .i64 4) (.slice D1 1 d1) (.slice D2 1 d2) (.slice D3 1 d3) := Blk.below (by constructor <;> simp [go_sem]) hb3 (by simp <;> omega)
  have l2 := World.block_lt_of_cell? _ _ k2.c0
  have K2 := hid k2
  clear hb3 hr3 k2
  go_wp2_with fail
  refine (HE1.out _).mono ?_
  rintro e w4 ⟨y4, rfl, ho4, hb4⟩
  have B4 : Below w3.heap.size w3 w4 := (by refine Below.trans ?_ (Below.mono hb4 ?_) <;> first | exact (by repeat' first | with_reducible exact Below.refl _ _ | assumption | (with_reducible refine Below.alloc ?_ ?_ _) | (with_reducible refine Below.setCell ?_ ?_ _) | (with_reducible refine Below.drew ?_) | (with_reducible refine below_drewN ?_ _) | (with_reducible refine Below.trans ?_ (Below.mono ‹_› ?_)) | omega | (with_reducible refine le_alloc ?_) | (with_reducible refine le_setCell ?_) | (with_reducible refine le_drew ?_) | (with_reducible refine le_drewN ?_) | (with_reducible refine Nat.le_trans ?_ (Below.size ‹_›)) | (simp <;> omega)))
  have s4 := B4.size
  have HR4 := hid ho4.read
  clear hb4 ho4
  go_wp2_with fail
  refine (HE2.out _).mono ?_
  rintro e w5 ⟨y5, rfl, ho5, hb5⟩
  have s5 := hb5.size
  have HR5 := hid ho5.read
  have HB5 := hid hb5
  clear hb5 ho5
  go_wp2_with fail
  refine (HM4.out _ _ _ (HR4.out.below' HB5.out) HR5.out).mono ?_
  rintro e w6 ⟨M1, m1, M2, m2, M3, m3, rfl, hr6, hb6⟩
  have s6 := hb6.size
  have B6 : Below w3.heap.size w3 w6 := (B4.trans (HB5.out.mono s4)).trans (hb6.mono (by omega))
  have K1' := hid (((K1.out.below B3 l1).below B6 (by omega)).alloc (by omega) (.cells #[.int .i64 0, .slice M1 0 m1, .slice M2 0 m2, .slice M3 0 m3] 25))
  have K2' := hid ((K2.out.below B6 l2).alloc (by omega) (.cells #[.int .i64 0, .slice M1 0 m1, .slice M2 0 m2, .slice M3 0 m3] 25))
  have BA : Below w3.heap.size w3 (w6.alloc (.cells #[.int .i64 0, .slice M1 0 m1, .slice M2 0 m2, .slice M3 0 m3] 25)) := B6.trans ((bl1 w6 _).mono (by omega))
  have B16 : Below w1.heap.size w1 (w6.alloc (.cells #[.int .i64 0, .slice M1 0 m1, .slice M2 0 m2, .slice M3 0 m3] 25)) := (B2.trans (B3.mono s2)).trans (BA.mono (by omega))
  have B26 : Below w2.heap.size w2 (w6.alloc (.cells #[.int .i64 0, .slice M1 0 m1, .slice M2 0 m2, .slice M3 0 m3] 25)) := B3.trans (BA.mono s3)
  have HB16 := hid B16; have HB26 := hid B26
  obtain ⟨v1, v2, v3, e, hs1, -, -⟩ := HR2.out.below B26
  have hs1' : Sl (w6.alloc (.cells #[.int .i64 0, .slice M1 0 m1, .slice M2 0 m2, .slice M3 0 m3] 25)) w2.heap.size (.slice D1 1 d1) (ivals [4611686018427387904]) := by simp at e; obtain ⟨rfl, -, -⟩ := e; exact hs1
  obtain ⟨bd, od, rfl, hbd, hcd⟩ := Sl.int (k := 0) hs1' (by simp)
  rw [Nat.add_zero] at hcd
  have HCD := hid hcd
  obtain ⟨q0, q1, q2, q3, -, -, -, -⟩ := K1'.out
  clear hb6 hr6 e hs1 hs1' hcd B16 B26 BA
  go_wp2_with fail
  refine (HSM.out _ _ _ ((HR1.out.below ?_).more ?_) ⟨_, _, _, rfl, Sl.one ?_ ?_, Sl.one ?_ ?_, Sl.one ?_ ?_⟩).mono ?_
  · exact Below.alloc (Below.alloc (Below.alloc HB16.out (by simp <;> omega) _) (by simp <;> omega) _) (by simp <;> omega) _
  · simp; omega
  · simp <;> omega
  · simp [go_sem]
  · simp <;> omega
  · simp [go_sem]
  · simp <;> omega
  · simp [go_sem]
  rintro e w7 ⟨rfl, hb7⟩
  have B7 : Below (w6.alloc (.cells #[.int .i64 0, .slice M1 0 m1, .slice M2 0 m2, .slice M3 0 m3] 25)).heap.size (w6.alloc (.cells #[.int .i64 0, .slice M1 0 m1, .slice M2 0 m2, .slice M3 0 m3] 25)) w7 := (by refine Below.trans ?_ (Below.mono hb7 ?_) <;> first | exact (by repeat' first | with_reducible exact Below.refl _ _ | assumption | (with_reducible refine Below.alloc ?_ ?_ _) | (with_reducible refine Below.setCell ?_ ?_ _) | (with_reducible refine Below.drew ?_) | (with_reducible refine below_drewN ?_ _) | (with_reducible refine Below.trans ?_ (Below.mono ‹_› ?_)) | omega | (with_reducible refine le_alloc ?_) | (with_reducible refine le_setCell ?_) | (with_reducible refine le_drew ?_) | (with_reducible refine le_drewN ?_) | (with_reducible refine Nat.le_trans ?_ (Below.size ‹_›)) | (simp <;> omega)))
  have hsz : (w6.alloc (.cells #[.int .i64 0, .slice M1 0 m1, .slice M2 0 m2, .slice M3 0 m3] 25)).heap.size = w6.heap.size + 1 := World.size_alloc _ _
  have B17 := hid (HB16.out.trans (B7.mono (by omega)))
  obtain ⟨x0, x1, x2, x3, -, -, -, -⟩ := K1'.out.below B7 (by omega)
  obtain ⟨y0, y1, y2, y3, -, -, -, -⟩ := K2'.out.below B7 (by omega)
  have y6 := cellK B7 (by omega) HCD.out
  simp only [List.getD_cons_zero] at y6
  clear hb7 q0 q1 q2 q3
  go_wp2_with fail
  refine (HMY.out _ _ ((HR1.out.below B17.out).more B17.out.size)).mono ?_
  rintro e w8 ⟨rfl, hb8⟩
  have s8 := B17.out.size
  go_wp2
  go_ret
  exact ⟨rfl, (B1.trans (B17.out.mono s1)).trans (hb8.mono (by omega))⟩
end Go.Proofs.Ytclhnnidbhchnaa
