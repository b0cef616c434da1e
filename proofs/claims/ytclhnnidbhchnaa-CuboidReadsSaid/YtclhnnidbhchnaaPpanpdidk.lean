/- 3 texts of this claim, in build order. -/
import Derived.Test.YtclhnnidbhchnaaPngbjgpmb
import Derived.Test.YtclhnnidbhchnaaPbbgockda
import Derived.Test.YtclhnnidbhchnaaPiinhkida
import Derived.Test.YtclhnnidbhchnaaPkihhlpba
/- The laws' lives: the document's examples. -/
namespace Go.Proofs.Ytclhnnidbhchnaa
open Go.ChangeShapes Go.WideShapes Go.ChangeAt Go.RowKit
set_option linter.unusedVariables false
set_option linter.unusedSimpArgs false

theorem Sl.one {w : World} {B N : Nat} {x : Int} (hb : N < B) (h : w.cell? ⟨N, 0, none⟩ = some (.int .i64 x)) : Sl w B (.slice (some ⟨N, 0, none⟩) 1 1) (ivals [x]) := by
  refine ⟨_, 1, rfl, Nat.le_refl _, by simp [maxLen], fun _ => ⟨N, 0, rfl, hb, fun j u hu => ?_⟩⟩
  cases j with
  | zero => simp [ivals] at hu; subst hu; exact h
  | succ j => simp [ivals] at hu
theorem RowsI.lit {w : World} {B N : Nat} (hb : N < B) (us : List Value) (l : List (List Int)) {n : Nat} (hn : n = l.length) (hm : n ≤ 1000) (h : ∀ i, i < l.length → w.cell? ⟨N, i, none⟩ = some (us.getD i undef) ∧ Sl w B (us.getD i undef) (ivals (l.getD i []))) :
    RowsI w B (.slice (some ⟨N, 0, none⟩) n n) l := by
  subst hn
  refine ⟨_, _, rfl, Nat.le_refl _, by unfold maxLen; omega, fun i hi => ?_⟩
  obtain ⟨h1, h2⟩ := h i hi
  exact ⟨N, 0, _, rfl, hb, by rw [Nat.zero_add]; exact h1, h2⟩
def FLit (c : CellM) (k : Int) (w : World) (e : Ending) (w' : World) : Prop :=
  ∃ A1 c1 A2 c2 A3 c3, e = .returned (.tuple #[.agg #[.int .i64 c.n, .slice A1 c.s.length c1, .slice A2 c.lo.length c2, .slice A3 c.hi.length c3], .int .i64 k]) ∧
    CellR w' w'.heap.size (.agg #[.int .i64 c.n, .slice A1 c.s.length c1, .slice A2 c.lo.length c2, .slice A3 c.hi.length c3]) c ∧ Below w.heap.size w w'
theorem flit_of {r : CellM × Int} {c : CellM} {k : Int} (h : r = (c, k)) {w : World} {e : Ending} {w' : World} (hp : MOwnPost r w e w') : FLit c k w e w' := by
  subst h
  obtain ⟨v, rfl, ho, hb⟩ := hp
  have hr := ho.read
  obtain ⟨v1, v2, v3, rfl, s1, s2, s3⟩ := hr
  have hr := ho.read
  obtain ⟨A1, c1, rfl, -, -⟩ := s1.formI
  obtain ⟨A2, c2, rfl, -, -⟩ := s2.formI
  obtain ⟨A3, c3, rfl, -, -⟩ := s3.formI
  exact ⟨A1, c1, A2, c2, A3, c3, rfl, hr, hb⟩
theorem fold_lit {m : Int} {l : List (List Int)} {c : CellM} {k : Int} (h : foldC m l = (c, k)) (hn : l.length ≤ 1000) (v : Value) (w : World) (hv : RowsI w w.heap.size v l) :
    Calls Try.prog 49 #[.int .i64 m, v] w (FLit c k w) := (fold_any m v l w hv hn).mono fun _ _ hp => flit_of h hp
theorem merge_lit {a b : CellM} {c : CellM} {k : Int} (h : mergeC a b = (c, k)) (v x : Value) (w : World) (hv : CellR w w.heap.size v a) (hx : CellR w w.heap.size x b) :
    Calls Try.prog 50 #[v, x] w (FLit c k w) := (merge_any v x a b w hv hx).mono fun _ _ hp => flit_of h hp
theorem lf1 : foldC 1 [[3], [-5]] = (⟨2, [-2], [-5], [3]⟩, 0) := by decide
theorem lf2 : foldC 1 [[2305843009213693952], [2305843009213693952], [2305843009213693952], [-2305843009213693952]] = (⟨4, [4611686018427387904], [-2305843009213693952], [2305843009213693952]⟩, 0) := by decide
theorem lf3 : foldC 1 [[2305843009213693952], [2305843009213693952], [2305843009213693952]] = (⟨0, [], [], []⟩, 14) := by decide
theorem lf4 : mergeC (emptyC 1) (emptyC 2) = (⟨0, [], [], []⟩, 1) := by decide
theorem lf5 : mayC ⟨2, [-2], [-5], [3]⟩ = true := by decide
theorem em1 : emN 1 = 1 := by decide
theorem em2 : emN 2 = 2 := by decide
set_option maxRecDepth 100000 in
set_option maxHeartbeats 3200000 in
theorem lives_true (w : World) : Calls Try.prog 14 #[] w (Gives (.bool true) w) := by
  have HF1 := hid (fun v w hv => fold_lit lf1 (by simp) v w hv)
  have HF2 := hid (fun v w hv => fold_lit lf2 (by simp) v w hv)
  have HF3 := hid (fun v w hv => fold_lit lf3 (by simp) v w hv)
  have HM4 := hid (fun v x w hv hx => merge_lit lf4 v x w hv hx)
  have HE1 := hid (fun w => cellEmpty_any 1 w)
  have HE2 := hid (fun w => cellEmpty_any 2 w)
  rw [em1] at HE1
  rw [em2] at HE2
  have HSM := hid (fun v x w => refSameC_any v x ⟨2, [-2], [-5], [3]⟩ ⟨2, [-2], [-5], [3]⟩ w)
  rw [show decide ((⟨2, [-2], [-5], [3]⟩ : CellM) = ⟨2, [-2], [-5], [3]⟩) = true by decide] at HSM
  have HMY := hid (fun v w => may_any v ⟨2, [-2], [-5], [3]⟩ w)
  rw [lf5] at HMY
  go_enter Try.func14, Try.ntmps14
  go_wp2_with fail
  refine (HF1.out _ _ (RowsI.lit (by simp) [.slice (some ⟨w.heap.size, 0, none⟩) 1 1, .slice (some ⟨w.heap.size + 1, 0, none⟩) 1 1] _ rfl (by simp) (fun i hi => ?_))).mono ?_
  · have : i = 0 ∨ i = 1 := by simp at hi; omega
    rcases this with rfl | rfl
    · exact ⟨by simp [go_sem], Sl.one (by simp; omega) (by simp [go_sem])⟩
    · exact ⟨by simp [go_sem], Sl.one (by simp) (by simp [go_sem])⟩
  rintro e w1 ⟨A1, c1, A2, c2, A3, c3, rfl, hr1, hb1⟩
  have B1 : Below w.heap.size w w1 := (by refine Below.trans ?_ (Below.mono hb1 ?_) <;> first | exact (by repeat' first | with_reducible exact Below.refl _ _ | assumption | (with_reducible refine Below.alloc ?_ ?_ _) | (with_reducible refine Below.setCell ?_ ?_ _) | (with_reducible refine Below.drew ?_) | (with_reducible refine below_drewN ?_ _) | (with_reducible refine Below.trans ?_ (Below.mono ‹_› ?_)) | omega | (with_reducible refine le_alloc ?_) | (with_reducible refine le_setCell ?_) | (with_reducible refine le_drew ?_) | (with_reducible refine le_drewN ?_) | (with_reducible refine Nat.le_trans ?_ (Below.size ‹_›)) | (simp <;> omega)))
  have s1 := B1.size
  have HR1 := hid hr1
  clear hb1 hr1
  go_wp2_with fail
  refine (HF2.out _ _ (RowsI.lit (by simp) [.slice (some ⟨w1.heap.size + 1, 0, none⟩) 1 1, .slice (some ⟨w1.heap.size + 1 + 1, 0, none⟩) 1 1, .slice (some ⟨w1.heap.size + 1 + 1 + 1, 0, none⟩) 1 1, .slice (some ⟨w1.heap.size + 1 + 1 + 1 + 1, 0, none⟩) 1 1] _ rfl (by simp) (fun i hi => ?_))).mono ?_
  · have : i = 0 ∨ i = 1 ∨ i = 2 ∨ i = 3 := by simp at hi; omega
    rcases this with rfl | rfl | rfl | rfl
    all_goals exact ⟨by simp [go_sem], Sl.one (by simp <;> omega) (by simp [go_sem])⟩
  rintro e w2 ⟨D1, d1, D2, d2, D3, d3, rfl, hr2, hb2⟩
  have B2 : Below w1.heap.size w1 w2 := (by refine Below.trans ?_ (Below.mono hb2 ?_) <;> first | exact (by repeat' first | with_reducible exact Below.refl _ _ | assumption | (with_reducible refine Below.alloc ?_ ?_ _) | (with_reducible refine Below.setCell ?_ ?_ _) | (with_reducible refine Below.drew ?_) | (with_reducible refine below_drewN ?_ _) | (with_reducible refine Below.trans ?_ (Below.mono ‹_› ?_)) | omega | (with_reducible refine le_alloc ?_) | (with_reducible refine le_setCell ?_) | (with_reducible refine le_drew ?_) | (with_reducible refine le_drewN ?_) | (with_reducible refine Nat.le_trans ?_ (Below.size ‹_›)) | (simp <;> omega)))
  have s2 := B2.size
  have k1 : Blk w2 w1.heap.size (.int .i64 2) (.slice A1 1 c1) (.slice A2 1 c2) (.slice A3 1 c3) := Blk.below (by constructor <;> simp [go_sem]) hb2 (by simp <;> omega)
  have l1 := World.block_lt_of_cell? _ _ k1.c0
  have K1 := hid k1; have HR2 := hid hr2
  clear hb2 hr2 k1
  go_wp2_with fail
  refine (HF3.out _ _ (RowsI.lit (by simp) [.slice (some ⟨w2.heap.size + 1, 0, none⟩) 1 1, .slice (some ⟨w2.heap.size + 1 + 1, 0, none⟩) 1 1, .slice (some ⟨w2.heap.size + 1 + 1 + 1, 0, none⟩) 1 1] _ rfl (by simp) (fun i hi => ?_))).mono ?_
  · have : i = 0 ∨ i = 1 ∨ i = 2 := by simp at hi; omega
    rcases this with rfl | rfl | rfl
    all_goals exact ⟨by simp [go_sem], Sl.one (by simp <;> omega) (by simp [go_sem])⟩
  rintro e w3 ⟨G1, g1, G2, g2, G3, g3, rfl, hr3, hb3⟩
  have B3 : Below w2.heap.size w2 w3 := (by refine Below.trans ?_ (Below.mono hb3 ?_) <;> first | exact (by repeat' first | with_reducible exact Below.refl _ _ | assumption | (with_reducible refine Below.alloc ?_ ?_ _) | (with_reducible refine Below.setCell ?_ ?_ _) | (with_reducible refine Below.drew ?_) | (with_reducible refine below_drewN ?_ _) | (with_reducible refine Below.trans ?_ (Below.mono ‹_› ?_)) | omega | (with_reducible refine le_alloc ?_) | (with_reducible refine le_setCell ?_) | (with_reducible refine le_drew ?_) | (with_reducible refine le_drewN ?_) | (with_reducible refine Nat.le_trans ?_ (Below.size ‹_›)) | (simp <;> omega)))
  have s3 := B3.size
  have k2 : Blk w3 w2.heap.size (.int .i64 4) (.slice D1 1 d1) (.slice D2 1 d2) (.slice D3 1 d3) := Blk.below (by constructor <;> simp [go_sem]) hb3 (by simp <;> omega)
  have l2 := World.block_lt_of_cell? _ _ k2.c0
  have K2 := hid k2
  clear hb3 hr3 k2
  go_wp2_with fail
  refine (HE1.out _).mono ?_
  rintro e w4 ⟨y4, rfl, ho4, hb4⟩
  have B4 : Below w3.heap.size w3 w4 := (by refine Below.trans ?_ (Below.mono hb4 ?_) <;> first | exact (by repeat' first | with_reducible exact Below.refl _ _ | assumption | (with_reducible refine Below.alloc ?_ ?_ _) | (with_reducible refine Below.setCell ?_ ?_ _) | (with_reducible refine Below.drew ?_) | (with_reducible refine below_drewN ?_ _) | (with_reducible refine Below.trans ?_ (Below.mono ‹_› ?_)) | omega | (with_reducible refine le_alloc ?_) | (with_reducible refine le_setCell ?_) | (with_reducible refine le_drew ?_) | (with_reducible refine le_drewN ?_) | (with_reducible refine Nat.le_trans ?_ (Below.size ‹_›)) | (simp <;> omega)))
  have s4 := B4.size
  have HR4 := hid ho4.read
  clear hb4 ho4
  go_wp2_with fail
  refine (HE2.out _).mono ?_
  rintro e w5 ⟨y5, rfl, ho5, hb5⟩
  have s5 := hb5.size
  have HR5 := hid ho5.read
  have HB5 := hid hb5
  clear hb5 ho5
  go_wp2_with fail
  refine (HM4.out _ _ _ (HR4.out.below' HB5.out) HR5.out).mono ?_
  rintro e w6 ⟨M1, m1, M2, m2, M3, m3, rfl, hr6, hb6⟩
  have s6 := hb6.size
  have B6 : Below w3.heap.size w3 w6 := (B4.trans (HB5.out.mono s4)).trans (hb6.mono (by omega))
  have K1' := hid (((K1.out.below B3 l1).below B6 (by omega)).alloc (by omega) (.cells #[.int .i64 0, .slice M1 0 m1, .slice M2 0 m2, .slice M3 0 m3] 25))
  have K2' := hid ((K2.out.below B6 l2).alloc (by omega) (.cells #[.int .i64 0, .slice M1 0 m1, .slice M2 0 m2, .slice M3 0 m3] 25))
  have BA : Below w3.heap.size w3 (w6.alloc (.cells #[.int .i64 0, .slice M1 0 m1, .slice M2 0 m2, .slice M3 0 m3] 25)) := B6.trans ((bl1 w6 _).mono (by omega))
  have B16 : Below w1.heap.size w1 (w6.alloc (.cells #[.int .i64 0, .slice M1 0 m1, .slice M2 0 m2, .slice M3 0 m3] 25)) := (B2.trans (B3.mono s2)).trans (BA.mono (by omega))
  have B26 : Below w2.heap.size w2 (w6.alloc (.cells #[.int .i64 0, .slice M1 0 m1, .slice M2 0 m2, .slice M3 0 m3] 25)) := B3.trans (BA.mono s3)
  have HB16 := hid B16; have HB26 := hid B26
  obtain ⟨v1, v2, v3, e, hs1, -, -⟩ := HR2.out.below B26
  have hs1' : Sl (w6.alloc (.cells #[.int .i64 0, .slice M1 0 m1, .slice M2 0 m2, .slice M3 0 m3] 25)) w2.heap.size (.slice D1 1 d1) (ivals [4611686018427387904]) := by simp at e; obtain ⟨rfl, -, -⟩ := e; exact hs1
  obtain ⟨bd, od, rfl, hbd, hcd⟩ := Sl.int (k := 0) hs1' (by simp)
  rw [Nat.add_zero] at hcd
  have HCD := hid hcd
  obtain ⟨q0, q1, q2, q3, -, -, -, -⟩ := K1'.out
  clear hb6 hr6 e hs1 hs1' hcd B16 B26 BA
  go_wp2_with fail
  refine (HSM.out _ _ _ ((HR1.out.below ?_).more ?_) ⟨_, _, _, rfl, Sl.one ?_ ?_, Sl.one ?_ ?_, Sl.one ?_ ?_⟩).mono ?_
  · exact Below.alloc (Below.alloc (Below.alloc HB16.out (by simp <;> omega) _) (by simp <;> omega) _) (by simp <;> omega) _
  · simp; omega
  · simp <;> omega
  · simp [go_sem]
  · simp <;> omega
  · simp [go_sem]
  · simp <;> omega
  · simp [go_sem]
  rintro e w7 ⟨rfl, hb7⟩
  have B7 : Below (w6.alloc (.cells #[.int .i64 0, .slice M1 0 m1, .slice M2 0 m2, .slice M3 0 m3] 25)).heap.size (w6.alloc (.cells #[.int .i64 0, .slice M1 0 m1, .slice M2 0 m2, .slice M3 0 m3] 25)) w7 := (by refine Below.trans ?_ (Below.mono hb7 ?_) <;> first | exact (by repeat' first | with_reducible exact Below.refl _ _ | assumption | (with_reducible refine Below.alloc ?_ ?_ _) | (with_reducible refine Below.setCell ?_ ?_ _) | (with_reducible refine Below.drew ?_) | (with_reducible refine below_drewN ?_ _) | (with_reducible refine Below.trans ?_ (Below.mono ‹_› ?_)) | omega | (with_reducible refine le_alloc ?_) | (with_reducible refine le_setCell ?_) | (with_reducible refine le_drew ?_) | (with_reducible refine le_drewN ?_) | (with_reducible refine Nat.le_trans ?_ (Below.size ‹_›)) | (simp <;> omega)))
  have hsz : (w6.alloc (.cells #[.int .i64 0, .slice M1 0 m1, .slice M2 0 m2, .slice M3 0 m3] 25)).heap.size = w6.heap.size + 1 := World.size_alloc _ _
  have B17 := hid (HB16.out.trans (B7.mono (by omega)))
  obtain ⟨x0, x1, x2, x3, -, -, -, -⟩ := K1'.out.below B7 (by omega)
  obtain ⟨y0, y1, y2, y3, -, -, -, -⟩ := K2'.out.below B7 (by omega)
  have y6 := cellK B7 (by omega) HCD.out
  simp only [List.getD_cons_zero] at y6
  clear hb7 q0 q1 q2 q3
  go_wp2_with fail
  refine (HMY.out _ _ ((HR1.out.below B17.out).more B17.out.size)).mono ?_
  rintro e w8 ⟨rfl, hb8⟩
  have s8 := B17.out.size
  go_wp2
  go_ret
  exact ⟨rfl, (B1.trans (B17.out.mono s1)).trans (hb8.mono (by omega))⟩
end Go.Proofs.Ytclhnnidbhchnaa
/- Cells handed in. -/
namespace Go.Proofs.Ytclhnnidbhchnaa
open Go.ChangeShapes Go.WideShapes Go.ChangeAt Go.RowKit
set_option linter.unusedVariables false
set_option linter.unusedSimpArgs false

abbrev CellX := Int × List Int × List Int × List Int
def CellX.cell (x : CellX) : CellM := ⟨x.1, x.2.1, x.2.2.1, x.2.2.2⟩
def rdCell : Rd CellX := rdPair 1 rdInt (rdPair 1 (rdSlice 1 rdInt) (rdPair 1 (rdSlice 1 rdInt) (rdSlice 1 rdInt)))
theorem opens_intsI : Opens Try.prog 23 1 (rdSlice 1 rdInt) := opens_slice (e := 3) good_int Try.underlying23 (opens_int Try.underlying3 (by kernel_rfl)) (by kernel_rfl) (by omega)
theorem opens_cell : Opens Try.prog 25 4 rdCell := by
  refine opens_struct (k := 4) Try.underlying25 (by kernel_rfl) ?_
  exact opensF_cons (k2 := 3) (by rfl) (opens_int Try.underlying3 (by kernel_rfl)) (opensF_cons (k2 := 2) (by rfl) opens_intsI (opensF_cons (k2 := 1) (by rfl) opens_intsI (opensF_one (by rfl) opens_intsI)))
theorem ints_sl {w : World} {B : Nat} {cs : List Value} {l : List Int} (h : rdSlice 1 rdInt w B cs l) : ∃ v, cs = [v] ∧ Sl w B v (ivals l) := by
  have h' := h
  obtain ⟨A, c, rfl, -, -, -⟩ := h
  exact ⟨_, rfl, rdSlice.sl (Value.int .i64) (fun es x hx => hx.1) h'⟩
theorem cell_of_rd {w : World} {B : Nat} {cs : Array Value} {x : CellX} (h : rdCell w B cs.toList x) : CellR w B (.agg cs) x.cell := by
  obtain ⟨l1, ⟨e1, -⟩, l2, h2, l3, h3, h4⟩ := h
  obtain ⟨v1, e2, s1⟩ := ints_sl h2
  obtain ⟨v2, e3, s2⟩ := ints_sl h3
  obtain ⟨v3, e4, s3⟩ := ints_sl h4
  refine ⟨v1, v2, v3, ?_, s1, s2, s3⟩
  have : cs.toList = [.int .i64 x.1, v1, v2, v3] := by
    rw [← List.take_append_drop 1 cs.toList, e1, ← List.take_append_drop 1 (cs.toList.drop 1), e2, ← List.take_append_drop 1 ((cs.toList.drop 1).drop 1), e3, e4]
    rfl
  rw [show cs = #[.int .i64 x.1, v1, v2, v3] from Array.toList_inj.1 this]
  rfl
theorem MOwnPost.lit {r : CellM × Int} {w : World} {e : Ending} {w' : World} (hp : MOwnPost r w e w') : FLit r.1 r.2 w e w' := flit_of rfl hp
theorem MergePost.lit {r : CellM × Int} {w : World} {e : Ending} {w' : World} (hp : MergePost r w e w') : FLit r.1 r.2 w e w' := by
  obtain ⟨v, rfl, hr, hb⟩ := hp
  have hr' := hr
  obtain ⟨v1, v2, v3, rfl, s1, s2, s3⟩ := hr
  obtain ⟨A1, c1, rfl, -, -⟩ := s1.formI
  obtain ⟨A2, c2, rfl, -, -⟩ := s2.formI
  obtain ⟨A3, c3, rfl, -, -⟩ := s3.formI
  exact ⟨A1, c1, A2, c2, A3, c3, rfl, hr', hb⟩
end Go.Proofs.Ytclhnnidbhchnaa
/- Deeds handed in; what adding them all gives. -/
namespace Go.Proofs.Ytclhnnidbhchnaa
open Go.ChangeShapes Go.WideShapes Go.ChangeAt Go.RowKit
set_option linter.unusedVariables false
set_option linter.unusedSimpArgs false

abbrev DeedX := List Int × CellX
def DeedX.kc (x : DeedX) : KC := (x.1, x.2.cell)
def rdDeed : Rd DeedX := rdPair 1 (rdSlice 1 rdInt) rdCell
theorem good_cellD : Good rdCell := good_pair good_int (good_pair (good_slice good_int) (good_pair (good_slice good_int) (good_slice good_int)))
theorem good_deed : Good rdDeed := good_pair (good_slice good_int) good_cellD
theorem opens_deed : Opens Try.prog 58 5 rdDeed := by
  refine opens_struct (k := 5) Try.underlying58 (by kernel_rfl) ?_
  exact opensF_cons (k2 := 4) (by rfl) opens_intsI (opensF_one (by rfl) opens_cell)
theorem opens_deeds : Opens Try.prog 32 1 (rdSlice 5 rdDeed) := opens_slice (e := 58) good_deed Try.underlying32 opens_deed (by kernel_rfl) (by omega)
/-- Deeds in memory. -/
def DeedsV (w : World) (B : Nat) (v : Value) (l : List KC) : Prop :=
  ∃ A c, v = .slice A l.length c ∧ l.length ≤ c ∧ c ≤ maxLen ∧ ∀ i, i < l.length → ∃ b off K kc A1 c1 A2 c2 A3 c3, A = some ⟨b, off, none⟩ ∧ b < B ∧
    w.cell? ⟨b, off + i * 5, none⟩ = some (.slice K (l.getD i zK).1.length kc) ∧ w.cell? ⟨b, off + i * 5 + 1, none⟩ = some (.int .i64 (l.getD i zK).2.n) ∧ w.cell? ⟨b, off + i * 5 + 1 + 1, none⟩ = some (.slice A1 (l.getD i zK).2.s.length c1) ∧
    w.cell? ⟨b, off + i * 5 + 1 + 2, none⟩ = some (.slice A2 (l.getD i zK).2.lo.length c2) ∧ w.cell? ⟨b, off + i * 5 + 1 + 3, none⟩ = some (.slice A3 (l.getD i zK).2.hi.length c3) ∧
    Sl w B (.slice K (l.getD i zK).1.length kc) (ivals (l.getD i zK).1) ∧
    CellR w B (.agg #[.int .i64 (l.getD i zK).2.n, .slice A1 (l.getD i zK).2.s.length c1, .slice A2 (l.getD i zK).2.lo.length c2, .slice A3 (l.getD i zK).2.hi.length c3]) (l.getD i zK).2
theorem deeds_of_rd {w : World} {B : Nat} {v : Value} {l : List DeedX} (h : rdSlice 5 rdDeed w B [v] l) : DeedsV w B v (l.map DeedX.kc) := by
  obtain ⟨A, c, e, h1, h2, h3⟩ := h
  injection e with e _
  subst e
  refine ⟨A, c, by rw [List.length_map], by rw [List.length_map]; exact h1, h2, fun i hi => ?_⟩
  rw [List.length_map] at hi
  obtain ⟨b, off, e1, hb, hx⟩ := h3 (by omega)
  obtain ⟨es, q1, q2, q3⟩ := hx i l[i] (List.getElem?_eq_getElem hi)
  have e2 : (l.map DeedX.kc).getD i zK = (l[i].1, l[i].2.cell) := by
    rw [List.getD_eq_getElem?_getD, List.getElem?_map, List.getElem?_eq_getElem hi]; rfl
  rw [e2]
  obtain ⟨l1, hk, hc⟩ := q3
  obtain ⟨kv, e3, hs⟩ := ints_sl hk
  have hkf := hs.formI
  have hcell := cell_of_rd (cs := (es.drop 1).toArray) (by simpa using hc)
  have hcell' := hcell
  obtain ⟨v1, v2, v3, e4, s1, s2, s3⟩ := hcell
  injection e4 with e4
  have el : es.drop 1 = [.int .i64 l[i].2.cell.n, v1, v2, v3] := by have := congrArg Array.toList e4; simpa using this
  have ees : es = [kv, .int .i64 l[i].2.cell.n, v1, v2, v3] := by
    rw [← List.take_append_drop 1 es, e3, el]; rfl
  rw [el] at hcell'
  obtain ⟨K, kc, rfl, -, -⟩ := hkf
  obtain ⟨A1, c1, rfl, -, -⟩ := s1.formI
  obtain ⟨A2, c2, rfl, -, -⟩ := s2.formI
  obtain ⟨A3, c3, rfl, -, -⟩ := s3.formI
  exact ⟨b, off, K, kc, A1, c1, A2, c2, A3, c3, e1, hb, q2 0 _ (by rw [ees]; rfl), q2 1 _ (by rw [ees]; rfl), q2 2 _ (by rw [ees]; rfl), q2 3 _ (by rw [ees]; rfl), q2 4 _ (by rw [ees]; rfl), hs, hcell'⟩
theorem DeedsV.below {w w' : World} {B : Nat} {v : Value} {l : List KC} (h : DeedsV w B v l) (hb : Below B w w') : DeedsV w' B v l := by
  obtain ⟨A, c, e, h1, h2, h3⟩ := h
  refine ⟨A, c, e, h1, h2, fun i hi => ?_⟩
  obtain ⟨b, off, K, kc, A1, c1, A2, c2, A3, c3, e1, hlt, q0, q1, q2, q3, q4, hs, hc⟩ := h3 i hi
  exact ⟨b, off, K, kc, A1, c1, A2, c2, A3, c3, e1, hlt, cellK hb hlt q0, cellK hb hlt q1, cellK hb hlt q2, cellK hb hlt q3, cellK hb hlt q4, hs.below hb, hc.below hb⟩
def addAll (W M : Nat) (l : List KC) : List KC := l.foldl (fun L x => (addK W M L x.1 x.2).1) []
theorem addAll_snoc (W M : Nat) (l : List KC) (x : KC) : addAll W M (l ++ [x]) = (addK W M (addAll W M l) x.1 x.2).1 := by unfold addAll; rw [List.foldl_append]; rfl
theorem take_snocK {l : List KC} {k : Nat} (h : k < l.length) : l.take (k + 1) = l.take k ++ [l.getD k zK] := by
  rw [List.take_succ_eq_append_getElem h, List.getD_eq_getElem?_getD, List.getElem?_eq_getElem h]; rfl
end Go.Proofs.Ytclhnnidbhchnaa
