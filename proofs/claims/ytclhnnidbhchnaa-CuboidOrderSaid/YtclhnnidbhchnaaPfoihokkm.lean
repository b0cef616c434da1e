/- 1 text of this claim, in build order. -/
import Derived.Test.YtclhnnidbhchnaaPllkiiedo
/- The laws' lives: the document's examples. -/
namespace Go.Proofs.Ytclhnnidbhchnaa
open Go.ChangeShapes Go.WideShapes Go.ChangeAt Go.RowKit
set_option linter.unusedVariables false
set_option linter.unusedSimpArgs false

theorem Sl.one {w : World} {B N : Nat} {x : Int} (hb : N < B) (h : w.cell? ⟨N, 0, none⟩ = some (.int .i64 x)) : Sl w B (.slice (some ⟨N, 0, none⟩) 1 1) (ivals [x]) := by
  refine ⟨_, 1, rfl, Nat.le_refl _, by simp [maxLen], fun _ => ⟨N, 0, rfl, hb, fun j u hu => ?_⟩⟩
  cases j with
  | zero => simp [ivals] at hu; subst hu; exact h
  | succ j => simp [ivals] at hu
theorem RowsI.lit {w : World} {B N : Nat} (hb : N < B) (us : List Value) (l : List (List Int)) {n : Nat} (hn : n = l.length) (hm : n ≤ 1000) (h : ∀ i, i < l.length → w.cell? ⟨N, i, none⟩ = some (us.getD i undef) ∧ Sl w B (us.getD i undef) (ivals (l.getD i []))) :
    RowsI w B (.slice (some ⟨N, 0, none⟩) n n) l := by
  subst hn
  refine ⟨_, _, rfl, Nat.le_refl _, by unfold maxLen; omega, fun i hi => ?_⟩
  obtain ⟨h1, h2⟩ := h i hi
  exact ⟨N, 0, _, rfl, hb, by rw [Nat.zero_add]; exact h1, h2⟩
def FLit (c : CellM) (k : Int) (w : World) (e : Ending) (w' : World) : Prop :=
  ∃ A1 c1 A2 c2 A3 c3, e = .returned (.tuple #[.agg #[.int .i64 c.n, .slice A1 c.s.length c1, .slice A2 c.lo.length c2, .slice A3 c.hi.length c3], .int .i64 k]) ∧
    CellR w' w'.heap.size (.agg #[.int .i64 c.n, .slice A1 c.s.length c1, .slice A2 c.lo.length c2, .slice A3 c.hi.length c3]) c ∧ Below w.heap.size w w'
theorem flit_of {r : CellM × Int} {c : CellM} {k : Int} (h : r = (c, k)) {w : World} {e : Ending} {w' : World} (hp : MOwnPost r w e w') : FLit c k w e w' := by
  subst h
  obtain ⟨v, rfl, ho, hb⟩ := hp
  have hr := ho.read
  obtain ⟨v1, v2, v3, rfl, s1, s2, s3⟩ := hr
  have hr := ho.read
  obtain ⟨A1, c1, rfl, -, -⟩ := s1.formI
  obtain ⟨A2, c2, rfl, -, -⟩ := s2.formI
  obtain ⟨A3, c3, rfl, -, -⟩ := s3.formI
  exact ⟨A1, c1, A2, c2, A3, c3, rfl, hr, hb⟩
theorem fold_lit {m : Int} {l : List (List Int)} {c : CellM} {k : Int} (h : foldC m l = (c, k)) (hn : l.length ≤ 1000) (v : Value) (w : World) (hv : RowsI w w.heap.size v l) :
    Calls Try.prog 49 #[.int .i64 m, v] w (FLit c k w) := (fold_any m v l w hv hn).mono fun _ _ hp => flit_of h hp
theorem merge_lit {a b : CellM} {c : CellM} {k : Int} (h : mergeC a b = (c, k)) (v x : Value) (w : World) (hv : CellR w w.heap.size v a) (hx : CellR w w.heap.size x b) :
    Calls Try.prog 50 #[v, x] w (FLit c k w) := (merge_any v x a b w hv hx).mono fun _ _ hp => flit_of h hp
theorem lf1 : foldC 1 [[3], [-5]] = (⟨2, [-2], [-5], [3]⟩, 0) := by decide
theorem lf2 : foldC 1 [[2305843009213693952], [2305843009213693952], [2305843009213693952], [-2305843009213693952]] = (⟨4, [4611686018427387904], [-2305843009213693952], [2305843009213693952]⟩, 0) := by decide
theorem lf3 : foldC 1 [[2305843009213693952], [2305843009213693952], [2305843009213693952]] = (⟨0, [], [], []⟩, 14) := by decide
theorem lf4 : mergeC (emptyC 1) (emptyC 2) = (⟨0, [], [], []⟩, 1) := by decide
theorem lf5 : mayC ⟨2, [-2], [-5], [3]⟩ = true := by decide
theorem em1 : emN 1 = 1 := by decide
theorem em2 : emN 2 = 2 := by decide
set_option maxRecDepth 100000 in
set_option maxHeartbeats 3200000 in
theorem lives_true (w : World) : Calls Try.prog 14 #[] w (Gives (.bool true) w) := by
  have HF1 := hid (fun v w hv => fold_lit lf1 (by simp) v w hv)
  have HF2 := hid (fun v w hv => fold_lit lf2 (by simp) v w hv)
  have HF3 := hid (fun v w hv => fold_lit lf3 (by simp) v w hv)
  have HM4 := hid (fun v x w hv hx => merge_lit lf4 v x w hv hx)
  have HE1 := hid (fun w => cellEmpty_any 1 w)
  have HE2 := hid (fun w => cellEmpty_any 2 w)
  rw [em1] at HE1
  rw [em2] at HE2
  have HSM := hid (fun v x w => refSameC_any v x ⟨2, [-2], [-5], [3]⟩ ⟨2, [-2], [-5], [3]⟩ w)
  rw [show decide ((⟨2, [-2], [-5], [3]⟩ : CellM) = ⟨2, [-2], [-5], [3]⟩) = true by decide] at HSM
  have HMY := hid (fun v w => may_any v ⟨2, [-2], [-5], [3]⟩ w)
  rw [lf5] at HMY
  go_enter Try.func14, Try.ntmps14
  go_wp2_with fail
  refine (HF1.out _ _ (RowsI.lit (by simp) [.slice (some ⟨w.heap.size, 0, none⟩) 1 1, .slice (some ⟨w.heap.size + 1, 0, none⟩) 1 1] _ rfl (by simp) (fun i hi => ?_))).mono ?_
  · have : i = 0 ∨ i = 1 := by simp at hi; omega
    rcases this with rfl | rfl
    · exact ⟨by simp [go_sem], Sl.one (by simp; omega) (by simp [go_sem])⟩
    · exact ⟨by simp [go_sem], Sl.one (by simp) (by simp [go_sem])⟩
  rintro e w1 ⟨A1, c1, A2, c2, A3, c3, rfl, hr1, hb1⟩
  have B1 : Below w.heap.size w w1 := (by refine Below.trans ?_ (Below.mono hb1 ?_) <;> first | exact (by repeat' first | with_reducible exact Below.refl _ _ | assumption | (with_reducible refine Below.alloc ?_ ?_ _) | (with_reducible refine Below.setCell ?_ ?_ _) | (with_reducible refine Below.drew ?_) | (with_reducible refine below_drewN ?_ _) | (with_reducible refine Below.trans ?_ (Below.mono ‹_› ?_)) | omega | (with_reducible refine le_alloc ?_) | (with_reducible refine le_setCell ?_) | (with_reducible refine le_drew ?_) | (with_reducible refine le_drewN ?_) | (with_reducible refine Nat.le_trans ?_ (Below.size ‹_›)) | (simp <;> omega)))
  have s1 := B1.size
  have HR1 := hid hr1
  clear hb1 hr1
  go_wp2_with fail
  refine (HF2.out _ _ (RowsI.lit (by simp) [.slice (some ⟨w1.heap.size + 1, 0, none⟩) 1 1, .slice (some ⟨w1.heap.size + 1 + 1, 0, none⟩) 1 1, .slice (some ⟨w1.heap.size + 1 + 1 + 1, 0, none⟩) 1 1, .slice (some ⟨w1.heap.size + 1 + 1 + 1 + 1, 0, none⟩) 1 1] _ rfl (by simp) (fun i hi => ?_))).mono ?_
  · have : i = 0 ∨ i = 1 ∨ i = 2 ∨ i = 3 := by simp at hi; omega
    rcases this with rfl | rfl | rfl | rfl
    all_goals exact ⟨by simp [go_sem], Sl.one (by simp <;> omega) (by simp [go_sem])⟩
  rintro e w2 ⟨D1, d1, D2, d2, D3, d3, rfl, hr2, hb2⟩
  have B2 : Below w1.heap.size w1 w2 := (by refine Below.trans ?_ (Below.mono hb2 ?_) <;> first | exact (by repeat' first | with_reducible exact Below.refl _ _ | assumption | (with_reducible refine Below.alloc ?_ ?_ _) | (with_reducible refine Below.setCell ?_ ?_ _) | (with_reducible refine Below.drew ?_) | (with_reducible refine below_drewN ?_ _) | (with_reducible refine Below.trans ?_ (Below.mono ‹_› ?_)) | omega | (with_reducible refine le_alloc ?_) | (with_reducible refine le_setCell ?_) | (with_reducible refine le_drew ?_) | (with_reducible refine le_drewN ?_) | (with_reducible refine Nat.le_trans ?_ (Below.size ‹_›)) | (simp <;> omega)))
  have s2 := B2.size
  have k1 : Blk w2 w1.heap.size (.int .i64 2) (.slice A1 1 c1) (.slice A2 1 c2) (.slice A3 1 c3) := Blk.below (by constructor <;> simp [go_sem]) hb2 (by simp <;> omega)
  have l1 := World.block_lt_of_cell? _ _ k1.c0
  have K1 := hid k1; have HR2 := hid hr2
  clear hb2 hr2 k1
  go_wp2_with fail
  refine (HF3.out _ _ (RowsI.lit (by simp) [.slice (some ⟨w2.heap.size + 1, 0, none⟩) 1 1, .slice (some ⟨w2.heap.size + 1 + 1, 0, none⟩) 1 1, .slice (some ⟨w2.heap.size + 1 + 1 + 1, 0, none⟩) 1 1] _ rfl (by simp) (fun i hi => ?_))).mono ?_
  · have : i = 0 ∨ i = 1 ∨ i = 2 := by simp at hi; omega
    rcases this with rfl | rfl | rfl
    all_goals exact ⟨by simp [go_sem], Sl.one (by simp <;> omega) (by simp [go_sem])⟩
  rintro e w3 ⟨G1, g1, G2, g2, G3, g3, rfl, hr3, hb3⟩
  have B3 : Below w2.heap.size w2 w3 := (by refine Below.trans ?_ (Below.mono hb3 ?_) <;> first | exact (by repeat' first | with_reducible exact Below.refl _ _ | assumption | (with_reducible refine Below.alloc ?_ ?_ _) | (with_reducible refine Below.setCell ?_ ?_ _) | (with_reducible refine Below.drew ?_) | (with_reducible refine below_drewN ?_ _) | (with_reducible refine Below.trans ?_ (Below.mono ‹_› ?_)) | omega | (with_reducible refine le_alloc ?_) | (with_reducible refine le_setCell ?_) | (with_reducible refine le_drew ?_) | (with_reducible refine le_drewN ?_) | (with_reducible refine Nat.le_trans ?_ (Below.size ‹_›)) | (simp <;> omega)))
  have s3 := B3.size
  have k2 : Blk w3 w2.heap.size (.int .i64 4) (.slice D1 1 d1) (.slice D2 1 d2) (.slice D3 1 d3) := Blk.below (by constructor <;> simp [go_sem]) hb3 (by simp <;> omega)
  have l2 := World.block_lt_of_cell? _ _ k2.c0
  have K2 := hid k2
  clear hb3 hr3 k2
  go_wp2_with fail
  refine (HE1.out _).mono ?_
  rintro e w4 ⟨y4, rfl, ho4, hb4⟩
  have B4 : Below w3.heap.size w3 w4 := (by refine Below.trans ?_ (Below.mono hb4 ?_) <;> first | exact (by repeat' first | with_reducible exact Below.refl _ _ | assumption | (with_reducible refine Below.alloc ?_ ?_ _) | (with_reducible refine Below.setCell ?_ ?_ _) | (with_reducible refine Below.drew ?_) | (with_reducible refine below_drewN ?_ _) | (with_reducible refine Below.trans ?_ (Below.mono ‹_› ?_)) | omega | (with_reducible refine le_alloc ?_) | (with_reducible refine le_setCell ?_) | (with_reducible refine le_drew ?_) | (with_reducible refine le_drewN ?_) | (with_reducible refine Nat.le_trans ?_ (Below.size ‹_›)) | (simp <;> omega)))
  have s4 := B4.size
  have HR4 := hid ho4.read
  clear hb4 ho4
  go_wp2_with fail
  refine (HE2.out _).mono ?_
  rintro e w5 ⟨y5, rfl, ho5, hb5⟩
  have s5 := hb5.size
  have HR5 := hid ho5.read
  have HB5 := hid hb5
  clear hb5 ho5
  go_wp2_with fail
  refine (HM4.out _ _ _ (HR4.out.below' HB5.out) HR5.out).mono ?_
  rintro e w6 ⟨M1, m1, M2, m2, M3, m3, rfl, hr6, hb6⟩
  have s6 := hb6.size
  have B6 : Below w3.heap.size w3 w6 := (B4.trans (HB5.out.mono s4)).trans (hb6.mono (by omega))
  have K1' := hid (((K1.out.below B3 l1).below B6 (by omega)).alloc (by omega) (.cells #[.int .i64 0, .slice M1 0 m1, .slice M2 0 m2, .slice M3 0 m3] 25))
  have K2' := hid ((K2.out.below B6 l2).alloc (by omega) (.cells #[.int .i64 0, .slice M1 0 m1, .slice M2 0 m2, .slice M3 0 m3] 25))
  have BA : Below w3.heap.size w3 (w6.alloc (.cells #[.int .i64 0, .slice M1 0 m1, .slice M2 0 m2, .slice M3 0 m3] 25)) := B6.trans ((bl1 w6 _).mono (by omega))
  have B16 : Below w1.heap.size w1 (w6.alloc (.cells #[.int .i64 0, .slice M1 0 m1, .slice M2 0 m2, .slice M3 0 m3] 25)) := (B2.trans (B3.mono s2)).trans (BA.mono (by omega))
  have B26 : Below w2.heap.size w2 (w6.alloc (.cells #[.int .i64 0, .slice M1 0 m1, .slice M2 0 m2, .slice M3 0 m3] 25)) := B3.trans (BA.mono s3)
  have HB16 := hid B16; have HB26 := hid B26
  obtain ⟨v1, v2, v3, e, hs1, -, -⟩ := HR2.out.below B26
  have hs1' : Sl (w6.alloc (.cells #[.int .i64 0, .slice M1 0 m1, .slice M2 0 m2, .slice M3 0 m3] 25)) w2.heap.size (.slice D1 1 d1) (ivals [4611686018427387904]) := by simp at e; obtain ⟨rfl, -, -⟩ := e; exact hs1
  obtain ⟨bd, od, rfl, hbd, hcd⟩ := Sl.int (k := 0) hs1' (by simp)
  rw [Nat.add_zero] at hcd
  have HCD := hid hcd
  obtain ⟨q0, q1, q2, q3, -, -, -, -⟩ := K1'.out
  clear hb6 hr6 e hs1 hs1' hcd B16 B26 BA
  go_wp2_with fail
  refine (HSM.out _ _ _ ((HR1.out.below ?_).more ?_) ⟨_, _, _, rfl, Sl.one ?_ ?_, Sl.one ?_ ?_, Sl.one ?_ ?_⟩).mono ?_
  · exact Below.alloc (Below.alloc (Below.alloc HB16.out (by simp <;> omega) _) (by simp <;> omega) _) (by simp <;> omega) _
  · simp; omega
  · simp <;> omega
  · simp [go_sem]
  · simp <;> omega
  · simp [go_sem]
  · simp <;> omega
  · simp [go_sem]
  rintro e w7 ⟨rfl, hb7⟩
  have B7 : Below (w6.alloc (.cells #[.int .i64 0, .slice M1 0 m1, .slice M2 0 m2, .slice M3 0 m3] 25)).heap.size (w6.alloc (.cells #[.int .i64 0, .slice M1 0 m1, .slice M2 0 m2, .slice M3 0 m3] 25)) w7 := (by refine Below.trans ?_ (Below.mono hb7 ?_) <;> first | exact (by repeat' first | with_reducible exact Below.refl _ _ | assumption | (with_reducible refine Below.alloc ?_ ?_ _) | (with_reducible refine Below.setCell ?_ ?_ _) | (with_reducible refine Below.drew ?_) | (with_reducible refine below_drewN ?_ _) | (with_reducible refine Below.trans ?_ (Below.mono ‹_› ?_)) | omega | (with_reducible refine le_alloc ?_) | (with_reducible refine le_setCell ?_) | (with_reducible refine le_drew ?_) | (with_reducible refine le_drewN ?_) | (with_reducible refine Nat.le_trans ?_ (Below.size ‹_›)) | (simp <;> omega)))
  have hsz : (w6.alloc (.cells #[.int .i64 0, .slice M1 0 m1, .slice M2 0 m2, .slice M3 0 m3] 25)).heap.size = w6.heap.size + 1 := World.size_alloc _ _
  have B17 := hid (HB16.out.trans (B7.mono (by omega)))
  obtain ⟨x0, x1, x2, x3, -, -, -, -⟩ := K1'.out.below B7 (by omega)
  obtain ⟨y0, y1, y2, y3, -, -, -, -⟩ := K2'.out.below B7 (by omega)
  have y6 := cellK B7 (by omega) HCD.out
  simp only [List.getD_cons_zero] at y6
  clear hb7 q0 q1 q2 q3
  go_wp2_with fail
  refine (HMY.out _ _ ((HR1.out.below B17.out).more B17.out.size)).mono ?_
  rintro e w8 ⟨rfl, hb8⟩
  have s8 := B17.out.size
  go_wp2
  go_ret
  exact ⟨rfl, (B1.trans (B17.out.mono s1)).trans (hb8.mono (by omega))⟩
end Go.Proofs.Ytclhnnidbhchnaa
