/- Cells handed in; the walks of CellMerges and CellMay. -/
import Derived.Test.YtafmdpnfigkbfaaCellLives
import Derived.Test.YtafmdpnfigkbfaaReads
namespace Go.Proofs.Ytafmdpnfigkbfaa
open Go.ChangeShapes Go.WideShapes Go.ChangeAt Go.RowKit
set_option linter.unusedVariables false
set_option linter.unusedSimpArgs false

abbrev CellX := Int × List Int × List Int × List Int
def CellX.cell (x : CellX) : CellM := ⟨x.1, x.2.1, x.2.2.1, x.2.2.2⟩
def rdCell : Rd CellX := rdPair 1 rdInt (rdPair 1 (rdSlice 1 rdInt) (rdPair 1 (rdSlice 1 rdInt) (rdSlice 1 rdInt)))
theorem opens_intsI : Opens Try.prog 24 1 (rdSlice 1 rdInt) := opens_slice (e := 3) good_int Try.underlying24 (opens_int Try.underlying3 (by kernel_rfl)) (by kernel_rfl) (by omega)
theorem opens_cell : Opens Try.prog 26 4 rdCell := by
  refine opens_struct (k := 4) Try.underlying26 (by kernel_rfl) ?_
  exact opensF_cons (k2 := 3) (by rfl) (opens_int Try.underlying3 (by kernel_rfl)) (opensF_cons (k2 := 2) (by rfl) opens_intsI (opensF_cons (k2 := 1) (by rfl) opens_intsI (opensF_one (by rfl) opens_intsI)))
theorem ints_sl {w : World} {B : Nat} {cs : List Value} {l : List Int} (h : rdSlice 1 rdInt w B cs l) : ∃ v, cs = [v] ∧ Sl w B v (ivals l) := by
  have h' := h
  obtain ⟨A, c, rfl, -, -, -⟩ := h
  exact ⟨_, rfl, rdSlice.sl (Value.int .i64) (fun es x hx => hx.1) h'⟩
theorem cell_of_rd {w : World} {B : Nat} {cs : Array Value} {x : CellX} (h : rdCell w B cs.toList x) : CellR w B (.agg cs) x.cell := by
  obtain ⟨l1, ⟨e1, -⟩, l2, h2, l3, h3, h4⟩ := h
  obtain ⟨v1, e2, s1⟩ := ints_sl h2
  obtain ⟨v2, e3, s2⟩ := ints_sl h3
  obtain ⟨v3, e4, s3⟩ := ints_sl h4
  refine ⟨v1, v2, v3, ?_, s1, s2, s3⟩
  have : cs.toList = [.int .i64 x.1, v1, v2, v3] := by
    rw [← List.take_append_drop 1 cs.toList, e1, ← List.take_append_drop 1 (cs.toList.drop 1), e2, ← List.take_append_drop 1 ((cs.toList.drop 1).drop 1), e3, e4]
    rfl
  rw [show cs = #[.int .i64 x.1, v1, v2, v3] from Array.toList_inj.1 this]
  rfl
theorem MOwnPost.lit {r : CellM × Int} {w : World} {e : Ending} {w' : World} (hp : MOwnPost r w e w') : FLit r.1 r.2 w e w' := flit_of rfl hp
theorem MergePost.lit {r : CellM × Int} {w : World} {e : Ending} {w' : World} (hp : MergePost r w e w') : FLit r.1 r.2 w e w' := by
  obtain ⟨v, rfl, hr, hb⟩ := hp
  have hr' := hr
  obtain ⟨v1, v2, v3, rfl, s1, s2, s3⟩ := hr
  obtain ⟨A1, c1, rfl, -, -⟩ := s1.formI
  obtain ⟨A2, c2, rfl, -, -⟩ := s2.formI
  obtain ⟨A3, c3, rfl, -, -⟩ := s3.formI
  exact ⟨A1, c1, A2, c2, A3, c3, rfl, hr', hb⟩
set_option maxRecDepth 100000 in
set_option maxHeartbeats 1600000 in
theorem walk_CellMerges (w : World) (cs0 : Array Value) (x0 : CellX) (z0 : cs0.size = 4) (h0 : rdCell w w.heap.size cs0.toList x0) (cs1 : Array Value) (x1 : CellX) (z1 : cs1.size = 4) (h1 : rdCell w w.heap.size cs1.toList x1) :
    Calls Try.prog 4 #[.agg cs0, .agg cs1] w (Gives (.bool true) w) := by
  have hv := cell_of_rd h0
  have hx := cell_of_rd h1
  generalize x0.cell = a at *
  generalize x1.cell = b at *
  clear z0 h0 z1 h1
  have hv' := hv; have hx' := hx
  obtain ⟨v1, v2, v3, e0, s1, s2, s3⟩ := hv
  obtain ⟨u1, u2, u3, e1, t1, t2, t3⟩ := hx
  rw [e0] at hv' ⊢
  rw [e1] at hx' ⊢
  clear e0 e1
  obtain ⟨A1, c1, rfl, -, -⟩ := s1.formI
  obtain ⟨A2, c2, rfl, -, -⟩ := s2.formI
  obtain ⟨A3, c3, rfl, -, -⟩ := s3.formI
  obtain ⟨X1, d1, rfl, -, -⟩ := t1.formI
  obtain ⟨X2, d2, rfl, -, -⟩ := t2.formI
  obtain ⟨X3, d3, rfl, -, -⟩ := t3.formI
  clear s1 s2 s3 t1 t2 t3
  have HM := hid (fun W (h : Below w.heap.size w W) => (merge_any _ _ a b W ((hv'.below h).more h.size) ((hx'.below h).more h.size)).mono fun _ _ hp => MOwnPost.lit hp)
  have HR := hid (fun W (h : Below w.heap.size w W) => (refMerge_any _ _ a b W ((hv'.below h).more h.size) ((hx'.below h).more h.size)).mono fun _ _ hp => MergePost.lit hp)
  clear hv' hx'
  generalize mergeC a b = r at *
  obtain ⟨⟨n, s, lo, hi⟩, rk⟩ := r
  have HS := hid (fun v x W => refSameC_any v x ⟨n, s, lo, hi⟩ ⟨n, s, lo, hi⟩ W)
  rw [decide_eq_true (show (⟨n, s, lo, hi⟩ : CellM) = ⟨n, s, lo, hi⟩ from rfl)] at HS
  simp only at HM HR
  go_enter Try.func4, Try.ntmps4
  go_wp2_with fail
  refine (HM.out _ (by repeat' first | with_reducible exact Below.refl _ _ | assumption | (with_reducible refine Below.alloc ?_ ?_ _) | (with_reducible refine Below.setCell ?_ ?_ _) | (with_reducible refine Below.drew ?_) | (with_reducible refine below_drewN ?_ _) | (with_reducible refine Below.trans ?_ (Below.mono ‹_› ?_)) | omega | (with_reducible refine le_alloc ?_) | (with_reducible refine le_setCell ?_) | (with_reducible refine le_drew ?_) | (with_reducible refine le_drewN ?_) | (with_reducible refine Nat.le_trans ?_ (Below.size ‹_›)) | (simp <;> omega))).mono ?_
  rintro e w1 ⟨B1, b1, B2, b2, B3, b3, rfl, hr1, hb1⟩
  have q1 : Below w.heap.size w w1 := (by refine Below.trans ?_ (Below.mono hb1 ?_) <;> first | exact (by repeat' first | with_reducible exact Below.refl _ _ | assumption | (with_reducible refine Below.alloc ?_ ?_ _) | (with_reducible refine Below.setCell ?_ ?_ _) | (with_reducible refine Below.drew ?_) | (with_reducible refine below_drewN ?_ _) | (with_reducible refine Below.trans ?_ (Below.mono ‹_› ?_)) | omega | (with_reducible refine le_alloc ?_) | (with_reducible refine le_setCell ?_) | (with_reducible refine le_drew ?_) | (with_reducible refine le_drewN ?_) | (with_reducible refine Nat.le_trans ?_ (Below.size ‹_›)) | (simp <;> omega)))
  have z1 : w.heap.size + 1 < w1.heap.size := by have := hb1.size; simp at this; omega
  have k1 : Blk (w1.alloc (.cells #[.int .i64 n, .slice B1 s.length b1, .slice B2 lo.length b2, .slice B3 hi.length b3] 26)) w.heap.size (.int .i64 a.n) (.slice A1 a.s.length c1) (.slice A2 a.lo.length c2) (.slice A3 a.hi.length c3) := (Blk.below (by constructor <;> simp [go_sem]) hb1 (by simp <;> omega)).alloc (by omega) _
  have k2 : Blk (w1.alloc (.cells #[.int .i64 n, .slice B1 s.length b1, .slice B2 lo.length b2, .slice B3 hi.length b3] 26)) (w.heap.size + 1) (.int .i64 b.n) (.slice X1 b.s.length d1) (.slice X2 b.lo.length d2) (.slice X3 b.hi.length d3) := (Blk.below (by constructor <;> simp [go_sem]) hb1 (by simp <;> omega)).alloc (by omega) _
  obtain ⟨p0, p1, p2, p3, -, -, -, -⟩ := k1
  obtain ⟨p4, p5, p6, p7, -, -, -, -⟩ := k2
  have HR1 := hid hr1
  clear hb1 hr1
  go_wp2_with fail
  refine (HR.out _ (q1.trans ((bl1 w1 _).mono q1.size))).mono ?_
  rintro e w2 ⟨D1, e1, D2, e2, D3, e3, rfl, hr2, hb2⟩
  have q2 : Below w1.heap.size w1 w2 := (by refine Below.trans ?_ (Below.mono hb2 ?_) <;> first | exact (by repeat' first | with_reducible exact Below.refl _ _ | assumption | (with_reducible refine Below.alloc ?_ ?_ _) | (with_reducible refine Below.setCell ?_ ?_ _) | (with_reducible refine Below.drew ?_) | (with_reducible refine below_drewN ?_ _) | (with_reducible refine Below.trans ?_ (Below.mono ‹_› ?_)) | omega | (with_reducible refine le_alloc ?_) | (with_reducible refine le_setCell ?_) | (with_reducible refine le_drew ?_) | (with_reducible refine le_drewN ?_) | (with_reducible refine Nat.le_trans ?_ (Below.size ‹_›)) | (simp <;> omega)))
  have s2 := q2.size
  have z2 : w1.heap.size < w2.heap.size := by have := hb2.size; simp at this; omega
  obtain ⟨m0, m1, m2, m3, -, -, -, -⟩ : Blk (w2.alloc (.cells #[.int .i64 n, .slice D1 s.length e1, .slice D2 lo.length e2, .slice D3 hi.length e3] 26)) w1.heap.size (.int .i64 n) (.slice B1 s.length b1) (.slice B2 lo.length b2) (.slice B3 hi.length b3) := (Blk.below (by constructor <;> simp [go_sem]) hb2 (by simp <;> omega)).alloc (by omega) _
  have HR2 := hid hr2
  clear hb2 hr2 p0 p1 p2 p3 p4 p5 p6 p7
  go_wp2_with fail
  refine (HS.out _ _ _ ((HR1.out.below (q2.trans ((bl1 w2 _).mono s2))).more (by simp; omega)) ((HR2.out.below (bl1 w2 _)).more (by simp))).mono ?_
  rintro e w3 ⟨rfl, hb3⟩
  have q3 : Below w2.heap.size w2 w3 := (by refine Below.trans ?_ (Below.mono hb3 ?_) <;> first | exact (by repeat' first | with_reducible exact Below.refl _ _ | assumption | (with_reducible refine Below.alloc ?_ ?_ _) | (with_reducible refine Below.setCell ?_ ?_ _) | (with_reducible refine Below.drew ?_) | (with_reducible refine below_drewN ?_ _) | (with_reducible refine Below.trans ?_ (Below.mono ‹_› ?_)) | omega | (with_reducible refine le_alloc ?_) | (with_reducible refine le_setCell ?_) | (with_reducible refine le_drew ?_) | (with_reducible refine le_drewN ?_) | (with_reducible refine Nat.le_trans ?_ (Below.size ‹_›)) | (simp <;> omega)))
  clear hb3
  go_wp2_with fail
  refine (lives_true _).mono ?_
  rintro e w4 ⟨rfl, hb4⟩
  have s1 := q1.size; have s3 := q3.size
  go_wp2
  go_ret
  exact ⟨rfl, (q1.trans (q2.mono s1)).trans ((q3.mono (by omega)).trans (hb4.mono (by omega)))⟩
end Go.Proofs.Ytafmdpnfigkbfaa
