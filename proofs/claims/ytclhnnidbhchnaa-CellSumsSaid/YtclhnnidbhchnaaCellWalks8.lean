/- The walk of CellSums. -/
import Derived.Test.YtclhnnidbhchnaaCellOpen
import Derived.Test.YtclhnnidbhchnaaCellSum
namespace Go.Proofs.Ytclhnnidbhchnaa
open Go.ChangeShapes Go.WideShapes Go.ChangeAt Go.RowKit
set_option linter.unusedVariables false
set_option linter.unusedSimpArgs false

theorem good_cell : Good rdCell := good_pair good_int (good_pair (good_slice good_int) (good_pair (good_slice good_int) (good_slice good_int)))
theorem opens_cells : Opens Try.prog 22 1 (rdSlice 4 rdCell) := opens_slice (e := 25) good_cell Try.underlying22 opens_cell (by kernel_rfl) (by omega)
theorem e4_of_rd {w : World} {B : Nat} {es : List Value} {x : CellX} (h : rdCell w B es x) (h4 : es.length = 4) : ∃ y : E4, es = e4 y ∧ CellR w B (.agg #[.int .i64 y.1, y.2.1, y.2.2.1, y.2.2.2]) x.cell := by
  have hc := cell_of_rd (cs := es.toArray) (by simpa using h)
  have hc' := hc
  obtain ⟨v1, v2, v3, e, -⟩ := hc
  injection e with e
  have el : es = [.int .i64 x.cell.n, v1, v2, v3] := by have := congrArg Array.toList e; simpa using this
  refine ⟨(x.cell.n, v1, v2, v3), el, ?_⟩
  rw [el] at hc'
  exact hc'
theorem rowC_of_rd {w : World} {B : Nat} {v : Value} {l : List CellX} (h : rdSlice 4 rdCell w B [v] l) : RowC w B v (l.map CellX.cell) := by
  obtain ⟨A, c, e, h1, h2, h3⟩ := h
  injection e with e _
  subst e
  by_cases h0 : 0 < l.length
  · obtain ⟨b, off, e1, hb, hx⟩ := h3 h0
    obtain ⟨es, g1, g2⟩ := choose_list (fun i (y : E4) => At4 w b off i y ∧ CellR w B (.agg #[.int .i64 y.1, y.2.1, y.2.2.1, y.2.2.2]) ((l.map CellX.cell).getD i nilC)) l.length (fun i hi => by
      obtain ⟨es, q1, q2, q3⟩ := hx i l[i] (List.getElem?_eq_getElem hi)
      obtain ⟨y, rfl, hy⟩ := e4_of_rd q3 q1
      refine ⟨y, ⟨q2 0 _ rfl, q2 1 _ rfl, q2 2 _ rfl, q2 3 _ rfl⟩, ?_⟩
      rw [show (l.map CellX.cell).getD i nilC = l[i].cell by rw [List.getD_eq_getElem?_getD, List.getElem?_map, List.getElem?_eq_getElem hi]; rfl]
      exact hy)
    have hat : ∀ k, k < l.length → At4 w b off k (es.getD k z4) ∧ _ := fun k hk => g2 k (es.getD k z4) (by rw [List.getD_eq_getElem?_getD, List.getElem?_eq_getElem (by omega)]; rfl)
    exact ⟨A, c, es, by rw [List.length_map], by rw [List.length_map]; exact g1, by rw [List.length_map]; exact h1, h2, fun _ => ⟨b, off, e1, hb, fun k hk => (hat k (by simpa using hk)).1⟩, fun k hk => (hat k (by simpa using hk)).2⟩
  · have hl : l = [] := by cases l with
      | nil => rfl
      | cons x l => simp at h0
    subst hl
    exact ⟨A, c, [], rfl, rfl, by simp, h2, fun h => by simp at h, fun k hk => by simp at hk⟩
theorem RowC.take {w : World} {B n c : Nat} {A : Option Addr} {L : List CellM} (h : RowC w B (.slice A n c) L) {m : Nat} (hm : m ≤ L.length) : RowC w B (.slice A m c) (L.take m) := by
  obtain ⟨A', c', es, e, h2, h3, h4, h5, h6⟩ := h
  injection e with e1 e2 e3
  subst e1; subst e3
  have hl : (L.take m).length = m := by rw [List.length_take]; omega
  refine ⟨A, c, es.take m, by rw [hl], by rw [hl, List.length_take]; omega, by omega, h4, fun h0 => ?_, fun k hk => ?_⟩
  · obtain ⟨b, off, e4, hb, hat⟩ := h5 (by omega)
    refine ⟨b, off, e4, hb, fun k hk => ?_⟩
    have := hat k (by omega)
    rwa [show (es.take m).getD k z4 = es.getD k z4 by simp only [List.getD_eq_getElem?_getD]; rw [List.getElem?_take, if_pos (by omega)]]
  · have := h6 k (by omega)
    rw [show (es.take m).getD k z4 = es.getD k z4 by simp only [List.getD_eq_getElem?_getD]; rw [List.getElem?_take, if_pos (by omega)],
      show (L.take m).getD k nilC = L.getD k nilC by simp only [List.getD_eq_getElem?_getD]; rw [List.getElem?_take, if_pos (by omega)]]
    exact this
set_option maxRecDepth 100000 in
set_option maxHeartbeats 3200000 in
theorem walk_CellSums (w : World) (v0 : Value) (l0 : List CellX) (s0 : rdSlice 4 rdCell w w.heap.size [v0] l0) :
    Calls Try.prog 3 #[v0] w (Gives (.bool true) w) := by
  have hrow := rowC_of_rd s0
  clear s0
  generalize l0.map CellX.cell = L at *
  obtain ⟨A, c, es, rfl, -, hc, hcm, -, -⟩ := id hrow
  unfold maxLen at hcm
  by_cases h40 : 40 < L.length
  · replace hrow := hrow.take (m := 40) (by omega)
    have hl40 : (L.take 40).length = 40 := by rw [List.length_take]; omega
    have HM := hid (fun W (h : Below w.heap.size w W) => (sum_any _ _ W ((hrow.below h).more h.size) (by omega)).mono fun _ _ hp => MOwnPost.lit hp)
    have HR := hid (fun W (h : Below w.heap.size w W) => (refSum_any _ _ W ((hrow.below h).more h.size) (by omega)).mono fun _ _ hp => MergePost.lit hp)
    clear hrow
    generalize sumC _ = r at *
    obtain ⟨⟨n, s, lo, hi⟩, rk⟩ := r
    have HS := hid (fun v x W => refSameC_any v x ⟨n, s, lo, hi⟩ ⟨n, s, lo, hi⟩ W)
    rw [decide_eq_true (show (⟨n, s, lo, hi⟩ : CellM) = ⟨n, s, lo, hi⟩ from rfl)] at HS
    simp only at HM HR
    go_enter Try.func3, Try.ntmps3
    go_wp2_with fail
    refine (HM.out _ (by repeat' first | with_reducible exact Below.refl _ _ | assumption | (with_reducible refine Below.alloc ?_ ?_ _) | (with_reducible refine Below.setCell ?_ ?_ _) | (with_reducible refine Below.drew ?_) | (with_reducible refine below_drewN ?_ _) | (with_reducible refine Below.trans ?_ (Below.mono ‹_› ?_)) | omega | (with_reducible refine le_alloc ?_) | (with_reducible refine le_setCell ?_) | (with_reducible refine le_drew ?_) | (with_reducible refine le_drewN ?_) | (with_reducible refine Nat.le_trans ?_ (Below.size ‹_›)) | (simp <;> omega))).mono ?_
    rintro e w1 ⟨B1, b1, B2, b2, B3, b3, rfl, hr1, hb1⟩
    have q1 : Below w.heap.size w w1 := (by refine Below.trans ?_ (Below.mono hb1 ?_) <;> first | exact (by repeat' first | with_reducible exact Below.refl _ _ | assumption | (with_reducible refine Below.alloc ?_ ?_ _) | (with_reducible refine Below.setCell ?_ ?_ _) | (with_reducible refine Below.drew ?_) | (with_reducible refine below_drewN ?_ _) | (with_reducible refine Below.trans ?_ (Below.mono ‹_› ?_)) | omega | (with_reducible refine le_alloc ?_) | (with_reducible refine le_setCell ?_) | (with_reducible refine le_drew ?_) | (with_reducible refine le_drewN ?_) | (with_reducible refine Nat.le_trans ?_ (Below.size ‹_›)) | (simp <;> omega)))
    have HR1 := hid hr1
    clear hb1 hr1
    go_wp2_with fail
    refine (HR.out _ (q1.trans ((bl1 w1 _).mono q1.size))).mono ?_
    rintro e w2 ⟨D1, e1, D2, e2, D3, e3, rfl, hr2, hb2⟩
    have q2 : Below w1.heap.size w1 w2 := (by refine Below.trans ?_ (Below.mono hb2 ?_) <;> first | exact (by repeat' first | with_reducible exact Below.refl _ _ | assumption | (with_reducible refine Below.alloc ?_ ?_ _) | (with_reducible refine Below.setCell ?_ ?_ _) | (with_reducible refine Below.drew ?_) | (with_reducible refine below_drewN ?_ _) | (with_reducible refine Below.trans ?_ (Below.mono ‹_› ?_)) | omega | (with_reducible refine le_alloc ?_) | (with_reducible refine le_setCell ?_) | (with_reducible refine le_drew ?_) | (with_reducible refine le_drewN ?_) | (with_reducible refine Nat.le_trans ?_ (Below.size ‹_›)) | (simp <;> omega)))
    have s2 := q2.size
    have z2 : w1.heap.size < w2.heap.size := by have := hb2.size; simp at this; omega
    obtain ⟨m0, m1, m2, m3, -, -, -, -⟩ : Blk (w2.alloc (.cells #[.int .i64 n, .slice D1 s.length e1, .slice D2 lo.length e2, .slice D3 hi.length e3] 25)) w1.heap.size (.int .i64 n) (.slice B1 s.length b1) (.slice B2 lo.length b2) (.slice B3 hi.length b3) := (Blk.below (by constructor <;> simp [go_sem]) hb2 (by simp <;> omega)).alloc (by omega) _
    have HR2 := hid hr2
    clear hb2 hr2
    go_wp2_with fail
    refine (HS.out _ _ _ ((HR1.out.below (q2.trans ((bl1 w2 _).mono s2))).more (by simp; omega)) ((HR2.out.below (bl1 w2 _)).more (by simp))).mono ?_
    rintro e w3 ⟨rfl, hb3⟩
    have q3 : Below w2.heap.size w2 w3 := (by refine Below.trans ?_ (Below.mono hb3 ?_) <;> first | exact (by repeat' first | with_reducible exact Below.refl _ _ | assumption | (with_reducible refine Below.alloc ?_ ?_ _) | (with_reducible refine Below.setCell ?_ ?_ _) | (with_reducible refine Below.drew ?_) | (with_reducible refine below_drewN ?_ _) | (with_reducible refine Below.trans ?_ (Below.mono ‹_› ?_)) | omega | (with_reducible refine le_alloc ?_) | (with_reducible refine le_setCell ?_) | (with_reducible refine le_drew ?_) | (with_reducible refine le_drewN ?_) | (with_reducible refine Nat.le_trans ?_ (Below.size ‹_›)) | (simp <;> omega)))
    clear hb3
    go_wp2_with fail
    refine (lives_true _).mono ?_
    rintro e w4 ⟨rfl, hb4⟩
    have s1 := q1.size; have s3 := q3.size
    go_wp2
    go_ret
    exact ⟨rfl, (q1.trans (q2.mono s1)).trans ((q3.mono (by omega)).trans (hb4.mono (by omega)))⟩
  · have HM := hid (fun W (h : Below w.heap.size w W) => (sum_any _ _ W ((hrow.below h).more h.size) (by omega)).mono fun _ _ hp => MOwnPost.lit hp)
    have HR := hid (fun W (h : Below w.heap.size w W) => (refSum_any _ _ W ((hrow.below h).more h.size) (by omega)).mono fun _ _ hp => MergePost.lit hp)
    clear hrow
    generalize sumC _ = r at *
    obtain ⟨⟨n, s, lo, hi⟩, rk⟩ := r
    have HS := hid (fun v x W => refSameC_any v x ⟨n, s, lo, hi⟩ ⟨n, s, lo, hi⟩ W)
    rw [decide_eq_true (show (⟨n, s, lo, hi⟩ : CellM) = ⟨n, s, lo, hi⟩ from rfl)] at HS
    simp only at HM HR
    go_enter Try.func3, Try.ntmps3
    go_wp2_with fail
    refine (HM.out _ (by repeat' first | with_reducible exact Below.refl _ _ | assumption | (with_reducible refine Below.alloc ?_ ?_ _) | (with_reducible refine Below.setCell ?_ ?_ _) | (with_reducible refine Below.drew ?_) | (with_reducible refine below_drewN ?_ _) | (with_reducible refine Below.trans ?_ (Below.mono ‹_› ?_)) | omega | (with_reducible refine le_alloc ?_) | (with_reducible refine le_setCell ?_) | (with_reducible refine le_drew ?_) | (with_reducible refine le_drewN ?_) | (with_reducible refine Nat.le_trans ?_ (Below.size ‹_›)) | (simp <;> omega))).mono ?_
    rintro e w1 ⟨B1, b1, B2, b2, B3, b3, rfl, hr1, hb1⟩
    have q1 : Below w.heap.size w w1 := (by refine Below.trans ?_ (Below.mono hb1 ?_) <;> first | exact (by repeat' first | with_reducible exact Below.refl _ _ | assumption | (with_reducible refine Below.alloc ?_ ?_ _) | (with_reducible refine Below.setCell ?_ ?_ _) | (with_reducible refine Below.drew ?_) | (with_reducible refine below_drewN ?_ _) | (with_reducible refine Below.trans ?_ (Below.mono ‹_› ?_)) | omega | (with_reducible refine le_alloc ?_) | (with_reducible refine le_setCell ?_) | (with_reducible refine le_drew ?_) | (with_reducible refine le_drewN ?_) | (with_reducible refine Nat.le_trans ?_ (Below.size ‹_›)) | (simp <;> omega)))
    have HR1 := hid hr1
    clear hb1 hr1
    go_wp2_with fail
    refine (HR.out _ (q1.trans ((bl1 w1 _).mono q1.size))).mono ?_
    rintro e w2 ⟨D1, e1, D2, e2, D3, e3, rfl, hr2, hb2⟩
    have q2 : Below w1.heap.size w1 w2 := (by refine Below.trans ?_ (Below.mono hb2 ?_) <;> first | exact (by repeat' first | with_reducible exact Below.refl _ _ | assumption | (with_reducible refine Below.alloc ?_ ?_ _) | (with_reducible refine Below.setCell ?_ ?_ _) | (with_reducible refine Below.drew ?_) | (with_reducible refine below_drewN ?_ _) | (with_reducible refine Below.trans ?_ (Below.mono ‹_› ?_)) | omega | (with_reducible refine le_alloc ?_) | (with_reducible refine le_setCell ?_) | (with_reducible refine le_drew ?_) | (with_reducible refine le_drewN ?_) | (with_reducible refine Nat.le_trans ?_ (Below.size ‹_›)) | (simp <;> omega)))
    have s2 := q2.size
    have z2 : w1.heap.size < w2.heap.size := by have := hb2.size; simp at this; omega
    obtain ⟨m0, m1, m2, m3, -, -, -, -⟩ : Blk (w2.alloc (.cells #[.int .i64 n, .slice D1 s.length e1, .slice D2 lo.length e2, .slice D3 hi.length e3] 25)) w1.heap.size (.int .i64 n) (.slice B1 s.length b1) (.slice B2 lo.length b2) (.slice B3 hi.length b3) := (Blk.below (by constructor <;> simp [go_sem]) hb2 (by simp <;> omega)).alloc (by omega) _
    have HR2 := hid hr2
    clear hb2 hr2
    go_wp2_with fail
    refine (HS.out _ _ _ ((HR1.out.below (q2.trans ((bl1 w2 _).mono s2))).more (by simp; omega)) ((HR2.out.below (bl1 w2 _)).more (by simp))).mono ?_
    rintro e w3 ⟨rfl, hb3⟩
    have q3 : Below w2.heap.size w2 w3 := (by refine Below.trans ?_ (Below.mono hb3 ?_) <;> first | exact (by repeat' first | with_reducible exact Below.refl _ _ | assumption | (with_reducible refine Below.alloc ?_ ?_ _) | (with_reducible refine Below.setCell ?_ ?_ _) | (with_reducible refine Below.drew ?_) | (with_reducible refine below_drewN ?_ _) | (with_reducible refine Below.trans ?_ (Below.mono ‹_› ?_)) | omega | (with_reducible refine le_alloc ?_) | (with_reducible refine le_setCell ?_) | (with_reducible refine le_drew ?_) | (with_reducible refine le_drewN ?_) | (with_reducible refine Nat.le_trans ?_ (Below.size ‹_›)) | (simp <;> omega)))
    clear hb3
    go_wp2_with fail
    refine (lives_true _).mono ?_
    rintro e w4 ⟨rfl, hb4⟩
    have s1 := q1.size; have s3 := q3.size
    go_wp2
    go_ret
    exact ⟨rfl, (q1.trans (q2.mono s1)).trans ((q3.mono (by omega)).trans (hb4.mono (by omega)))⟩
end Go.Proofs.Ytclhnnidbhchnaa
