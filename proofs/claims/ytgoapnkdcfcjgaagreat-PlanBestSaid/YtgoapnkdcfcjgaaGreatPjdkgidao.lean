/- 2 texts of this claim, in build order. -/
import Derived.Test.YtgoapnkdcfcjgaaGreatPnmiognoo
namespace Go.Proofs.YtgoapnkdcfcjgaaGreat
open Go.ChangeShapes Go.WideShapes Go.ChangeAt Go.RowKit
set_option linter.unusedVariables false
def okSum (x : Int) : Bool := decide (-SUM ≤ x ∧ x ≤ SUM)
theorem okSum_iff {x : Int} : okSum x = true ↔ -SUM ≤ x ∧ x ≤ SUM := by unfold okSum; rw [decide_eq_true_eq]
def TotalP (x : Int) (w : World) (e : Ending) (w' : World) : Prop := (∃ y, e = .returned (.tuple #[.int .i64 y, .bool (okSum x)]) ∧ (okSum x = true → y = x)) ∧ Below w.heap.size w w'
set_option maxRecDepth 100000 in
set_option maxHeartbeats 800000 in
theorem total_any (v : Value) (l : List Int) (w : World) (hl : l.length ≤ 1073741824) (hv : Sl w w.heap.size v (ivals l)) (h1 : -604462909807314587353088 ≤ l.sum) (h2 : l.sum < 604462909807314587353088) :
  Calls Tryz.prog 118 #[v] w (TotalP l.sum w) := by
 have HT := hid (refTotal_any v l w hl hv); clear hv
 obtain ⟨z, hz⟩ : ∃ z, z = l.sum := ⟨_, rfl⟩
 rw [← hz] at h1 h2 ⊢
 have HZ := hid hz; clear hz
 have H1 := hid h1; have H2 := hid h2; clear h1 h2
 go_enter Tryz.func118, Tryz.ntmps118
 go_wp2_with fail
 refine HT.out.mono ?_
 rintro e w1 ⟨v1, rfl, hs1, hb1⟩
 rw [← HZ.out] at hs1
 have HI := hid (refInt_any v1 z w1 hs1 H1.out H2.out)
 have HB := hid hb1
 clear hs1 hb1
 cases hf : FitsI z
 ·have hno : okSum z = false := by
   rw [Bool.eq_false_iff]; intro h
   have := okSum_iff.1 h
   unfold SUM at this
   unfold FitsI at hf
   rw [decide_eq_false_iff_not] at hf
   omega
  rw [show RefIntPost z w1 = fun e w' => e = .returned (.tuple #[.int .i64 0, .int .i64 14]) ∧ Qu w1 w' by unfold RefIntPost; rw [hf]; rfl] at HI
  have HN := hid hno; clear hno hf
  go_wp2_with fail
  refine HI.out.mono ?_
  rintro e w2 ⟨rfl, hq⟩
  go_wp2
  go_ret2
  exact ⟨⟨0, by rw [HN.out]; rfl, fun h => by rw [HN.out] at h; cases h⟩, HB.out.trans (hq.below _)⟩
 ·have hin : inB z 4611686018427387904 = okSum z := by
   rw [Bool.eq_iff_iff, inB_iff, okSum_iff]; exact Iff.rfl
  rw [show RefIntPost z w1 = fun e w' => e = .returned (.tuple #[.int .i64 z, .int .i64 0]) ∧ Qu w1 w' by unfold RefIntPost; rw [hf]; rfl] at HI
  have HC := hid (fun w => refInC_any z 4611686018427387904 w (by omega) (by omega))
  rw [hin] at HC
  clear hin hf
  go_wp2_with fail
  refine HI.out.mono ?_
  rintro e w2 ⟨rfl, hq⟩
  go_wp2_with fail
  refine (HC.out _).mono ?_
  rintro e w3 ⟨rfl, hq3⟩
  go_wp2
  go_ret2
  exact ⟨⟨z, rfl, fun _ => rfl⟩, (HB.out.trans (hq.below _)).trans (hq3.below _)⟩
theorem merge_ways (a b : CellM) : (mergeC a b = (nilC, 1) ∧ (mayC a = false ∨ (mayC a = true ∧ mayC b = false) ∨ (mayC a = true ∧ mayC b = true ∧ ((a.s.length : Int) != (b.s.length : Int)) = true))) ∨
  (mayC a = true ∧ mayC b = true ∧ ((a.s.length : Int) != (b.s.length : Int)) = false ∧ a.s.length = b.s.length ∧ ((mergeC a b = (b, 0) ∧ (a.n == 0) = true) ∨ (mergeC a b = (a, 0) ∧ (a.n == 0) = false ∧ (b.n == 0) = true) ∨
   ((a.n == 0) = false ∧ (b.n == 0) = false ∧ mergeC a b = (if mayC (sumOf a b) then (sumOf a b, 0) else (nilC, 14))))) := by
 unfold mergeC
 cases h1 : mayC a
 ·exact .inl ⟨by simp, .inl rfl⟩
 cases h2 : mayC b
 ·exact .inl ⟨by simp, .inr (.inl ⟨rfl, rfl⟩)⟩
 by_cases h3 : a.s.length = b.s.length
 ·refine .inr ⟨rfl, rfl, by simp [h3], h3, ?_⟩
  rw [if_neg (by simp [h3])]
  by_cases h4 : a.n = 0
  ·exact .inl ⟨by rw [if_pos h4], by simpa using h4⟩
  ·rw [if_neg h4]
   by_cases h5 : b.n = 0
   ·exact .inr (.inl ⟨by rw [if_pos h5], by simpa using h4, by simpa using h5⟩)
   ·exact .inr (.inr ⟨by simpa using h4, by simpa using h5, by rw [if_neg h5]⟩)
 ·exact .inl ⟨by simp [h3], .inr (.inr ⟨rfl, rfl, by simp; omega⟩)⟩
structure Fulls (a b : CellM) : Prop where
 l1 : a.s.length ≤ 2
 l2 : b.s.length = a.s.length
 a2 : a.lo.length = a.s.length
 a3 : a.hi.length = a.s.length
 b2 : b.lo.length = a.s.length
 b3 : b.hi.length = a.s.length
 an : 1 ≤ a.n ∧ a.n ≤ 1099511627776
 bn : 1 ≤ b.n ∧ b.n ≤ 1099511627776
 av : ∀ i, i < a.s.length → -SUM ≤ a.s.getD i 0 ∧ a.s.getD i 0 ≤ SUM
 bv : ∀ i, i < a.s.length → -SUM ≤ b.s.getD i 0 ∧ b.s.getD i 0 ≤ SUM
 no : (∃ i, i < a.s.length ∧ okSum (a.s.getD i 0 + b.s.getD i 0) = false) → mayC (sumOf a b) = false
 big : 1099511627776 < a.n + b.n → mayC (sumOf a b) = false
 yes : (∀ i, i < a.s.length → okSum (a.s.getD i 0 + b.s.getD i 0) = true) → a.n + b.n ≤ 1099511627776 → mayC (sumOf a b) = true
theorem fulls_of {a b : CellM} (ha : mayC a = true) (hb : mayC b = true) (hl : a.s.length = b.s.length) (ha0 : (a.n == 0) = false) (hb0 : (b.n == 0) = false) : Fulls a b := by
 have ha' := mayC_iff.1 ha
 have hb' := mayC_iff.1 hb
 have ha0' : a.n ≠ 0 := by simpa using ha0
 have hb0' : b.n ≠ 0 := by simpa using hb0
 have hs := may_sumOf ha' hb' hl ha0' hb0'
 obtain ⟨fa, ca⟩ := may_full ha' ha0'
 obtain ⟨fb, cb⟩ := may_full hb' hb0'
 obtain ⟨⟨sa1, sa2, sa3⟩, -⟩ := ha'
 obtain ⟨⟨sb1, sb2, sb3⟩, -⟩ := hb'
 refine ⟨sa1, hl.symm, sa2, sa3, by omega, by omega, fa, fb, fun i hi => (ca i hi).2.2.2.1, fun i hi => (cb i (by omega)).2.2.2.1, ?_, fun h => ?_, fun h1 h2 => ?_⟩
 ·rintro ⟨i, hi, h⟩
  rw [mayC_not, hs]
  intro h'
  rw [okSum_iff.2 (h'.2 i hi)] at h; cases h
 ·rw [mayC_not, hs]
  intro h'
  unfold CNT at h'; omega
 ·rw [mayC_iff, hs]
  exact ⟨h2, fun i hi => okSum_iff.1 (h1 i hi)⟩
def MergePost (r : CellM × Int) (w : World) (e : Ending) (w' : World) : Prop := ∃ v, e = .returned (.tuple #[v, .int .i64 r.2]) ∧ CellR w' w'.heap.size v r.1 ∧ Below w.heap.size w w'
theorem fin4 {w w2 : World} {b B : Nat} (h : Below B w w2) (hb : B ≤ b) (hlt : b < w2.heap.size) (v0 v1 v2 v3 : Value) : Below B w ((((w2.setCell ⟨b, 0, none⟩ v0).setCell ⟨b, 1, none⟩ v1).setCell ⟨b, 2, none⟩ v2).setCell ⟨b, 3, none⟩ v3) :=
 h.trans ((upd4 b w2 v0 v1 v2 v3).below hb hlt)
theorem mpost {r r' : CellM × Int} (h : r = r') {v : Value} {w w' : World} {e : Ending} (he : e = .returned (.tuple #[v, .int .i64 r'.2])) (hc : CellR w' w'.heap.size v r'.1) (hb : Below w.heap.size w w') : MergePost r w e w' := by
 subst h; exact ⟨v, he, hc, hb⟩
def X4 (s lo hi : List Int) (k : Nat) : Nat → List Int := fun j => if j = 1 then s.take k else if j = 2 then lo.take k else hi.take k
end Go.Proofs.YtgoapnkdcfcjgaaGreat
