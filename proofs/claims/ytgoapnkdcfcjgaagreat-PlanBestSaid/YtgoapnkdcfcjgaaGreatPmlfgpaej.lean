/- 1 text of this claim, in build order. -/
import Derived.Test.YtgoapnkdcfcjgaaGreatPnmiognoo
import Derived.Test.YtgoapnkdcfcjgaaGreatPjdkgidao
import Derived.Deep.Cut
import Derived.Deep.DeepCutAuto
namespace Go.Proofs.YtgoapnkdcfcjgaaGreat
open Go.ChangeShapes Go.WideShapes Go.ChangeAt Go.RowKit
set_option linter.unusedVariables false
set_option linter.unusedSimpArgs false
theorem own_le' {w : World} {H H' : Nat} {v : Value} {n : Nat} {xs : List Value} (h : w.ownsRow H 3 1 v n xs) (hH : H' ≤ H) : w.ownsRow H' 3 1 v n xs := own_more h (Below.refl _ _) hH
theorem OwnC.le {w : World} {H H' : Nat} {v : Value} {c : CellM} (h : OwnC w H v c) (hH : H' ≤ H) : OwnC w H' v c := by
 obtain ⟨v1, v2, v3, e, h1, h2, h3, h4⟩ := h
 exact ⟨v1, v2, v3, e, own_le' h1 hH, own_le' h2 hH, own_le' h3 hH, h4⟩
theorem OwnC.upd {w w' : World} {H b : Nat} {v : Value} {c : CellM} (h : OwnC w H v c) (hu : Upd b w w') (hb : b < H) : OwnC w' H v c := by
 obtain ⟨v1, v2, v3, e, h1, h2, h3, h4⟩ := h
 exact ⟨v1, v2, v3, e, own_upd h1 hu hb (Nat.le_refl _), own_upd h2 hu hb (Nat.le_refl _), own_upd h3 hu hb (Nat.le_refl _), h4⟩
theorem OwnC.nil_ (w : World) (H : Nat) : OwnC w H (.agg #[.int .i64 0, .slice none 0 0, .slice none 0 0, .slice none 0 0]) nilC :=
 ⟨_, _, _, rfl, World.ownsRow_nil _ _ _ _, World.ownsRow_nil _ _ _ _, World.ownsRow_nil _ _ _ _, fun g hg => by simp [Value.ownBlock] at hg, fun g hg => by simp [Value.ownBlock] at hg⟩
def MOwnPost (r : CellM × Int) (w : World) (e : Ending) (w' : World) : Prop := ∃ v, e = .returned (.tuple #[v, .int .i64 r.2]) ∧ OwnC w' w.heap.size v r.1 ∧ Below w.heap.size w w'
theorem opost {r r' : CellM × Int} (h : r = r') {v : Value} {w w' : World} {e : Ending} (he : e = .returned (.tuple #[v, .int .i64 r'.2])) (hc : OwnC w' w.heap.size v r'.1) (hb : Below w.heap.size w w') : MOwnPost r w e w' := by
 subst h; exact ⟨v, he, hc, hb⟩
theorem cell_new0 (w : World) (x y : Value) (t : TypeId) {N : Nat} (hN : w.heap.size = N) : (w.alloc (.cells #[x, y] t)).cell? ⟨N, 0, none⟩ = some x := by subst hN; simp [go_sem]
theorem cell_new1 (w : World) (x y : Value) (t : TypeId) {N : Nat} (hN : w.heap.size = N) : (w.alloc (.cells #[x, y] t)).cell? ⟨N, 1, none⟩ = some y := by subst hN; simp [go_sem]
theorem frozen_new0 (w : World) (x y : Value) (t : TypeId) {N : Nat} (hN : w.heap.size = N) (i : Nat) : (w.alloc (.cells #[x, y] t)).frozen? ⟨N, i, none⟩ = false := by subst hN; simp [go_sem]
theorem mix_set {z o : List Int} {k : Nat} (hz : k < z.length) (ho : k < o.length) : (z.take k ++ o.drop k).set k (z.getD k 0) = z.take (k + 1) ++ o.drop (k + 1) := by
 rw [List.drop_eq_getElem_cons ho, List.set_append, if_neg (by rw [List.length_take]; omega), List.length_take, show k - min k z.length = 0 by omega, List.set_cons_zero, take_succ_getD z k hz, List.append_assoc]
 rfl
theorem mix_full {z o : List Int} {k : Nat} (hz : k = z.length) (ho : k = o.length) : z.take k ++ o.drop k = z := by
 rw [List.take_of_length_le (by omega), List.drop_eq_nil_of_le (by omega), List.append_nil]
def YM (z o : CellM) (k : Nat) : Nat → List Int := fun j => if j = 1 then z.s.take k ++ o.s.drop k else if j = 2 then z.lo.take k ++ o.lo.drop k else z.hi.take k ++ o.hi.drop k
theorem ym_len {z o : CellM} {k n : Nat} (h1 : z.s.length = n) (h2 : o.s.length = n) (h3 : z.lo.length = n) (h4 : o.lo.length = n) (h5 : z.hi.length = n) (h6 : o.hi.length = n) (hk : k ≤ n) : ∀ j, 1 ≤ j → j ≤ 3 → (YM z o k j).length = n := by
 refine three_of ?_ ?_ ?_
 ·show List.length (_ ++ _) = n; rw [List.length_append, List.length_take, List.length_drop]; omega
 ·show List.length (_ ++ _) = n; rw [List.length_append, List.length_take, List.length_drop]; omega
 ·show List.length (_ ++ _) = n; rw [List.length_append, List.length_take, List.length_drop]; omega
def CutW (p q : Int) (wr : World) (s8 s9 : Value) (wx : World) : Prop :=
 ∃ N, s8 = .pointer (some ⟨N, 0, none⟩) ∧ s9 = .int .i64 0 ∧ wx.cell? ⟨N, 0, none⟩ = some (.int .i64 p) ∧ wx.cell? ⟨N, 1, none⟩ = some (.int .i64 q) ∧ Below wr.heap.size wr wx
def PRel (n : Int) (len : Nat) (z o : CellM) (V : Nat → Value) (w2 : World) (C : Nat) (i : Value) (wr : World) : Prop :=
 ∃ k : Nat, k ≤ len ∧ i = .int .i64 k ∧ Bld wr w2.heap.size C n V (YM z o k) ∧ Below w2.heap.size w2 wr
theorem addW (x y : Int) (hx : -4611686018427387904 ≤ x ∧ x ≤ 4611686018427387904) (hy : -4611686018427387904 ≤ y ∧ y ≤ 4611686018427387904) (w : World) :
  Calls Tryz.prog 134 #[.agg #[.int .i64 (x / 4294967296), .int .i64 (x % 4294967296)], .agg #[.int .i64 (y / 4294967296), .int .i64 (y % 4294967296)]] w
   (Gives (.tuple #[.agg #[.int .i64 ((x + y) / 4294967296), .int .i64 ((x + y) % 4294967296)], .int .i64 0]) w) := by
 have h := wideAdd_ok (x / 4294967296) (x % 4294967296) (y / 4294967296) (y % 4294967296) w (by unfold MayB; rw [decide_eq_true_eq]; omega) (by unfold MayB; rw [decide_eq_true_eq]; omega)
 obtain ⟨e1, e2⟩ := wide_step x y
 rw [e1, e2] at h
 unfold FitsV at h
 rw [if_pos (by unfold MayB; rw [decide_eq_true_eq]; omega)] at h
 exact h
theorem intW (z : Int) (hz : -9223372036854775808 ≤ z ∧ z ≤ 9223372036854775807) (w : World) :
  Calls Tryz.prog 102 #[.agg #[.int .i64 (z / 4294967296), .int .i64 (z % 4294967296)]] w (Gives (.tuple #[.int .i64 z, .int .i64 0]) w) := by
 have h := wideInt_yes (z / 4294967296) (z % 4294967296) w (by unfold MayB; rw [decide_eq_true_eq]; omega) (by omega) (by omega)
 rw [show z / 4294967296 * 4294967296 + z % 4294967296 = z by omega] at h
 exact h
theorem intW_no (z : Int) (h1 : z < -9223372036854775808 ∨ 9223372036854775807 < z) (h2 : -4722366482869645213696 ≤ z ∧ z ≤ 4722366482869645213696) (w : World) :
  Calls Tryz.prog 102 #[.agg #[.int .i64 (z / 4294967296), .int .i64 (z % 4294967296)]] w (Gives (.tuple #[.int .i64 0, .int .i64 14]) w) :=
 wideInt_no (z / 4294967296) (z % 4294967296) w (by unfold MayB; rw [decide_eq_true_eq]; omega) (by omega)
theorem ofW (n : Int) (w : World) : Calls Tryz.prog 128 #[.int .i64 n] w (Gives (.agg #[.int .i64 (n / 4294967296), .int .i64 (n % 4294967296)]) w) := wideOf_any n w
set_option maxRecDepth 100000 in
set_option maxHeartbeats 6400000 in
theorem merge_any (v x : Value) (a b : CellM) (w : World) (hv : CellR w w.heap.size v a) (hx : CellR w w.heap.size x b) :
  Calls Tryz.prog 111 #[v, x] w (MOwnPost (mergeC a b) w) := by
 obtain ⟨i0, hi, hz0, hz1, hz2⟩ := info_parts info_int
 have HV := hid hv; have HX := hid hx
 obtain ⟨v1, v2, v3, rfl, s1, s2, s3⟩ := hv
 obtain ⟨x1, x2, x3, rfl, t1, t2, t3⟩ := hx
 obtain ⟨A1, c1, rfl, hc1, hm1⟩ := s1.formI
 obtain ⟨A2, c2, rfl, hc2, hm2⟩ := s2.formI
 obtain ⟨A3, c3, rfl, hc3, hm3⟩ := s3.formI
 obtain ⟨X1, d1, rfl, hd1, hn1⟩ := t1.formI
 obtain ⟨X2, d2, rfl, hd2, hn2⟩ := t2.formI
 obtain ⟨X3, d3, rfl, hd3, hn3⟩ := t3.formI
 unfold maxLen at hm1 hm2 hm3 hn1 hn2 hn3
 have S1 := hid s1; have S2 := hid s2; have S3 := hid s3; have T1 := hid t1; have T2 := hid t2; have T3 := hid t3
 clear s1 s2 s3 t1 t2 t3
 have HMA := hid (fun W (h : Below w.heap.size w W) => may_any _ a W ((HV.out.below h).more h.size))
 have HMB := hid (fun W (h : Below w.heap.size w W) => may_any _ b W ((HX.out.below h).more h.size))
 have HCA := hid (fun (h : a.s.length ≤ 1073741824 ∧ a.lo.length ≤ 1073741824 ∧ a.hi.length ≤ 1073741824) W (hb : Below w.heap.size w W) => copied_any _ a W ((HV.out.below hb).more hb.size) h)
 have HCB := hid (fun (h : b.s.length ≤ 1073741824 ∧ b.lo.length ≤ 1073741824 ∧ b.hi.length ≤ 1073741824) W (hb : Below w.heap.size w W) => copied_any _ b W ((HX.out.below hb).more hb.size) h)
 have hla : mayC a = true → a.s.length ≤ 1073741824 ∧ a.lo.length ≤ 1073741824 ∧ a.hi.length ≤ 1073741824 := fun h => by obtain ⟨⟨h1, h2, h3⟩, -⟩ := mayC_iff.1 h; omega
 have hlb : mayC b = true → b.s.length ≤ 1073741824 ∧ b.lo.length ≤ 1073741824 ∧ b.hi.length ≤ 1073741824 := fun h => by obtain ⟨⟨h1, h2, h3⟩, -⟩ := mayC_iff.1 h; omega
 have hways := merge_ways a b
 have hfull := fun h1 h2 h3 h4 h5 => @fulls_of a b h1 h2 h3 h4 h5
 obtain ⟨ra, hra⟩ : ∃ r, r = mayC a := ⟨_, rfl⟩
 obtain ⟨rb, hrb⟩ : ∃ r, r = mayC b := ⟨_, rfl⟩
 rw [← hra] at HMA hways hfull hla
 rw [← hrb] at HMB hways hfull hlb
 clear hra hrb
 have HF := hid hfull; have HLA := hid hla; have HLB := hid hlb; clear hfull hla hlb
 go_enter Tryz.func111, Tryz.ntmps111
 obtain ⟨W0, hW0⟩ : ∃ W, W = ((w.alloc (.cells #[.int .i64 a.n, .slice A1 a.s.length c1, .slice A2 a.lo.length c2, .slice A3 a.hi.length c3] 125)).alloc (.cells #[.int .i64 b.n, .slice X1 b.s.length d1, .slice X2 b.lo.length d2, .slice X3 b.hi.length d3] 125)).alloc (.cells #[.int .i64 0, .slice none 0 0, .slice none 0 0, .slice none 0 0] 125) := ⟨_, rfl⟩
 have hb0 : Below w.heap.size w W0 := by rw [hW0]; exact (by repeat' first | with_reducible exact Below.refl _ _ | assumption | (with_reducible refine Below.alloc ?_ ?_ _) | (with_reducible refine Below.setCell ?_ ?_ _) | (with_reducible refine Below.drew ?_) | (with_reducible refine below_drewN ?_ _) | (with_reducible refine Below.trans ?_ (Below.mono ‹_› ?_)) | omega | (with_reducible refine le_alloc ?_) | (with_reducible refine le_setCell ?_) | (with_reducible refine le_drew ?_) | (with_reducible refine le_drewN ?_) | (with_reducible refine Nat.le_trans ?_ (Below.size ‹_›)) | (simp <;> omega))
 have hs0 : W0.heap.size = w.heap.size + 1 + 1 + 1 := by rw [hW0]; simp
 have ba : Blk W0 w.heap.size (.int .i64 a.n) (.slice A1 a.s.length c1) (.slice A2 a.lo.length c2) (.slice A3 a.hi.length c3) := by rw [hW0]; exact ((Blk.new _ _ _ _ _ _).alloc (by simp only [World.size_alloc]; omega) _).alloc (by simp only [World.size_alloc]; omega) _
 have bb : Blk W0 (w.heap.size + 1) (.int .i64 b.n) (.slice X1 b.s.length d1) (.slice X2 b.lo.length d2) (.slice X3 b.hi.length d3) := by rw [hW0]; exact (Blk.new' _ _ _ _ _ (by simp)).alloc (by simp only [World.size_alloc]; omega) _
 have br : Blk W0 (w.heap.size + 1 + 1) (.int .i64 0) (.slice none 0 0) (.slice none 0 0) (.slice none 0 0) := by rw [hW0]; exact Blk.new' _ _ _ _ _ (by simp)
 have HB0 := hid hb0; have HS0 := hid hs0; have BA := hid ba; have BB := hid bb; have BR := hid br; have HW0 := hid hW0
 clear hb0 hs0 ba bb br hW0
 go_wp2_with fail
 rw [← HW0.out]
 refine (HMA.out _ HB0.out).mono ?_
 rintro e w1 ⟨rfl, hb1⟩
 have hs1 : W0.heap.size ≤ w1.heap.size := hb1.size
 have hsz1 : w.heap.size + 1 + 1 + 1 ≤ w1.heap.size := by have := HS0.out; omega
 have hw1 := HB0.out.trans (hb1.mono (by have := HS0.out; omega))
 have ba := BA.out.below hb1 (by have := HS0.out; omega)
 have bb := BB.out.below hb1 (by have := HS0.out; omega)
 have br := BR.out.below hb1 (by have := HS0.out; omega)
 have BA1 := hid ba; have BB1 := hid bb; have BR1 := hid br; have HW1 := hid hw1
 obtain ⟨p0, p1, p2, p3, -, -, -, -⟩ := bb
 clear ba br hw1 hb1
 rcases hways with ⟨hr, hw⟩ | ⟨rfl, rfl, z3, hl, hw⟩
 ·have HRR := hid hr; clear hr
  have hw' : ra = false ∨ (ra = true ∧ (rb = false ∨ (rb = true ∧ ((a.s.length : Int) != (b.s.length : Int)) = true))) := by
   rcases hw with h | ⟨h1, h2⟩ | ⟨h1, h2, h3⟩
   ·exact .inl h
   ·exact .inr ⟨h1, .inl h2⟩
   ·exact .inr ⟨h1, .inr ⟨h2, h3⟩⟩
  clear hw
  rcases hw' with rfl | ⟨rfl, hw⟩
  ·obtain ⟨r0, r1, r2, r3, f0, f1, f2, f3⟩ := BR1.out
   have hbel := fun v0 v1 v2 v3 => fin4 (b := w.heap.size + 1 + 1) HW1.out (by omega) (by omega) v0 v1 v2 v3
   have HBL := hid hbel; clear hbel
   go_wp2
   exact bodyPost_ret (v := .tuple #[.agg #[.int .i64 0, .slice none 0 0, .slice none 0 0, .slice none 0 0], .int .i64 1]) (by simp [results, Tryz.results111, go_sem, r0, r1, r2, r3]; done) rfl (opost HRR.out rfl (OwnC.nil_ _ _) (HBL.out _ _ _ _))
  ·obtain ⟨a0, a1, a2, a3, -, -, -, -⟩ := BA1.out
   obtain ⟨p0, p1, p2, p3, -, -, -, -⟩ := BB1.out
   go_wp2_with fail
   refine (HMB.out _ HW1.out).mono ?_
   rintro e w2 ⟨rfl, hb2⟩
   have hs2 : w1.heap.size ≤ w2.heap.size := hb2.size
   have hsz : w.heap.size + 1 + 1 + 1 ≤ w2.heap.size := by have := HS0.out; omega
   have hw2 := HW1.out.trans (hb2.mono (by have := HS0.out; omega))
   have ba := BA1.out.below hb2 (by have := HS0.out; omega)
   have bb := BB1.out.below hb2 (by have := HS0.out; omega)
   have br := BR1.out.below hb2 (by have := HS0.out; omega)
   have BA2 := hid ba; have BB2 := hid bb; have BR2 := hid br; have HW2 := hid hw2
   clear hb2 hw2 p0 p1 p2 p3 hs1 hs2
   obtain ⟨a0, a1, a2, a3, -, -, -, -⟩ := ba
   obtain ⟨b0, b1, b2, b3, -, -, -, -⟩ := bb
   obtain ⟨r0, r1, r2, r3, f0, f1, f2, f3⟩ := br
   have hbel := fun v0 v1 v2 v3 => fin4 (b := w.heap.size + 1 + 1) HW2.out (by omega) (by omega) v0 v1 v2 v3
   have HBL := hid hbel; clear hbel
   rcases hw with rfl | ⟨rfl, z3⟩
   all_goals
    go_wp2
    exact bodyPost_ret (v := .tuple #[.agg #[.int .i64 0, .slice none 0 0, .slice none 0 0, .slice none 0 0], .int .i64 1]) (by simp [results, Tryz.results111, go_sem, r0, r1, r2, r3]; done) rfl (opost HRR.out rfl (OwnC.nil_ _ _) (HBL.out _ _ _ _))
 ·have hfu := HF.out rfl rfl hl
  have HL := hid hl; clear hl
  obtain ⟨a0, a1, a2, a3, -, -, -, -⟩ := BA1.out
  obtain ⟨p0, p1, p2, p3, -, -, -, -⟩ := BB1.out
  go_wp2_with fail
  refine (HMB.out _ HW1.out).mono ?_
  rintro e w2 ⟨rfl, hb2⟩
  have hs2 : w1.heap.size ≤ w2.heap.size := hb2.size
  have hsz : w.heap.size + 1 + 1 + 1 ≤ w2.heap.size := by have := HS0.out; omega
  have hw2 := HW1.out.trans (hb2.mono (by have := HS0.out; omega))
  have ba := BA1.out.below hb2 (by have := HS0.out; omega)
  have bb := BB1.out.below hb2 (by have := HS0.out; omega)
  have br := BR1.out.below hb2 (by have := HS0.out; omega)
  have BA2 := hid ba; have BB2 := hid bb; have BR2 := hid br; have HW2 := hid hw2
  clear hb2 hw2 p0 p1 p2 p3 hs1 hs2
  obtain ⟨a0, a1, a2, a3, -, -, -, -⟩ := ba
  obtain ⟨b0, b1, b2, b3, -, -, -, -⟩ := bb
  obtain ⟨r0, r1, r2, r3, f0, f1, f2, f3⟩ := br
  rcases hw with ⟨hr, z4⟩ | ⟨hr, z4, z5⟩ | ⟨z4, z5, hr⟩
  ·have HRR := hid hr; clear hr hfu
   go_wp2_with fail
   refine (HCB.out (HLB.out (by trivial)) _ HW2.out).mono ?_
   rintro e w3 ⟨y, rfl, hoc, hb3⟩
   have hoc' := hoc
   obtain ⟨y1, y2, y3, rfl, ho1, ho2, ho3, -, -⟩ := hoc
   obtain ⟨e1, g1, rfl, -, -, -⟩ := own_cells ho1
   obtain ⟨e2, g2, rfl, -, -, -⟩ := own_cells ho2
   obtain ⟨e3, g3, rfl, -, -, -⟩ := own_cells ho3
   have hs3 := hb3.size
   have HW3 := hid (HW2.out.trans (hb3.mono (by omega)))
   have BA3 := hid (BA2.out.below hb3 (by omega))
   have BB3 := hid (BB2.out.below hb3 (by omega))
   have BR3 := hid (BR2.out.below hb3 (by omega))
   have HO3 := hid hoc'
   have HB3 := hid hb3
   clear ho1 ho2 ho3 hoc' a0 a1 a2 a3 b0 b1 b2 b3 r0 r1 r2 r3 f0 f1 f2 f3 hb3
   obtain ⟨a0, a1, a2, a3, -, -, -, -⟩ := BA3.out
   obtain ⟨b0, b1, b2, b3, -, -, -, -⟩ := BB3.out
   obtain ⟨r0, r1, r2, r3, f0, f1, f2, f3⟩ := BR3.out
   have hfin := fun v0 v1 v2 v3 => (HO3.out.upd (upd4 (w.heap.size + 1 + 1) w3 v0 v1 v2 v3) (by omega)).le (H' := w.heap.size) (by omega)
   have HFI := hid hfin; clear hfin
   have hbel := fun v0 v1 v2 v3 => fin4 (b := w.heap.size + 1 + 1) HW3.out (by omega) (by omega) v0 v1 v2 v3
   have HBL := hid hbel; clear hbel
   go_wp2
   exact bodyPost_ret (v := .tuple #[.agg #[.int .i64 b.n, .slice e1 b.s.length g1, .slice e2 b.lo.length g2, .slice e3 b.hi.length g3], .int .i64 0]) (by simp [results, Tryz.results111, go_sem, r0, r1, r2, r3]; done) rfl (opost HRR.out rfl (HFI.out _ _ _ _) (HBL.out _ _ _ _))
  ·have HRR := hid hr; clear hr hfu
   go_wp2_with fail
   refine (HCA.out (HLA.out (by trivial)) _ HW2.out).mono ?_
   rintro e w3 ⟨y, rfl, hoc, hb3⟩
   have hoc' := hoc
   obtain ⟨y1, y2, y3, rfl, ho1, ho2, ho3, -, -⟩ := hoc
   obtain ⟨e1, g1, rfl, -, -, -⟩ := own_cells ho1
   obtain ⟨e2, g2, rfl, -, -, -⟩ := own_cells ho2
   obtain ⟨e3, g3, rfl, -, -, -⟩ := own_cells ho3
   have hs3 := hb3.size
   have HW3 := hid (HW2.out.trans (hb3.mono (by omega)))
   have BA3 := hid (BA2.out.below hb3 (by omega))
   have BB3 := hid (BB2.out.below hb3 (by omega))
   have BR3 := hid (BR2.out.below hb3 (by omega))
   have HO3 := hid hoc'
   have HB3 := hid hb3
   clear ho1 ho2 ho3 hoc' a0 a1 a2 a3 b0 b1 b2 b3 r0 r1 r2 r3 f0 f1 f2 f3 hb3
   obtain ⟨a0, a1, a2, a3, -, -, -, -⟩ := BA3.out
   obtain ⟨b0, b1, b2, b3, -, -, -, -⟩ := BB3.out
   obtain ⟨r0, r1, r2, r3, f0, f1, f2, f3⟩ := BR3.out
   have hfin := fun v0 v1 v2 v3 => (HO3.out.upd (upd4 (w.heap.size + 1 + 1) w3 v0 v1 v2 v3) (by omega)).le (H' := w.heap.size) (by omega)
   have HFI := hid hfin; clear hfin
   have hbel := fun v0 v1 v2 v3 => fin4 (b := w.heap.size + 1 + 1) HW3.out (by omega) (by omega) v0 v1 v2 v3
   have HBL := hid hbel; clear hbel
   go_wp2
   exact bodyPost_ret (v := .tuple #[.agg #[.int .i64 a.n, .slice e1 a.s.length g1, .slice e2 a.lo.length g2, .slice e3 a.hi.length g3], .int .i64 0]) (by simp [results, Tryz.results111, go_sem, r0, r1, r2, r3]; done) rfl (opost HRR.out rfl (HFI.out _ _ _ _) (HBL.out _ _ _ _))
  ·have HFU := hid (hfu z4 z5)
   have HR := hid hr
   clear hfu hr
   obtain ⟨y1, y2⟩ := HFU.out.an
   obtain ⟨y3, y4⟩ := HFU.out.bn
   go_wp2_with fail
   refine (HCA.out (HLA.out (by trivial)) _ HW2.out).mono ?_
   rintro e w3 ⟨y, rfl, hoc, hb3⟩
   have hoc' := hoc
   obtain ⟨y1, y2, y3, rfl, ho1, ho2, ho3, -, -⟩ := hoc
   obtain ⟨e1, g1, rfl, -, -, -⟩ := own_cells ho1
   obtain ⟨e2, g2, rfl, -, -, -⟩ := own_cells ho2
   obtain ⟨e3, g3, rfl, -, -, -⟩ := own_cells ho3
   have hs3 := hb3.size
   have HW3 := hid (HW2.out.trans (hb3.mono (by omega)))
   have BA3 := hid (BA2.out.below hb3 (by omega))
   have BB3 := hid (BB2.out.below hb3 (by omega))
   have BR3 := hid (BR2.out.below hb3 (by omega))
   have HO3 := hid hoc'
   have HB3 := hid hb3
   clear ho1 ho2 ho3 hoc' a0 a1 a2 a3 b0 b1 b2 b3 r0 r1 r2 r3 f0 f1 f2 f3 hb3
   obtain ⟨a0, a1, a2, a3, -, -, -, -⟩ := BA3.out
   obtain ⟨b0, b1, b2, b3, -, -, -, -⟩ := BB3.out
   obtain ⟨r0, r1, r2, r3, f0, f1, f2, f3⟩ := BR3.out
   have ho4 : OwnC w3 w2.heap.size (.agg #[.int .i64 (a.n + b.n), .slice e1 a.s.length g1, .slice e2 a.lo.length g2, .slice e3 a.hi.length g3]) ⟨a.n + b.n, a.s, a.lo, a.hi⟩ := by
    obtain ⟨u1, u2, u3, e, h⟩ := HO3.out
    simp at e
    obtain ⟨rfl, rfl, rfl⟩ := e
    exact ⟨_, _, _, rfl, h⟩
   have hbd := OwnC.bld (c := ⟨a.n + b.n, a.s, a.lo, a.hi⟩) ho4 hs3 125 rfl
   simp only at hbd
   clear ho4
   have hV1 : V3 (.slice e1 a.s.length g1) (.slice e2 a.lo.length g2) (.slice e3 a.hi.length g3) 1 = .slice e1 a.s.length g1 := rfl
   have hV2 : V3 (.slice e1 a.s.length g1) (.slice e2 a.lo.length g2) (.slice e3 a.hi.length g3) 2 = .slice e2 a.lo.length g2 := rfl
   have hV3 : V3 (.slice e1 a.s.length g1) (.slice e2 a.lo.length g2) (.slice e3 a.hi.length g3) 3 = .slice e3 a.hi.length g3 := rfl
   generalize V3 (.slice e1 a.s.length g1) (.slice e2 a.lo.length g2) (.slice e3 a.hi.length g3) = V at *
   have HBD := hid hbd; have HV1 := hid hV1; have HV2 := hid hV2; have HV3 := hid hV3
   clear hbd hV1 hV2 hV3
   obtain ⟨b4, -, -, -, -, -, -, -⟩ := BB3.out.alloc (show w.heap.size + 1 < w3.heap.size by omega) (.cells #[.int .i64 a.n, .slice e1 a.s.length g1, .slice e2 a.lo.length g2, .slice e3 a.hi.length g3] 125)
   go_wp2
   go_loopw [54] (fun i wr => PRel (a.n + b.n) a.s.length (sumOf a b) a V w2 w3.heap.size i wr) (fun i _ => a.s.length - (intOf i).toNat)
   case atStart => exact ⟨0, by omega, rfl, bld_same HBD.out (fun _ _ _ => rfl) (three_of rfl rfl rfl), HB3.out.trans ((bl1 w3 _).mono hs3)⟩
   case round =>
    obtain ⟨k, hk, rfl, hbl, hw⟩ := hrel
    have HBl := hid hbl
    have HWr := hid hw
    have hsw := hw.size
    have HWW := hid (show Below w.heap.size w wr from HW2.out.trans (hw.mono (by omega)))
    have BAr := hid (BA2.out.below hw (by omega))
    have BBr := hid (BB2.out.below hw (by omega))
    have BRr := hid (BR2.out.below hw (by omega))
    clear hbl hw
    have hyl := ym_len (z := sumOf a b) (o := a) (k := k) (n := a.s.length) (by have := HFU.out.l2; simp [sumOf]; omega) rfl (by have := HFU.out.a2; have := HFU.out.b2; simp [sumOf]; omega) HFU.out.a2 (by have := HFU.out.a3; have := HFU.out.b3; simp [sumOf]; omega) HFU.out.a3 hk
    by_cases hlt : k < a.s.length
    ·have hk2 : k < 2 := by have := HFU.out.l1; omega
     have hlb : k < b.s.length := by have := HFU.out.l2; omega
     have la2 : k < a.lo.length := by have := HFU.out.a2; omega
     have lb2 : k < b.lo.length := by have := HFU.out.b2; omega
     have la3 : k < a.hi.length := by have := HFU.out.a3; omega
     have lb3 : k < b.hi.length := by have := HFU.out.b3; omega
     obtain ⟨ba1, oa1, rfl, hba1, hxa1⟩ := (S1.out.below HWW.out).int hlt
     obtain ⟨bb1, ob1, rfl, hbb1, hxb1⟩ := (T1.out.below HWW.out).int hlb
     obtain ⟨ba2, oa2, rfl, hba2, hxa2⟩ := (S2.out.below HWW.out).int la2
     obtain ⟨bb2, ob2, rfl, hbb2, hxb2⟩ := (T2.out.below HWW.out).int lb2
     obtain ⟨ba3, oa3, rfl, hba3, hxa3⟩ := (S3.out.below HWW.out).int la3
     obtain ⟨bb3, ob3, rfl, hbb3, hxb3⟩ := (T3.out.below HWW.out).int lb3
     obtain ⟨gg1, rfl, hg1⟩ : ∃ g, e1 = some ⟨g, 0, none⟩ ∧ w2.heap.size ≤ g := by
      obtain ⟨A, c, e, -, -, h⟩ := own_cells (HBl.out.own 1 (by omega) (by omega))
      rw [HV1.out] at e; injection e with e _ _; subst e
      obtain ⟨g, hg, hg', -⟩ := h (by rw [hyl 1 (by omega) (by omega)]; omega)
      exact ⟨g, hg, hg'⟩
     obtain ⟨gg2, rfl, hg2⟩ : ∃ g, e2 = some ⟨g, 0, none⟩ ∧ w2.heap.size ≤ g := by
      obtain ⟨A, c, e, -, -, h⟩ := own_cells (HBl.out.own 2 (by omega) (by omega))
      rw [HV2.out] at e; injection e with e _ _; subst e
      obtain ⟨g, hg, hg', -⟩ := h (by rw [hyl 2 (by omega) (by omega)]; omega)
      exact ⟨g, hg, hg'⟩
     obtain ⟨gg3, rfl, hg3⟩ : ∃ g, e3 = some ⟨g, 0, none⟩ ∧ w2.heap.size ≤ g := by
      obtain ⟨A, c, e, -, -, h⟩ := own_cells (HBl.out.own 3 (by omega) (by omega))
      rw [HV3.out] at e; injection e with e _ _; subst e
      obtain ⟨g, hg, hg', -⟩ := h (by rw [hyl 3 (by omega) (by omega)]; omega)
      exact ⟨g, hg, hg'⟩
     have gC1 : gg1 ≠ w3.heap.size := fun e => HBl.out.nC 1 (by omega) (by omega) (by rw [HV1.out, ← e]; rfl)
     have gC2 : gg2 ≠ w3.heap.size := fun e => HBl.out.nC 2 (by omega) (by omega) (by rw [HV2.out, ← e]; rfl)
     have gC3 : gg3 ≠ w3.heap.size := fun e => HBl.out.nC 3 (by omega) (by omega) (by rw [HV3.out, ← e]; rfl)
     have hC2 : w3.heap.size ≠ gg2 := fun e => gC2 e.symm
     have hg2a0 : w.heap.size ≠ gg2 := (by omega)
     have hg2b0 : gg2 ≠ w.heap.size := (by omega)
     have hg2a1 : w.heap.size + 1 ≠ gg2 := (by omega)
     have hg2b1 : gg2 ≠ w.heap.size + 1 := (by omega)
     have hg2a2 : ba2 ≠ gg2 := (by omega)
     have hg2b2 : gg2 ≠ ba2 := (by omega)
     have hg2a3 : bb2 ≠ gg2 := (by omega)
     have hg2b3 : gg2 ≠ bb2 := (by omega)
     have hC3 : w3.heap.size ≠ gg3 := fun e => gC3 e.symm
     have hg3a0 : w.heap.size ≠ gg3 := (by omega)
     have hg3b0 : gg3 ≠ w.heap.size := (by omega)
     have hg3a1 : w.heap.size + 1 ≠ gg3 := (by omega)
     have hg3b1 : gg3 ≠ w.heap.size + 1 := (by omega)
     have hg3a2 : ba3 ≠ gg3 := (by omega)
     have hg3b2 : gg3 ≠ ba3 := (by omega)
     have hg3a3 : bb3 ≠ gg3 := (by omega)
     have hg3b3 : gg3 ≠ bb3 := (by omega)
     have hl1 : k < (YM (sumOf a b) a k 1).length := by rw [hyl 1 (by omega) (by omega)]; exact hlt
     have hl2 : k < (YM (sumOf a b) a k 2).length := by rw [hyl 2 (by omega) (by omega)]; exact hlt
     have hl3 : k < (YM (sumOf a b) a k 3).length := by rw [hyl 3 (by omega) (by omega)]; exact hlt
     have m1 : (YM (sumOf a b) a k 1).set k ((sumOf a b).s.getD k 0) = YM (sumOf a b) a (k + 1) 1 := mix_set (by simp [sumOf]; omega) hlt
     have m2 : (YM (sumOf a b) a k 2).set k ((sumOf a b).lo.getD k 0) = YM (sumOf a b) a (k + 1) 2 := mix_set (by simp [sumOf]; omega) la2
     have m3 : (YM (sumOf a b) a k 3).set k ((sumOf a b).hi.getD k 0) = YM (sumOf a b) a (k + 1) 3 := mix_set (by simp [sumOf]; omega) la3
     rw [show (sumOf a b).s.getD k 0 = a.s.getD k 0 + b.s.getD k 0 from getD_zip hlt hlb] at m1
     rw [show (sumOf a b).lo.getD k 0 = min (a.lo.getD k 0) (b.lo.getD k 0) from getD_zip la2 lb2] at m2
     rw [show (sumOf a b).hi.getD k 0 = max (a.hi.getD k 0) (b.hi.getD k 0) from getD_zip la3 lb3] at m3
     have hno : okSum (a.s.getD k 0 + b.s.getD k 0) = false → mayC (sumOf a b) = false := fun h => HFU.out.no ⟨k, hlt, h⟩
     have av := HFU.out.av k hlt
     have bv := HFU.out.bv k hlt
     unfold SUM at av bv
     generalize a.s.getD k 0 = xa at *
     generalize b.s.getD k 0 = xb at *
     generalize a.lo.getD k 0 = la at *
     generalize b.lo.getD k 0 = lb at *
     generalize a.hi.getD k 0 = ha at *
     generalize b.hi.getD k 0 = hb at *
     have M1 := hid m1; have M2 := hid m2; have M3 := hid m3; have HL1 := hid hl1; have HL2 := hid hl2; have HL3 := hid hl3; have HNO := hid hno
     have AV := hid av; have BV := hid bv
     clear m1 m2 m3 hl1 hl2 hl3 hno av bv
     obtain ⟨a0, a1, a2, a3, -, -, -, -⟩ := BAr.out
     obtain ⟨b0, b1, b2, b3, -, -, -, -⟩ := BBr.out
     obtain ⟨r0, r1, r2, r3, f0, f1, f2, f3⟩ := BRr.out
     have HOA := hid (ofW xa); have HOB := hid (ofW xb); have HAD := hid (addW xa xb AV.out BV.out)
     generalize hq1 : xa / 4294967296 = p1 at *
     generalize hq2 : xa % 4294967296 = p2 at *
     generalize hq3 : xb / 4294967296 = p3 at *
     generalize hq4 : xb % 4294967296 = p4 at *
     clear hq1 hq2 hq3 hq4
     have HIY := hid (fun (h : -9223372036854775808 ≤ xa + xb ∧ xa + xb ≤ 9223372036854775807) => intW (xa + xb) h)
     have HIN := hid (fun (h : xa + xb < -9223372036854775808 ∨ 9223372036854775807 < xa + xb) => intW_no (xa + xb) h (by have := AV.out; have := BV.out; omega))
     generalize hq5 : (xa + xb) / 4294967296 = p5 at *
     generalize hq6 : (xa + xb) % 4294967296 = p6 at *
     clear hq5 hq6
     have ner0 : w.heap.size ≠ wr.heap.size := (by omega)
     have nfr0 : wr.heap.size ≠ w.heap.size := (by omega)
     have ner1 : w.heap.size + 1 ≠ wr.heap.size := (by omega)
     have nfr1 : wr.heap.size ≠ w.heap.size + 1 := (by omega)
     have ner2 : ba1 ≠ wr.heap.size := (by omega)
     have nfr2 : wr.heap.size ≠ ba1 := (by omega)
     have ner3 : bb1 ≠ wr.heap.size := (by omega)
     have nfr3 : wr.heap.size ≠ bb1 := (by omega)
     go_upto_region 12 with (fail)
     go_cut [8, 9] from 57 to 72 (fun s8 s9 wx => CutW p5 p6 wr s8 s9 wx)
     case first =>
      go_region_held3 (fun w' => w'.cell? ⟨w.heap.size, 1, none⟩ = some (.slice (some ⟨ba1, oa1, none⟩) a.s.length c1) ∧ w'.cell? ⟨w.heap.size + 1, 1, none⟩ = some (.slice (some ⟨bb1, ob1, none⟩) b.s.length d1) ∧ w'.cell? ⟨ba1, oa1 + k, none⟩ = some (.int .i64 xa) ∧ w'.cell? ⟨bb1, ob1 + k, none⟩ = some (.int .i64 xb)) (go_keep)
       (first
        | (go_at_call_of 128 (Value.int .i64 xa); (with_reducible refine (HOA.out wr.drew).mono ?_); rintro e w4 ⟨rfl, hb4⟩; have B4 : Below wr.heap.size wr w4 := (by refine Below.trans ?_ (Below.mono hb4 ?_) <;> (first | exact (by repeat' first | with_reducible exact Below.refl _ _ | assumption | (with_reducible refine Below.alloc ?_ ?_ _) | (with_reducible refine Below.setCell ?_ ?_ _) | (with_reducible refine Below.drew ?_) | (with_reducible refine below_drewN ?_ _) | (with_reducible refine Below.trans ?_ (Below.mono ‹_› ?_)) | omega | (with_reducible refine le_alloc ?_) | (with_reducible refine le_setCell ?_) | (with_reducible refine le_drew ?_) | (with_reducible refine le_drewN ?_) | (with_reducible refine Nat.le_trans ?_ (Below.size ‹_›)) | (simp <;> omega)))); have s4 := B4.size; have ne40 : w.heap.size ≠ w4.heap.size := (by omega); have nf40 : w4.heap.size ≠ w.heap.size := (by omega); have ne41 : w.heap.size + 1 ≠ w4.heap.size := (by omega); have nf41 : w4.heap.size ≠ w.heap.size + 1 := (by omega); have ne42 : ba1 ≠ w4.heap.size := (by omega); have nf42 : w4.heap.size ≠ ba1 := (by omega); have ne43 : bb1 ≠ w4.heap.size := (by omega); have nf43 : w4.heap.size ≠ bb1 := (by omega); have q10 := cellK B4 (by omega) a1; have q11 := cellK B4 (by omega) b1; have q12 := cellK B4 (by omega) hxa1; have q13 := cellK B4 (by omega) hxb1; clear hb4)
        | (go_at_call_of 128 (Value.int .i64 xa); (with_reducible refine (HOA.out ((wr.alloc (.cells #[.int .i64 0, .int .i64 0] 156)).drew)).mono ?_); rintro e w4 ⟨rfl, hb4⟩; have zs0 := cellK hb4 (by simp) (cell_new0 _ (.int .i64 0) (.int .i64 0) 156 rfl); have zs1 := cellK hb4 (by simp) (cell_new1 _ (.int .i64 0) (.int .i64 0) 156 rfl); have zf0 := frozenK hb4 (by simp) (frozen_new0 _ (.int .i64 0) (.int .i64 0) 156 rfl 0); have zf1 := frozenK hb4 (by simp) (frozen_new0 _ (.int .i64 0) (.int .i64 0) 156 rfl 1); have zl := World.block_lt_of_cell? _ _ zs0; have B4 : Below wr.heap.size wr w4 := (by refine Below.trans ?_ (Below.mono hb4 ?_) <;> (first | exact (by repeat' first | with_reducible exact Below.refl _ _ | assumption | (with_reducible refine Below.alloc ?_ ?_ _) | (with_reducible refine Below.setCell ?_ ?_ _) | (with_reducible refine Below.drew ?_) | (with_reducible refine below_drewN ?_ _) | (with_reducible refine Below.trans ?_ (Below.mono ‹_› ?_)) | omega | (with_reducible refine le_alloc ?_) | (with_reducible refine le_setCell ?_) | (with_reducible refine le_drew ?_) | (with_reducible refine le_drewN ?_) | (with_reducible refine Nat.le_trans ?_ (Below.size ‹_›)) | (simp <;> omega)))); have s4 := B4.size; have ne40 : w.heap.size ≠ w4.heap.size := (by omega); have nf40 : w4.heap.size ≠ w.heap.size := (by omega); have ne41 : w.heap.size + 1 ≠ w4.heap.size := (by omega); have nf41 : w4.heap.size ≠ w.heap.size + 1 := (by omega); have ne42 : ba1 ≠ w4.heap.size := (by omega); have nf42 : w4.heap.size ≠ ba1 := (by omega); have ne43 : bb1 ≠ w4.heap.size := (by omega); have nf43 : w4.heap.size ≠ bb1 := (by omega); have q10 := cellK B4 (by omega) a1; have q11 := cellK B4 (by omega) b1; have q12 := cellK B4 (by omega) hxa1; have q13 := cellK B4 (by omega) hxb1; clear hb4)
        | (go_at_call_of 128 (Value.int .i64 xb); (with_reducible refine (HOB.out w4).mono ?_); rintro e w5 ⟨rfl, hb5⟩; have zs0 := cellK hb5 zl zs0; have zs1 := cellK hb5 zl zs1; have zf0 := frozenK hb5 zl zf0; have zf1 := frozenK hb5 zl zf1; have zl := World.block_lt_of_cell? _ _ zs0; have B5 : Below wr.heap.size wr w5 := (by refine Below.trans ?_ (Below.mono hb5 ?_) <;> (first | exact (by repeat' first | with_reducible exact Below.refl _ _ | assumption | (with_reducible refine Below.alloc ?_ ?_ _) | (with_reducible refine Below.setCell ?_ ?_ _) | (with_reducible refine Below.drew ?_) | (with_reducible refine below_drewN ?_ _) | (with_reducible refine Below.trans ?_ (Below.mono ‹_› ?_)) | omega | (with_reducible refine le_alloc ?_) | (with_reducible refine le_setCell ?_) | (with_reducible refine le_drew ?_) | (with_reducible refine le_drewN ?_) | (with_reducible refine Nat.le_trans ?_ (Below.size ‹_›)) | (simp <;> omega)))); have s5 := B5.size; have ne50 : w.heap.size ≠ w5.heap.size := (by omega); have nf50 : w5.heap.size ≠ w.heap.size := (by omega); have ne51 : w.heap.size + 1 ≠ w5.heap.size := (by omega); have nf51 : w5.heap.size ≠ w.heap.size + 1 := (by omega); have ne52 : ba1 ≠ w5.heap.size := (by omega); have nf52 : w5.heap.size ≠ ba1 := (by omega); have ne53 : bb1 ≠ w5.heap.size := (by omega); have nf53 : w5.heap.size ≠ bb1 := (by omega); have q20 := cellK B5 (by omega) a1; have q21 := cellK B5 (by omega) b1; have q22 := cellK B5 (by omega) hxa1; have q23 := cellK B5 (by omega) hxb1; clear hb5)
        | (go_at_call_of 128 (Value.int .i64 xb); (with_reducible refine (HOB.out w4).mono ?_); rintro e w5 ⟨rfl, hb5⟩; have B5 : Below wr.heap.size wr w5 := (by refine Below.trans ?_ (Below.mono hb5 ?_) <;> (first | exact (by repeat' first | with_reducible exact Below.refl _ _ | assumption | (with_reducible refine Below.alloc ?_ ?_ _) | (with_reducible refine Below.setCell ?_ ?_ _) | (with_reducible refine Below.drew ?_) | (with_reducible refine below_drewN ?_ _) | (with_reducible refine Below.trans ?_ (Below.mono ‹_› ?_)) | omega | (with_reducible refine le_alloc ?_) | (with_reducible refine le_setCell ?_) | (with_reducible refine le_drew ?_) | (with_reducible refine le_drewN ?_) | (with_reducible refine Nat.le_trans ?_ (Below.size ‹_›)) | (simp <;> omega)))); have s5 := B5.size; have ne50 : w.heap.size ≠ w5.heap.size := (by omega); have nf50 : w5.heap.size ≠ w.heap.size := (by omega); have ne51 : w.heap.size + 1 ≠ w5.heap.size := (by omega); have nf51 : w5.heap.size ≠ w.heap.size + 1 := (by omega); have ne52 : ba1 ≠ w5.heap.size := (by omega); have nf52 : w5.heap.size ≠ ba1 := (by omega); have ne53 : bb1 ≠ w5.heap.size := (by omega); have nf53 : w5.heap.size ≠ bb1 := (by omega); have q20 := cellK B5 (by omega) a1; have q21 := cellK B5 (by omega) b1; have q22 := cellK B5 (by omega) hxa1; have q23 := cellK B5 (by omega) hxb1; clear hb5)
        | (go_at_call_of 128 (Value.int .i64 xb); (with_reducible refine (HOB.out (w4.alloc (.cells #[.int .i64 0, .int .i64 0] 156))).mono ?_); rintro e w5 ⟨rfl, hb5⟩; have zs0 := cellK hb5 (by simp) (cell_new0 _ (.int .i64 0) (.int .i64 0) 156 rfl); have zs1 := cellK hb5 (by simp) (cell_new1 _ (.int .i64 0) (.int .i64 0) 156 rfl); have zf0 := frozenK hb5 (by simp) (frozen_new0 _ (.int .i64 0) (.int .i64 0) 156 rfl 0); have zf1 := frozenK hb5 (by simp) (frozen_new0 _ (.int .i64 0) (.int .i64 0) 156 rfl 1); have zl := World.block_lt_of_cell? _ _ zs0; have B5 : Below wr.heap.size wr w5 := (by refine Below.trans ?_ (Below.mono hb5 ?_) <;> (first | exact (by repeat' first | with_reducible exact Below.refl _ _ | assumption | (with_reducible refine Below.alloc ?_ ?_ _) | (with_reducible refine Below.setCell ?_ ?_ _) | (with_reducible refine Below.drew ?_) | (with_reducible refine below_drewN ?_ _) | (with_reducible refine Below.trans ?_ (Below.mono ‹_› ?_)) | omega | (with_reducible refine le_alloc ?_) | (with_reducible refine le_setCell ?_) | (with_reducible refine le_drew ?_) | (with_reducible refine le_drewN ?_) | (with_reducible refine Nat.le_trans ?_ (Below.size ‹_›)) | (simp <;> omega)))); have s5 := B5.size; have ne50 : w.heap.size ≠ w5.heap.size := (by omega); have nf50 : w5.heap.size ≠ w.heap.size := (by omega); have ne51 : w.heap.size + 1 ≠ w5.heap.size := (by omega); have nf51 : w5.heap.size ≠ w.heap.size + 1 := (by omega); have ne52 : ba1 ≠ w5.heap.size := (by omega); have nf52 : w5.heap.size ≠ ba1 := (by omega); have ne53 : bb1 ≠ w5.heap.size := (by omega); have nf53 : w5.heap.size ≠ bb1 := (by omega); have q20 := cellK B5 (by omega) a1; have q21 := cellK B5 (by omega) b1; have q22 := cellK B5 (by omega) hxa1; have q23 := cellK B5 (by omega) hxb1; clear hb5)
        | (go_at_call 134; (with_reducible refine (HAD.out w5).mono ?_); rintro e w6 ⟨rfl, hb6⟩; have zs0 := cellK hb6 zl zs0; have zs1 := cellK hb6 zl zs1; have zf0 := frozenK hb6 zl zf0; have zf1 := frozenK hb6 zl zf1; have zl := World.block_lt_of_cell? _ _ zs0; have B6 : Below wr.heap.size wr w6 := (by refine Below.trans ?_ (Below.mono hb6 ?_) <;> (first | exact (by repeat' first | with_reducible exact Below.refl _ _ | assumption | (with_reducible refine Below.alloc ?_ ?_ _) | (with_reducible refine Below.setCell ?_ ?_ _) | (with_reducible refine Below.drew ?_) | (with_reducible refine below_drewN ?_ _) | (with_reducible refine Below.trans ?_ (Below.mono ‹_› ?_)) | omega | (with_reducible refine le_alloc ?_) | (with_reducible refine le_setCell ?_) | (with_reducible refine le_drew ?_) | (with_reducible refine le_drewN ?_) | (with_reducible refine Nat.le_trans ?_ (Below.size ‹_›)) | (simp <;> omega)))); have s6 := B6.size; have q30 := cellK B6 (by omega) a1; have q31 := cellK B6 (by omega) b1; have q32 := cellK B6 (by omega) hxa1; have q33 := cellK B6 (by omega) hxb1; clear hb6)
        | (go_at_call 134; (with_reducible refine (HAD.out w5).mono ?_); rintro e w6 ⟨rfl, hb6⟩; have B6 : Below wr.heap.size wr w6 := (by refine Below.trans ?_ (Below.mono hb6 ?_) <;> (first | exact (by repeat' first | with_reducible exact Below.refl _ _ | assumption | (with_reducible refine Below.alloc ?_ ?_ _) | (with_reducible refine Below.setCell ?_ ?_ _) | (with_reducible refine Below.drew ?_) | (with_reducible refine below_drewN ?_ _) | (with_reducible refine Below.trans ?_ (Below.mono ‹_› ?_)) | omega | (with_reducible refine le_alloc ?_) | (with_reducible refine le_setCell ?_) | (with_reducible refine le_drew ?_) | (with_reducible refine le_drewN ?_) | (with_reducible refine Nat.le_trans ?_ (Below.size ‹_›)) | (simp <;> omega)))); have s6 := B6.size; have q30 := cellK B6 (by omega) a1; have q31 := cellK B6 (by omega) b1; have q32 := cellK B6 (by omega) hxa1; have q33 := cellK B6 (by omega) hxb1; clear hb6)
        | (go_at_call 134; (with_reducible refine (HAD.out (w5.alloc (.cells #[.int .i64 0, .int .i64 0] 156))).mono ?_); rintro e w6 ⟨rfl, hb6⟩; have zs0 := cellK hb6 (by simp) (cell_new0 _ (.int .i64 0) (.int .i64 0) 156 rfl); have zs1 := cellK hb6 (by simp) (cell_new1 _ (.int .i64 0) (.int .i64 0) 156 rfl); have zf0 := frozenK hb6 (by simp) (frozen_new0 _ (.int .i64 0) (.int .i64 0) 156 rfl 0); have zf1 := frozenK hb6 (by simp) (frozen_new0 _ (.int .i64 0) (.int .i64 0) 156 rfl 1); have zl := World.block_lt_of_cell? _ _ zs0; have B6 : Below wr.heap.size wr w6 := (by refine Below.trans ?_ (Below.mono hb6 ?_) <;> (first | exact (by repeat' first | with_reducible exact Below.refl _ _ | assumption | (with_reducible refine Below.alloc ?_ ?_ _) | (with_reducible refine Below.setCell ?_ ?_ _) | (with_reducible refine Below.drew ?_) | (with_reducible refine below_drewN ?_ _) | (with_reducible refine Below.trans ?_ (Below.mono ‹_› ?_)) | omega | (with_reducible refine le_alloc ?_) | (with_reducible refine le_setCell ?_) | (with_reducible refine le_drew ?_) | (with_reducible refine le_drewN ?_) | (with_reducible refine Nat.le_trans ?_ (Below.size ‹_›)) | (simp <;> omega)))); have s6 := B6.size; have q30 := cellK B6 (by omega) a1; have q31 := cellK B6 (by omega) b1; have q32 := cellK B6 (by omega) hxa1; have q33 := cellK B6 (by omega) hxb1; clear hb6))
      all_goals go_wp2
      all_goals go_meet
      all_goals
       case rel => exact ⟨_, rfl, rfl, by first | exact cell_new0 _ _ _ _ rfl | (simp [go_sem, zs0, zs1]; done), by first | exact cell_new1 _ _ _ _ rfl | (simp [go_sem, zs0, zs1]; done), (by repeat' first | with_reducible exact Below.refl _ _ | assumption | (with_reducible refine Below.alloc ?_ ?_ _) | (with_reducible refine Below.setCell ?_ ?_ _) | (with_reducible refine Below.drew ?_) | (with_reducible refine below_drewN ?_ _) | (with_reducible refine Below.trans ?_ (Below.mono ‹_› ?_)) | omega | (with_reducible refine le_alloc ?_) | (with_reducible refine le_setCell ?_) | (with_reducible refine le_drew ?_) | (with_reducible refine le_drewN ?_) | (with_reducible refine Nat.le_trans ?_ (Below.size ‹_›)) | (simp <;> omega))⟩
     case rest =>
     obtain ⟨NW, rfl, rfl, hz0', hz1', hbc⟩ := hcut
     have HBC := hid hbc; clear hbc
     go_wp2_with fail
     by_cases hfit : -9223372036854775808 ≤ xa + xb ∧ xa + xb ≤ 9223372036854775807
     ·refine (HIY.out hfit _).mono ?_
      rintro e w7 ⟨rfl, hb7⟩
      have B7 : Below wr.heap.size wr w7 := HBC.out.trans (hb7.mono HBC.out.size)
      have s7 := B7.size
      have HB7 := hid (HBl.out.kept B7)
      have kc1 : w7.cell? ⟨w3.heap.size, 1, none⟩ = some (.slice (some ⟨gg1, 0, none⟩) a.s.length g1) := (HB7.out.cj 1 (by omega) (by omega)).trans (congrArg some HV1.out)
      obtain ⟨ce1, fr1, st1, far1⟩ := HB7.out.setAt 1 (by omega) (by omega) HV1.out HL1.out (xa + xb)
      rw [M1.out] at st1
      have hbx := far1 w2.heap.size wr (Nat.le_refl _) (B7.mono hsw)
      have HST1 := hid st1; have HBX1 := hid hbx
      clear st1 far1 hbx hb7 hfit
      go_wp2
      generalize hw8 : w7.setCell ⟨gg1, k, none⟩ (.int .i64 (xa + xb)) = w8 at *
      clear hw8
      obtain ⟨-, -, k2, -, -, -, -, -⟩ := BAr.out.below HBX1.out (by omega)
      obtain ⟨-, -, l2, -, -, -, -, -⟩ := BBr.out.below HBX1.out (by omega)
      have kc2 : w8.cell? ⟨w3.heap.size, 2, none⟩ = some (.slice (some ⟨gg2, 0, none⟩) a.lo.length g2) := (HST1.out.cj 2 (by omega) (by omega)).trans (congrArg some HV2.out)
      have kx2 := cellK HBX1.out (by omega) hxa2
      have ky2 := cellK HBX1.out (by omega) hxb2
      have hl2' : k < (upd (YM (sumOf a b) a k) 1 (YM (sumOf a b) a (k + 1) 1) 2).length := HL2.out
      obtain ⟨ce2, fr2, st2, far2⟩ := HST1.out.setAt 2 (by omega) (by omega) HV2.out hl2' (min la lb)
      have hbx := far2 w2.heap.size wr (Nat.le_refl _) HBX1.out
      have HST2 := hid st2; have HBX2 := hid hbx
      clear st2 far2 hbx hl2'
      have HP2 := hid (pick_lt_any la lb)
      go_region_held3 (fun w' => w'.cell? ⟨w3.heap.size, 2, none⟩ = some (.slice (some ⟨gg2, 0, none⟩) a.lo.length g2) ∧ w'.cell? ⟨w.heap.size, 2, none⟩ = some (.slice (some ⟨ba2, oa2, none⟩) a.lo.length c2) ∧ w'.cell? ⟨w.heap.size + 1, 2, none⟩ = some (.slice (some ⟨bb2, ob2, none⟩) b.lo.length d2) ∧ w'.cell? ⟨ba2, oa2 + k, none⟩ = some (.int .i64 la) ∧ w'.cell? ⟨bb2, ob2 + k, none⟩ = some (.int .i64 lb)) (go_keep)
       ((go_at_call 110; refine (HP2.out _).mono ?_; rintro e w9 ⟨rfl, rfl⟩))
      have HB9 := hid (HST2.out.kept (Below.refl _ _).drew)
      have HBX9 := hid HBX2.out.drew
      have M2' := hid (show (upd (YM (sumOf a b) a k) 1 (YM (sumOf a b) a (k + 1) 1) 2).set k (min la lb) = YM (sumOf a b) a (k + 1) 2 from M2.out)
      rw [M2'.out] at HB9
      go_wp2
      generalize hw9 : (w8.setCell ⟨gg2, k, none⟩ (.int .i64 (min la lb))).drew = w9 at *
      clear hw9 ce1 fr1 ce2 fr2 kc1 kc2 kx2 ky2
      obtain ⟨-, -, -, k3, -, -, -, -⟩ := BAr.out.below HBX9.out (by omega)
      obtain ⟨-, -, -, l3, -, -, -, -⟩ := BBr.out.below HBX9.out (by omega)
      have kc3 : w9.cell? ⟨w3.heap.size, 3, none⟩ = some (.slice (some ⟨gg3, 0, none⟩) a.hi.length g3) := (HB9.out.cj 3 (by omega) (by omega)).trans (congrArg some HV3.out)
      have kx3 := cellK HBX9.out (by omega) hxa3
      have ky3 := cellK HBX9.out (by omega) hxb3
      have hl3' : k < (upd (upd (YM (sumOf a b) a k) 1 (YM (sumOf a b) a (k + 1) 1)) 2 (YM (sumOf a b) a (k + 1) 2) 3).length := HL3.out
      obtain ⟨ce3, fr3, st3, far3⟩ := HB9.out.setAt 3 (by omega) (by omega) HV3.out hl3' (max ha hb)
      have hbx := far3 w2.heap.size wr (Nat.le_refl _) HBX9.out
      have HST3 := hid (st3.kept (Below.refl _ _).drew); have HBX3 := hid hbx.drew
      clear st3 far3 hbx hl3'
      have HP3 := hid (pick_gt_any ha hb)
      go_region_held3 (fun w' => w'.cell? ⟨w3.heap.size, 3, none⟩ = some (.slice (some ⟨gg3, 0, none⟩) a.hi.length g3) ∧ w'.cell? ⟨w.heap.size, 3, none⟩ = some (.slice (some ⟨ba3, oa3, none⟩) a.hi.length c3) ∧ w'.cell? ⟨w.heap.size + 1, 3, none⟩ = some (.slice (some ⟨bb3, ob3, none⟩) b.hi.length d3) ∧ w'.cell? ⟨ba3, oa3 + k, none⟩ = some (.int .i64 ha) ∧ w'.cell? ⟨bb3, ob3 + k, none⟩ = some (.int .i64 hb)) (go_keep)
       ((go_at_call 110; refine (HP3.out _).mono ?_; rintro e w10 ⟨rfl, rfl⟩))
      go_wp2
      go_roundw
      case rel => exact ⟨k + 1, by omega, by go_num, bld_same HST3.out (fun _ _ _ => rfl) (three_of rfl rfl M3.out), HWr.out.trans HBX3.out⟩
      case measure => simp [intOf]; omega
     ·have hok : okSum (xa + xb) = false := by
       rw [Bool.eq_false_iff]; intro h
       have := okSum_iff.1 h
       unfold SUM at this
       omega
      have hr := HR.out
      rw [HNO.out hok, if_neg (by simp)] at hr
      have HRR := hid hr
      clear hr hok
      refine (HIN.out (by omega) _).mono ?_
      rintro e w7 ⟨rfl, hb7⟩
      have B7 : Below wr.heap.size wr w7 := HBC.out.trans (hb7.mono HBC.out.size)
      have s7 := B7.size
      clear hb7 hfit
      have HW7 := hid (HWW.out.trans (B7.mono (by omega)))
      obtain ⟨r0, r1, r2, r3, f0, f1, f2, f3⟩ := BRr.out.below B7 (by omega)
      have hbel := fun v0 v1 v2 v3 => fin4 (b := w.heap.size + 1 + 1) HW7.out (by omega) (by omega) v0 v1 v2 v3
      have HBL := hid hbel; clear hbel
      go_wp2
      exact bodyPost_ret (v := .tuple #[.agg #[.int .i64 0, .slice none 0 0, .slice none 0 0, .slice none 0 0], .int .i64 14]) (by simp [results, Tryz.results111, go_sem, r0, r1, r2, r3]; done) rfl (opost HRR.out rfl (OwnC.nil_ _ _) (HBL.out _ _ _ _))
    ·obtain rfl : k = a.s.length := by omega
     have z1 : YM (sumOf a b) a a.s.length 1 = (sumOf a b).s := mix_full (by have := HFU.out.l2; simp [sumOf]; omega) rfl
     have z2 : YM (sumOf a b) a a.s.length 2 = (sumOf a b).lo := mix_full (by have := HFU.out.a2; have := HFU.out.b2; simp [sumOf]; omega) HFU.out.a2.symm
     have z3' : YM (sumOf a b) a a.s.length 3 = (sumOf a b).hi := mix_full (by have := HFU.out.a3; have := HFU.out.b3; simp [sumOf]; omega) HFU.out.a3.symm
     have hread := HBl.out.read
     rw [z1, z2, z3', HV1.out, HV2.out, HV3.out] at hread
     have q0 := HBl.out.c0
     have q1 : wr.cell? ⟨w3.heap.size, 1, none⟩ = some (.slice e1 a.s.length g1) := (HBl.out.cj 1 (by omega) (by omega)).trans (congrArg some HV1.out)
     have q2 : wr.cell? ⟨w3.heap.size, 2, none⟩ = some (.slice e2 a.lo.length g2) := (HBl.out.cj 2 (by omega) (by omega)).trans (congrArg some HV2.out)
     have q3 : wr.cell? ⟨w3.heap.size, 3, none⟩ = some (.slice e3 a.hi.length g3) := (HBl.out.cj 3 (by omega) (by omega)).trans (congrArg some HV3.out)
     have HM := hid (may_any _ (sumOf a b) wr hread)
     clear hread
     have hr := HR.out
     obtain ⟨rm, hrm⟩ : ∃ r, r = mayC (sumOf a b) := ⟨_, rfl⟩
     rw [← hrm] at HM hr
     clear hrm
     have HRM := hid hr; clear hr
     go_wp2_with fail
     refine HM.out.mono ?_
     rintro e w4 ⟨rfl, hb4⟩
     have s4 := hb4.size
     have HW4 := hid (HWW.out.trans (hb4.mono (by omega)))
     have HB4 := hid (HBl.out.kept hb4)
     obtain ⟨r0, r1, r2, r3, f0, f1, f2, f3⟩ := BRr.out.below hb4 (by omega)
     have u0 := HB4.out.c0
     have u1 := cellK hb4 (World.block_lt_of_cell? _ _ q1) q1
     have u2 := cellK hb4 (World.block_lt_of_cell? _ _ q2) q2
     have u3 := cellK hb4 (World.block_lt_of_cell? _ _ q3) q3
     have hbel := fun v0 v1 v2 v3 => fin4 (b := w.heap.size + 1 + 1) HW4.out (by omega) (by omega) v0 v1 v2 v3
     have HBL := hid hbel; clear hbel hb4 q0 q1 q2 q3
     cases rm
     ·have HRR := hid (show mergeC a b = (nilC, 14) from HRM.out)
      go_wp2
      exact bodyPost_ret (v := .tuple #[.agg #[.int .i64 0, .slice none 0 0, .slice none 0 0, .slice none 0 0], .int .i64 14]) (by simp [results, Tryz.results111, go_sem, r0, r1, r2, r3]; done) rfl (opost HRR.out rfl (OwnC.nil_ _ _) (HBL.out _ _ _ _))
     ·have HRR := hid (show mergeC a b = (sumOf a b, 0) from HRM.out)
      have hfin := fun v0 v1 v2 v3 => ((HB4.out.upd (upd4 (w.heap.size + 1 + 1) w4 v0 v1 v2 v3) (by omega) (by omega)).ownC).le (H' := w.heap.size) (by omega)
      rw [z1, z2, z3', HV1.out, HV2.out, HV3.out] at hfin
      have HFI := hid hfin; clear hfin z1 z2 z3'
      go_wp2
      exact bodyPost_ret (v := .tuple #[.agg #[.int .i64 (a.n + b.n), .slice e1 a.s.length g1, .slice e2 a.lo.length g2, .slice e3 a.hi.length g3], .int .i64 0]) (by simp [results, Tryz.results111, go_sem, r0, r1, r2, r3]; done) rfl (opost HRR.out rfl (HFI.out _ _ _ _) (HBL.out _ _ _ _))
end Go.Proofs.YtgoapnkdcfcjgaaGreat
