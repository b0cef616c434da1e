/- 3 texts of this claim, in build order. -/
import Derived.Test.YtclhnnidbhchnaaPhefibfjc
import Derived.Test.YtclhnnidbhchnaaPccdhlphj
import Derived.Test.YtclhnnidbhchnaaPkbnfocpb
import Derived.StillTailTactics
import Derived.Test.YtclhnnidbhchnaaPmcbaoioa
/- cuboid.copied; the program's Get. -/
namespace Go.Proofs.Ytclhnnidbhchnaa
open Go.ChangeShapes Go.WideShapes Go.ChangeAt Go.RowKit Go.Maps
set_option linter.unusedVariables false
set_option linter.unusedSimpArgs false

set_option maxRecDepth 100000 in
set_option maxHeartbeats 1600000 in
theorem copiedC_any (v : Value) (c : CellM) (w : World) (hv : CellR w w.heap.size v c) (hl : c.s.length ≤ 1073741824 ∧ c.lo.length ≤ 1073741824 ∧ c.hi.length ≤ 1073741824) :
    Calls Try.prog 58 #[v] w (OwnPost c w) := by
  obtain ⟨v1, v2, v3, rfl, s1, s2, s3⟩ := hv
  have HC1 := hid (fun W (h : Below w.heap.size w W) => cloneI_any v1 c.s W ((s1.below h).more h.size) hl.1)
  have HC2 := hid (fun W (h : Below w.heap.size w W) => cloneI_any v2 c.lo W ((s2.below h).more h.size) hl.2.1)
  have HC3 := hid (fun W (h : Below w.heap.size w W) => cloneI_any v3 c.hi W ((s3.below h).more h.size) hl.2.2)
  obtain ⟨A1, c1, rfl, -, -⟩ := s1.formI
  obtain ⟨A2, c2, rfl, -, -⟩ := s2.formI
  obtain ⟨A3, c3, rfl, -, -⟩ := s3.formI
  clear s1 s2 s3 hl
  go_enter Try.func58, Try.ntmps58
  obtain ⟨W0, hW0⟩ : ∃ W, W = (w.alloc (.cells #[.int .i64 c.n, .slice A1 c.s.length c1, .slice A2 c.lo.length c2, .slice A3 c.hi.length c3] 25)).alloc (.cells #[.int .i64 0, .slice none 0 0, .slice none 0 0, .slice none 0 0] 25) := ⟨_, rfl⟩
  have hb0 : Below w.heap.size w W0 := by rw [hW0]; exact (by repeat' first | with_reducible exact Below.refl _ _ | assumption | (with_reducible refine Below.alloc ?_ ?_ _) | (with_reducible refine Below.setCell ?_ ?_ _) | (with_reducible refine Below.drew ?_) | (with_reducible refine below_drewN ?_ _) | (with_reducible refine Below.trans ?_ (Below.mono ‹_› ?_)) | omega | (with_reducible refine le_alloc ?_) | (with_reducible refine le_setCell ?_) | (with_reducible refine le_drew ?_) | (with_reducible refine le_drewN ?_) | (with_reducible refine Nat.le_trans ?_ (Below.size ‹_›)) | (simp <;> omega))
  have hs0 : W0.heap.size = w.heap.size + 1 + 1 := by rw [hW0]; simp
  have ba : Blk W0 w.heap.size (.int .i64 c.n) (.slice A1 c.s.length c1) (.slice A2 c.lo.length c2) (.slice A3 c.hi.length c3) := by rw [hW0]; exact (Blk.new _ _ _ _ _ _).alloc (by simp only [World.size_alloc]; omega) _
  have br : Blk W0 (w.heap.size + 1) (.int .i64 0) (.slice none 0 0) (.slice none 0 0) (.slice none 0 0) := by rw [hW0]; exact Blk.new' _ _ _ _ _ (by simp)
  go_wp2
  rw [← hW0]
  have HB0 := hid hb0; have BA := hid ba; have BR := hid br; have HS0 := hid hs0
  obtain ⟨p0, p1, p2, p3, -, -, -, -⟩ := ba
  clear hW0 hb0 br hs0
  go_region_held3 (fun w' => w'.cell? ⟨w.heap.size, 0, none⟩ = some (.int .i64 c.n) ∧ w'.cell? ⟨w.heap.size, 1, none⟩ = some (.slice A1 c.s.length c1) ∧ w'.cell? ⟨w.heap.size, 2, none⟩ = some (.slice A2 c.lo.length c2) ∧ w'.cell? ⟨w.heap.size, 3, none⟩ = some (.slice A3 c.hi.length c3)) (go_keep)
   (first
    | (go_at_call_of 63 (Value.slice A1 c.s.length c1); refine (HC1.out _ HB0.out.drew).mono ?_; rintro e w1 ⟨y1, rfl, ho1, hb1⟩; obtain ⟨a1, d1, rfl, -, -, -⟩ := own_cells ho1; have B1 := hid ((Below.refl W0.heap.size W0).drew.trans hb1); have O1 := hid ho1; have A1' := hid (BA.out.below B1.out (by have := HS0.out; omega)); obtain ⟨p4, p5, p6, p7, -, -, -, -⟩ := A1'.out; clear ho1 hb1)
    | (go_at_call_of 63 (Value.slice A2 c.lo.length c2); refine (HC2.out _ (HB0.out.trans (B1.out.mono (by have := HS0.out; omega)))).mono ?_; rintro e w2 ⟨y2, rfl, ho2, hb2⟩; obtain ⟨a2, d2, rfl, -, -, -⟩ := own_cells ho2; have B2 := hid hb2; have O2 := hid ho2; have A2' := hid (A1'.out.below hb2 (by have := HS0.out; have := B1.out.size; omega)); obtain ⟨p8, p9, p10, p11, -, -, -, -⟩ := A2'.out; clear ho2 hb2)
    | (go_at_call_of 63 (Value.slice A3 c.hi.length c3); refine (HC3.out _ ((HB0.out.trans (B1.out.mono (by have := HS0.out; omega))).trans (B2.out.mono (by have := HS0.out; have := B1.out.size; omega)))).mono ?_; rintro e w3 ⟨y3, rfl, ho3, hb3⟩; obtain ⟨a3, d3, rfl, -, -, -⟩ := own_cells ho3; have B3 := hid hb3; have O3 := hid ho3; have A3' := hid (A2'.out.below hb3 (by have := HS0.out; have := B1.out.size; have := B2.out.size; omega)); obtain ⟨p12, p13, p14, p15, -, -, -, -⟩ := A3'.out; have BR3 := hid (((BR.out.below B1.out (by have := HS0.out; omega)).below B2.out (by have := HS0.out; have := B1.out.size; omega)).below hb3 (by have := HS0.out; have := B1.out.size; have := B2.out.size; omega)); obtain ⟨r0, r1, r2, r3, f0, f1, f2, f3⟩ := BR3.out; clear ho3 hb3))
  go_wp2
  have hz1 := B1.out.size
  have hz2 := B2.out.size
  have hz3 := B3.out.size
  have hz0 := HS0.out
  have hu := upd4 (w.heap.size + 1) w3 (.int .i64 c.n) (.slice a1 c.s.length d1) (.slice a2 c.lo.length d2) (.slice a3 c.hi.length d3)
  have k1 := own_upd (own_more O1.out (B2.out.trans (B3.out.mono hz2)) (H' := w.heap.size + 1 + 1) (by simp only [World.size_drew]; omega)) hu (by omega) (H' := w.heap.size) (by omega)
  have k2 := own_upd (own_more O2.out B3.out (H' := w.heap.size + 1 + 1) (by omega)) hu (by omega) (H' := w.heap.size) (by omega)
  have k3 := own_upd (own_more O3.out (Below.refl _ _) (H' := w.heap.size + 1 + 1) (by omega)) hu (by omega) (H' := w.heap.size) (by omega)
  have hbel : Below w.heap.size w _ := (HB0.out.trans ((B1.out.mono (by omega)).trans ((B2.out.mono (by omega)).trans (B3.out.mono (by omega))))).trans (hu.below (by omega) (by omega))
  have K1 := hid k1; have K2 := hid k2; have K3 := hid k3; have HBE := hid hbel
  have N1 : Hid (∀ g, (Value.slice a1 c.s.length d1).ownBlock = some g → (Value.slice a2 c.lo.length d2).ownBlock ≠ some g ∧ (Value.slice a3 c.hi.length d3).ownBlock ≠ some g) := hid (fun g hg => ⟨fun h => by have := O1.out.lt g hg; have := O2.out.lt g h; omega, fun h => by have := O1.out.lt g hg; have := O3.out.lt g h; omega⟩)
  have N2 : Hid (∀ g, (Value.slice a2 c.lo.length d2).ownBlock = some g → (Value.slice a3 c.hi.length d3).ownBlock ≠ some g) := hid (fun g hg h => by have := O2.out.lt g hg; have := O3.out.lt g h; omega)
  exact bodyPost_ret (v := .agg #[.int .i64 c.n, .slice a1 c.s.length d1, .slice a2 c.lo.length d2, .slice a3 c.hi.length d3]) (by simp [results, Try.results58, go_sem, r0, r1, r2, r3]; done) rfl ⟨_, rfl, ⟨_, _, _, rfl, K1.out, K2.out, K3.out, N1.out, N2.out⟩, HBE.out⟩
theorem getRead {w : World} {E : Nat → Prop} {B : Nat} {v : Value} {c : CellM} (h : CellE w.drew E v c) (hE : ∀ i, E i → i < B) : CellR w B v c := by
  obtain ⟨v1, v2, v3, e, h1, h2, h3⟩ := h
  have q : ∀ {v : Value} {l : List Int}, SlE w.drew E v (ivals l) → Sl w B v (ivals l) := fun hh => by
    obtain ⟨A, c, e, a1, a2, a3⟩ := hh
    refine ⟨A, c, e, a1, a2, fun h0 => ?_⟩
    obtain ⟨b, off, e2, hb, hc⟩ := a3 h0
    exact ⟨b, off, e2, hE b hb, hc⟩
  exact ⟨v1, v2, v3, e, q h1, q h2, q h3⟩
theorem CellR.back {w w' : World} {B : Nat} {v : Value} {c : CellM} (h : CellR w' B v c) (hb : ∀ i, i < B → w'.heap[i]? = w.heap[i]?) : CellR w B v c := by
  obtain ⟨v1, v2, v3, e, h1, h2, h3⟩ := h
  have q : ∀ {v : Value} {l : List Int}, Sl w' B v (ivals l) → Sl w B v (ivals l) := fun hh => by
    obtain ⟨A, c, e, a1, a2, a3⟩ := hh
    refine ⟨A, c, e, a1, a2, fun h0 => ?_⟩
    obtain ⟨b, off, e2, hlt, hc⟩ := a3 h0
    exact ⟨b, off, e2, hlt, fun j u hu => (World.cell?_of_block (a := ⟨b, off + j, none⟩) (hb b hlt)).symm.trans (hc j u hu)⟩
  exact ⟨v1, v2, v3, e, q h1, q h2, q h3⟩
def GetCP (c : CellM) (b : Bool) (w : World) (e : Ending) (w' : World) : Prop := ∃ v, e = .returned (.tuple #[v, .bool b]) ∧ OwnC w' w.heap.size v c ∧ Below w.heap.size w w'
theorem okB_of {W : Nat} {k : List Int} (h : okB W k = true) : okK W k := of_decide_eq_true h
set_option maxRecDepth 100000 in
set_option maxHeartbeats 3200000 in
theorem getC_yes (D : Nat → Prop) (p m W M : Nat) (L : List KC) (v : Value) (k : List Int) (w : World) (hc : CubW w D p m W M L) (hs : OkL W M L) (hv : Sl w w.heap.size v (ivals k)) (h1 : 1 ≤ W) (h3 : W ≤ 3) (hM : M ≤ 2) (hk : okB W k = true) :
    Calls Try.prog 25 #[.pointer (some ⟨p, 0, none⟩), v] w (GetCP (getC L k) (getK L k).isSome w) := by
  obtain ⟨K, kc, rfl, hkc, hkm⟩ := hv.formI
  unfold maxLen at hkm
  have hpl := hc.2.2.2.1 p hc.1
  have hp2 := hc.2.2.2.2.2.2.1
  have hlen : (getC L k).s.length ≤ 2 ∧ (getC L k).lo.length ≤ 2 ∧ (getC L k).hi.length ≤ 2 := by
    unfold getC
    cases hg : getK L k with
    | none => simp [nilC]
    | some y =>
      have hm := (hs.may _ (getK_mem hg)).1
      have hl := hs.len _ (getK_mem hg)
      simp only [Option.getD_some] at *
      exact ⟨by omega, by have := hm.2.1; omega, by have := hm.2.2; omega⟩
  have HC := hid hc
  have HK := hid (fun W' (h : Below w.heap.size w W') => keyC_yes D p m W M L (.slice K k.length kc) k W' (HC.out.below h) ((hv.below h).more h.size) h1 h3 hk)
  have HLK := hid (fun W' (h : Below w.heap.size w W') => (HC.out.below h).2.2.2.2.2.2.2.look (okB_of hk))
  have HLE := hid hlen
  clear hc hv hs hk hlen
  unfold keyT keyV at HK HLK
  generalize k.getD 0 0 = x0 at *
  generalize k.getD 1 0 = x1 at *
  generalize k.getD 2 0 = x2 at *
  generalize (getK L k).isSome = bs at *
  generalize getC L k = c at *
  go_enter Try.func25, Try.ntmps25
  obtain ⟨W0, hW0⟩ : ∃ W, W = w.alloc (.cells #[.int .i64 0, .slice none 0 0, .slice none 0 0, .slice none 0 0] 25) := ⟨_, rfl⟩
  have hb0 : Below w.heap.size w W0 := by rw [hW0]; exact bl1 _ _
  have hs0 : W0.heap.size = w.heap.size + 1 := by rw [hW0]; simp
  have br : Blk W0 w.heap.size (.int .i64 0) (.slice none 0 0) (.slice none 0 0) (.slice none 0 0) := by rw [hW0]; exact Blk.new _ _ _ _ _ _
  have HB0 := hid hb0; have BR := hid br; have HS0 := hid hs0; have HW0 := hid hW0
  clear hb0 br hs0 hW0
  go_wp2_with fail
  rw [← HW0.out]
  refine (HK.out _ HB0.out).mono ?_
  rintro e w1 ⟨rfl, hb1⟩
  have hs1 := hb1.size
  have hz0 := HS0.out
  have HB1 := hid (HB0.out.trans (hb1.mono (by omega)))
  have BR1 := hid (BR.out.below hb1 (by omega))
  clear hb1
  obtain ⟨W2, hW2⟩ : ∃ W, W = w1.alloc (.cells #[.int .i64 x0, .int .i64 x1, .int .i64 x2] 99) := ⟨_, rfl⟩
  have hb2 : Below w1.heap.size w1 W2 := by rw [hW2]; exact bl1 _ _
  have HW2 := hid hW2
  have HB2 := hid (HB1.out.trans (hb2.mono (by omega)))
  have hsz2 : W2.heap.size = w1.heap.size + 1 := by rw [hW2]; simp
  have hkz : w1.heap.size < W2.heap.size := by omega
  have hpz : p < W2.heap.size := by omega
  have HZ2 := hid hsz2
  clear hW2 hb2 hsz2
  obtain ⟨u, hrun, hce⟩ := HLK.out W2.drew HB2.out.drew
  obtain ⟨u', hrun', hce'⟩ := HLK.out ((W2.alloc (.cells #[.int .i64 0, .slice none 0 0, .slice none 0 0, .slice none 0 0] 25)).drew) ((HB2.out.alloc HB2.out.size _).drew)
  obtain ⟨D1, d1, D2, d2, D3, d3, rfl⟩ := hce.lit
  obtain ⟨E1, e1, E2, e2, E3, e3, rfl⟩ := hce'.lit
  have hE := fun i (hi : D i ∧ i ≠ m) => HC.out.2.2.2.1 i hi.1
  have hle := HLE.out
  have hz0' : w.heap.size ≤ W2.heap.size := HB2.out.size
  have hcd := getRead hce hE
  have hce2 := (getRead hce' hE)
  have HCD := hid (fun W' (h : Below W2.heap.size W2 W') => copiedC_any (.agg #[.int .i64 c.n, .slice D1 c.s.length d1, .slice D2 c.lo.length d2, .slice D3 c.hi.length d3]) c W' ((hcd.below (h.mono hz0')).more (Nat.le_trans hz0' h.size)) (by omega))
  have hce3 : CellR W2 w.heap.size (.agg #[.int .i64 c.n, .slice E1 c.s.length e1, .slice E2 c.lo.length e2, .slice E3 c.hi.length e3]) c := hce2.back (fun i hi => (bl1 W2 _).block i (by omega))
  have HCE := hid (fun W' (h : Below W2.heap.size W2 W') => copiedC_any (.agg #[.int .i64 c.n, .slice E1 c.s.length e1, .slice E2 c.lo.length e2, .slice E3 c.hi.length e3]) c W' ((hce3.below (h.mono hz0')).more (Nat.le_trans hz0' h.size)) (by omega))
  clear hce' hcd hce2 hce3 hE hle
  have y2 : W2.cell? ⟨p, 2, none⟩ = _ := cellK HB2.out hpl hp2
  have k0 : W2.cell? ⟨w1.heap.size, 0, none⟩ = some (.int .i64 x0) := by rw [HW2.out]; simp [go_sem]
  have k1 : W2.cell? ⟨w1.heap.size, 1, none⟩ = some (.int .i64 x1) := by rw [HW2.out]; simp [go_sem]
  have k2 : W2.cell? ⟨w1.heap.size, 2, none⟩ = some (.int .i64 x2) := by rw [HW2.out]; simp [go_sem]
  clear hce
  go_wp2
  rw [← HW2.out]
  go_region
  go_wp2_with fail
  all_goals first
    | (with_reducible refine (HCD.out _ ((bl1 W2 _).drew)).mono ?_)
    | (with_reducible refine (HCE.out _ ((bl1 W2 _).drew)).mono ?_)
  all_goals
    rintro e w3 ⟨y, rfl, hoc, hb3⟩
    have hoc' := hoc
    obtain ⟨y1, y2', y3, rfl, ho1, ho2, ho3, -, -⟩ := hoc
    obtain ⟨F1, f1, rfl, -, -, -⟩ := own_cells ho1
    obtain ⟨F2, f2, rfl, -, -, -⟩ := own_cells ho2
    obtain ⟨F3, f3, rfl, -, -, -⟩ := own_cells ho3
    have hb3' := ((bl1 W2 _).drew).trans (hb3.mono (by show W2.heap.size ≤ (W2.alloc _).heap.size; simp))
    have hs3 := hb3'.size
    have hz2 := HZ2.out
    have HB3 := hid (HB2.out.trans (hb3'.mono HB2.out.size))
    have BR3 := hid (BR1.out.below ((show Below w1.heap.size w1 W2 by rw [HW2.out]; exact bl1 _ _).trans (hb3'.mono (by omega))) (by omega))
    have HO3 := hid (hoc'.le (H' := W2.heap.size) (by show W2.heap.size ≤ (W2.alloc _).heap.size; simp))
    have hso : w.heap.size < W2.heap.size := by omega
    clear ho1 ho2 ho3 hoc' hb3 hb3' y2 k0 k1 k2
    obtain ⟨r0, r1, r2, r3, g0, g1, g2, g3⟩ := BR3.out
    have HFI := hid (fun v0 v1 v2 v3 => (HO3.out.upd (upd4 w.heap.size w3 v0 v1 v2 v3) hso).le (H' := w.heap.size) (Nat.le_of_lt hso))
    have HBL := hid (fun v0 v1 v2 v3 => fin4 (b := w.heap.size) HB3.out (Nat.le_refl _) (by omega) v0 v1 v2 v3)
    go_wp2
    exact bodyPost_ret (v := .tuple #[.agg #[.int .i64 c.n, .slice F1 c.s.length f1, .slice F2 c.lo.length f2, .slice F3 c.hi.length f3], .bool bs]) (by simp [results, Try.results25, go_sem, r0, r1, r2, r3]; done) rfl ⟨_, rfl, HFI.out _ _ _ _, HBL.out _ _ _ _⟩
set_option maxRecDepth 100000 in
set_option maxHeartbeats 1600000 in
theorem getC_no (D : Nat → Prop) (p m W M : Nat) (L : List KC) (v : Value) (k : List Int) (w : World) (hc : CubW w D p m W M L) (hv : Sl w w.heap.size v (ivals k)) (hk : okB W k = false) :
    Calls Try.prog 25 #[.pointer (some ⟨p, 0, none⟩), v] w (GetCP nilC false w) := by
  obtain ⟨K, kc, rfl, hkc, hkm⟩ := hv.formI
  unfold maxLen at hkm
  have HK := hid (fun W' (h : Below w.heap.size w W') => keyC_no D p m W M L (.slice K k.length kc) k W' (hc.below h) ((hv.below h).more h.size) hk)
  clear hc hv hk
  go_enter Try.func25, Try.ntmps25
  obtain ⟨W0, hW0⟩ : ∃ W, W = w.alloc (.cells #[.int .i64 0, .slice none 0 0, .slice none 0 0, .slice none 0 0] 25) := ⟨_, rfl⟩
  have hb0 : Below w.heap.size w W0 := by rw [hW0]; exact bl1 _ _
  have hs0 : W0.heap.size = w.heap.size + 1 := by rw [hW0]; simp
  have br : Blk W0 w.heap.size (.int .i64 0) (.slice none 0 0) (.slice none 0 0) (.slice none 0 0) := by rw [hW0]; exact Blk.new _ _ _ _ _ _
  have HB0 := hid hb0; have BR := hid br; have HS0 := hid hs0; have HW0 := hid hW0
  clear hb0 br hs0 hW0
  go_wp2_with fail
  rw [← HW0.out]
  refine (HK.out _ HB0.out).mono ?_
  rintro e w1 ⟨rfl, hb1⟩
  have hs1 := hb1.size
  have hz0 := HS0.out
  have HB1 := hid (HB0.out.trans (hb1.mono (by omega)))
  have BR1 := hid (BR.out.below hb1 (by omega))
  clear hb1
  unfold keyT keyV
  have HB2 := hid (HB1.out.trans ((bl1 w1 (.cells #[.int .i64 (([] : List Int).getD 0 0), .int .i64 (([] : List Int).getD 1 0), .int .i64 (([] : List Int).getD 2 0)] 99)).mono (by omega)))
  have BR2 := hid (BR1.out.alloc (by omega) (.cells #[.int .i64 (([] : List Int).getD 0 0), .int .i64 (([] : List Int).getD 1 0), .int .i64 (([] : List Int).getD 2 0)] 99))
  have HBL := hid (fun v0 v1 v2 v3 => fin4 (b := w.heap.size) HB1.out (Nat.le_refl _) (by omega) v0 v1 v2 v3)
  obtain ⟨r0, r1, r2, r3, g0, g1, g2, g3⟩ := BR1.out
  have hlt : w.heap.size < w1.heap.size := by omega
  go_wp2
  exact bodyPost_ret (v := .tuple #[.agg #[.int .i64 0, .slice none 0 0, .slice none 0 0, .slice none 0 0], .bool false]) (by simp [results, Try.results25, go_sem, r0, r1, r2, r3, hlt]; done) rfl ⟨_, rfl, OwnC.nil_ _ _, (HBL.out _ _ _ _).alloc (by simp [World.setCell]; omega) _⟩
end Go.Proofs.Ytclhnnidbhchnaa
/- A cell of the call's own is stored in the cuboid's map. -/
namespace Go.Proofs.Ytclhnnidbhchnaa
open Go.ChangeShapes Go.WideShapes Go.ChangeAt Go.RowKit Go.Maps
set_option linter.unusedVariables false
set_option linter.unusedSimpArgs false

theorem CubW.store {w W' : World} {D : Nat → Prop} {p m W M H : Nat} {L : List KC} {k : List Int} {v : Value} {c : CellM} (h : CubW w D p m W M L) (hs : OkL W M L) (hW : W ≤ 3) (hL : L.length ≤ 70000) (hk : okK W k) (hb : Below w.heap.size w W') (ho : OwnC W' H v c) (hH : w.heap.size ≤ H) :
    ∃ w6, (Instr.mapUpdate 92 (.map (some m)) (keyT k) v).run Try.prog W' = .ok () w6 ∧ CubW w6 (fun i => D i ∨ (w.heap.size ≤ i ∧ i < W'.heap.size)) p m W M (setK k c L) ∧ Grow w D (fun i => D i ∨ (w.heap.size ≤ i ∧ i < W'.heap.size)) ∧ Upd m w w6 ∧ Upd m W' w6 := by
  obtain ⟨a1, a2, a3, a4, a5, a6, a7, a8⟩ := h.below hb
  have h4 := h.2.2.2.1
  have hsz := hb.size
  have hml := h4 m a2
  have hpl := h4 p a1
  have hmk := a8.mono (E' := fun i => (D i ∨ (w.heap.size ≤ i ∧ i < W'.heap.size)) ∧ i ≠ m) (fun i hi => ⟨.inl hi.1, hi.2⟩)
  have hce := (CellE.of_own ho).mono (E' := fun i => (D i ∨ (w.heap.size ≤ i ∧ i < W'.heap.size)) ∧ i ≠ m) (fun i hi => ⟨.inr ⟨by omega, hi.2⟩, by omega⟩)
  obtain ⟨w6, hrun, hm6, hu, hz, hf⟩ := hmk.store (fun x hx => hs.key x hx) hs.sort hW (by omega) (fun e => e.2 rfl) hk hce
  refine ⟨w6, hrun, ⟨.inl a1, .inl a2, a3, fun i hi => ?_, hu.cellAt (by omega) a3 a5, hu.cellAt (by omega) a3 a6, hu.cellAt (by omega) a3 a7, hm6⟩, ⟨fun i hi => .inl hi, fun i hi => hi.imp id (fun h => h.1)⟩, ((Upd.refl m w).new hb).trans hu, hu⟩
  rw [hz]
  rcases hi with hi | hi
  · have := h4 i hi; omega
  · exact hi.2
end Go.Proofs.Ytclhnnidbhchnaa
/- The program's Keys, Len. -/
namespace Go.Proofs.Ytclhnnidbhchnaa
open Go.ChangeShapes Go.WideShapes Go.ChangeAt Go.RowKit Go.Maps
set_option linter.unusedVariables false
set_option linter.unusedSimpArgs false

/-- Lists of the call's own, each in a block of its own. -/
def RowsU (w : World) (H : Nat) (us : List Value) (ks : List (List Int)) : Prop :=
  us.length = ks.length ∧ (∀ i, i < ks.length → w.ownsRow H 3 1 (us.getD i undef) (ks.getD i []).length (ivals (ks.getD i []))) ∧
  ∀ i j, i < j → j < ks.length → ∀ g, (us.getD i undef).ownBlock = some g → (us.getD j undef).ownBlock ≠ some g
theorem RowsU.nil_ (w : World) (H : Nat) : RowsU w H [] [] := ⟨rfl, fun i hi => by simp at hi, fun i j _ hj => by simp at hj⟩
theorem RowsU.kept {w w' : World} {H : Nat} {us : List Value} {ks : List (List Int)} (h : RowsU w H us ks) (k : ∀ i, i < ks.length → ∀ g, (us.getD i undef).ownBlock = some g → w'.heap[g]? = w.heap[g]?) : RowsU w' H us ks :=
  ⟨h.1, fun i hi => own_kept (h.2.1 i hi) (k i hi), h.2.2⟩
theorem RowsU.below {w w' : World} {H : Nat} {us : List Value} {ks : List (List Int)} (h : RowsU w H us ks) (hb : Below w.heap.size w w') : RowsU w' H us ks :=
  h.kept fun i hi g hg => hb.block g ((h.2.1 i hi).lt g hg).2
theorem RowsU.app {w w' : World} {H : Nat} {us : List Value} {ks : List (List Int)} {u : Value} {k : List Int} (h : RowsU w H us ks) (hb : Below w.heap.size w w') (hu : w'.ownsRow w.heap.size 3 1 u k.length (ivals k)) (hH : H ≤ w.heap.size) : RowsU w' H (us ++ [u]) (ks ++ [k]) := by
  have h' := h.below hb
  have el : ∀ i, i < ks.length → (us ++ [u]).getD i undef = us.getD i undef ∧ (ks ++ [k]).getD i [] = ks.getD i [] := fun i hi => by
    simp only [List.getD_eq_getElem?_getD]
    rw [List.getElem?_append_left (by rw [h.1]; exact hi), List.getElem?_append_left hi]
    exact ⟨rfl, rfl⟩
  have er : (us ++ [u]).getD ks.length undef = u ∧ (ks ++ [k]).getD ks.length [] = k := by
    simp only [List.getD_eq_getElem?_getD]
    rw [List.getElem?_append_right (by rw [h.1]; exact Nat.le_refl _), List.getElem?_append_right (Nat.le_refl _), h.1]
    simp
  refine ⟨by simp [h.1], fun i hi => ?_, fun i j hij hj g hg => ?_⟩
  · rcases Nat.lt_or_ge i ks.length with hlt | hge
    · rw [(el i hlt).1, (el i hlt).2]; exact h'.2.1 i hlt
    · obtain rfl : i = ks.length := by simp at hi; omega
      rw [er.1, er.2]; exact own_base hu hH
  · rcases Nat.lt_or_ge j ks.length with hlt | hge
    · rw [(el j hlt).1]
      rw [(el i (by omega)).1] at hg
      exact h.2.2 i j hij hlt g hg
    · obtain rfl : j = ks.length := by simp at hj; omega
      rw [er.1]
      rw [(el i hij).1] at hg
      intro e
      have a := ((h.2.1 i hij).lt g hg).2
      have b := (hu.lt g e).1
      omega
/-- Rows of different types lie apart. -/
theorem own_apart {w : World} {H H' : Nat} {e e' : TypeId} {sz sz' : Nat} {v v' : Value} {n n' : Nat} {xs xs' : List Value} (h : w.ownsRow H e sz v n xs) (h' : w.ownsRow H' e' sz' v' n' xs') (hne : e ≠ e') : ∀ g, v.ownBlock = some g → v'.ownBlock ≠ some g := by
  intro g hg hg'
  rcases h.2 with ⟨rfl, -⟩ | ⟨g1, cap, cur, rfl, -, hc, -⟩
  · cases hg
  · rcases h'.2 with ⟨rfl, -⟩ | ⟨g2, cap2, cur2, rfl, -, hc2, -⟩
    · cases hg'
    · injection hg with hg
      injection hg' with hg'
      have e1 : g1 = g := hg
      have e2 : g2 = g := hg'
      subst e1; subst e2
      rw [hc] at hc2
      injection hc2 with hc2
      injection hc2 with _ hc2 _
      exact hne hc2
def KysP (ks : List (List Int)) (w : World) (e : Ending) (w' : World) : Prop := ∃ v us, e = .returned v ∧ w'.ownsRow w.heap.size 23 1 v ks.length us ∧ RowsU w' w.heap.size us ks ∧ Below w.heap.size w w'
def KyRel (L : List KC) (w1 : World) (l i : Value) (wr : World) : Prop :=
  ∃ (k : Nat) (us : List Value), k ≤ L.length ∧ i = .int .i64 k ∧ wr.ownsRow w1.heap.size 23 1 l k us ∧ RowsU wr w1.heap.size us ((L.take k).map Prod.fst) ∧ Below w1.heap.size w1 wr
theorem info_ints : (Try.prog.info? 23).map (fun i => (i.zero, i.size, i.bytes)) = some (some (.slice none 0 0), 1, 24) := by kernel_rfl
theorem getD_memK {L : List KC} {k : Nat} (h : k < L.length) : L.getD k zK ∈ L := by
  rw [List.getD_eq_getElem?_getD, List.getElem?_eq_getElem h]; exact List.getElem_mem h
theorem take_fst {L : List KC} {k : Nat} (h : k < L.length) : (L.take (k + 1)).map Prod.fst = (L.take k).map Prod.fst ++ [(L.getD k zK).1] := by
  rw [take_succ_zK h, List.map_append]; rfl
theorem sl_key {w : World} {k : List Int} {W : Nat} (hk : k.length = W) (hW : W ≤ 3) : Sl (w.alloc (.cells #[.int .i64 (k.getD 0 0), .int .i64 (k.getD 1 0), .int .i64 (k.getD 2 0)] 99)) (w.heap.size + 1) (.slice (some ⟨w.heap.size, 0, none⟩) W 3) (ivals k) := by
  refine Sl.take_ (by omega) hk.symm hW (by simp [maxLen]) fun j hj => ?_
  rw [Nat.zero_add]
  obtain rfl | rfl | rfl : j = 0 ∨ j = 1 ∨ j = 2 := by omega
  · simp [go_sem]
  · simp [go_sem]
  · simp [go_sem]
theorem slice_key (N W : Nat) (hW : W ≤ 3) (w : World) : (Instr.sliceAt 99 (.pointer (some ⟨N, 0, none⟩)) none (some (.int .i64 W)) none).run Try.prog w = .ok (.slice (some ⟨N, 0, none⟩) W 3) w := by
  obtain rfl | rfl | rfl | rfl : W = 0 ∨ W = 1 ∨ W = 2 ∨ W = 3 := by omega
  · kernel_rfl
  · kernel_rfl
  · kernel_rfl
  · kernel_rfl
set_option maxRecDepth 100000 in
set_option maxHeartbeats 3200000 in
theorem keys_any (D : Nat → Prop) (p m W M : Nat) (L : List KC) (w : World) (hc : CubW w D p m W M L) (hs : OkL W M L) (hW : W ≤ 3) (hL : L.length ≤ 70000) :
    Calls Try.prog 30 #[.pointer (some ⟨p, 0, none⟩)] w (KysP (L.map Prod.fst) w) := by
  obtain ⟨i0, hi, hz0, hz1, hz2⟩ := info_parts info_ints
  have hpl := hc.2.2.2.1 p hc.1
  have y0 := hc.2.2.2.2.1
  have HO := hid (order_any D p m W M L w hc hs hW hL)
  have HKY := hid hs.key
  clear hc hs
  go_enter Try.func30, Try.ntmps30
  go_wp2_with fail
  refine HO.out.mono ?_
  rintro e w1 ⟨v, rfl, ⟨A, cap, rfl, h1, h2, h3⟩, hb1⟩
  have y0 := cellK hb1 hpl y0
  have hs1 := hb1.size
  unfold maxLen at h2
  have HB1 := hid hb1; have H3 := hid h3
  clear hb1 h3
  go_wp2
  go_loopw [3, 9] (fun l i wr => KyRel L w1 l i wr) (fun _ i _ => L.length - (intOf i).toNat)
  case atStart => exact ⟨0, [], by omega, rfl, World.ownsRow_nil _ _ _ _, RowsU.nil_ _ _, Below.refl _ _⟩
  case round =>
    obtain ⟨k, us, hk, rfl, hown, hrows, hb⟩ := hrel
    have hsb := hb.size
    by_cases hlt : k < L.length
    · obtain ⟨g, rfl, hg, hcells⟩ := H3.out (by omega)
      obtain ⟨q0, q1, q2⟩ := hcells k hlt
      have q0 := cellK hb hg q0
      have q1 := cellK hb hg q1
      have q2 := cellK hb hg q2
      have y0 := cellK hb (by omega) y0
      have hkl := (HKY.out _ (getD_memK hlt)).1
      have e1 := take_fst hlt
      generalize (L.getD k zK).1 = key at *
      have hsl := sl_key (w := wr) hkl hW
      have hpw : p < wr.heap.size := by omega
      generalize key.getD 0 0 = x0 at *
      generalize key.getD 1 0 = x1 at *
      generalize key.getD 2 0 = x2 at *
      have hslk := slice_key wr.heap.size W hW
      obtain ⟨W0, hW0⟩ : ∃ W', W' = wr.alloc (.cells #[.int .i64 x0, .int .i64 x1, .int .i64 x2] 99) := ⟨_, rfl⟩
      rw [← hW0] at hsl
      have hz0' : W0.heap.size = wr.heap.size + 1 := by rw [hW0]; simp
      have hb0 : Below wr.heap.size wr W0 := by rw [hW0]; exact bl1 _ _
      have HCL := hid (cloneI_any _ key W0 (hsl.more (by omega)) (by omega))
      have HB := hid hb; have HOW := hid hown; have HRO := hid hrows; have E1 := hid e1; have HW0 := hid hW0; have HB0 := hid hb0
      clear hb hown hrows e1 hcells hsl hW0 hb0
      go_wp2_with fail
      rw [← HW0.out]
      refine HCL.out.mono ?_
      rintro e w2 ⟨u, rfl, hu, hb2⟩
      rw [hkl] at hu
      obtain ⟨U, cu, rfl, -, -, -⟩ := own_cells hu
      have hs2 := hb2.size
      have hb02 : Below wr.heap.size wr w2 := HB0.out.trans (hb2.mono (by omega))
      have hown2 := own_kept HOW.out (fun g hg => hb02.block g (HOW.out.lt g hg).2)
      have hrow2 := HRO.out.app (k := key) hb02 (by rw [hkl]; exact own_base hu (by omega)) (by omega)
      rw [← E1.out] at hrow2
      have HO2 := hid hown2; have HR2 := hid hrow2; have HB02 := hid hb02
      have HKL := hid hkl
      clear hown2 hrow2 hb02 hu hb2 hkl
      go_wp2_with (at_builtin; refine stop_here ?_)
      refine go_on ?_
      refine app_own_at (.tmp 13) (.tmp 20) 33 33 rfl rfl w1.heap.size 23 i0 (.slice none 0 0) 1 24 Try.underlying33 hi hz0 hz1 hz2 rfl (by decide) _ _ _ rfl (HO2.out.alloc _) (.slice (some ⟨w2.heap.size, 0, none⟩) 1 1) 1 [_] rfl (Src.ofSlice _ Try.underlying33 _ 1 1 _ rfl (cells_new_at _ _ _ rfl) (by simp; rfl)) (by simp only [maxLen]; omega) (by omega) (by rw [World.size_alloc]; omega) ?_
      intro v3 w3 hown3 hg3 hb3 hat3
      have hrow3 : RowsU w3 w1.heap.size (us ++ [.slice U W cu]) ((L.take (k + 1)).map Prod.fst) := by
        refine (HR2.out.below (bl1 w2 (.cells #[.slice U W cu] 23))).kept (fun i hi g hg => ?_)
        have hlg := ((HR2.out.2.1 i hi).lt g hg).2
        refine hg3.block g (by rw [World.size_alloc]; omega) (fun e => own_apart (HR2.out.2.1 i hi) HO2.out (by decide) g hg e.symm)
      have hb3' := hid (((HB.out.trans (HB02.out.mono hsb)).alloc (by omega) _).trans hb3)
      have HO3 := hid hown3; have HR3 := hid hrow3
      clear hown3 hrow3 hg3 hb3 hat3
      go_wp2
      go_roundw
      case rel => exact ⟨k + 1, _, by omega, by go_num, HO3.out, HR3.out, hb3'.out⟩
      case measure => simp [intOf]; omega
    · obtain rfl : k = L.length := by omega
      rw [List.take_length] at hrows
      have HOW := hid hown; have HRO := hid hrows; have HB := hid hb
      clear hown hrows hb
      go_wp2
      go_ret
      exact ⟨_, us, rfl, by rw [List.length_map]; exact own_base HOW.out hs1, ⟨HRO.out.1, fun i hi => own_base (HRO.out.2.1 i hi) hs1, HRO.out.2.2⟩, HB1.out.trans (HB.out.mono hs1)⟩
set_option maxRecDepth 100000 in
theorem len_any (D : Nat → Prop) (p m W M : Nat) (L : List KC) (w : World) (hc : CubW w D p m W M L) :
    Calls Try.prog 56 #[.pointer (some ⟨p, 0, none⟩)] w (Stays (.int .i64 L.length) w) := by
  have hpl := hc.2.2.2.1 p hc.1
  have y2 := hc.2.2.2.2.2.2.1
  obtain ⟨Dm, h1, h2, -⟩ := hc.2.2.2.2.2.2.2
  have H2 := hid h2
  clear hc h2
  go_enter Try.func56, Try.ntmps56
  go_wp2_with (first
    | (at_len; refine wpList_len_own _ rfl _ 92 rfl 99 25 Try.underlying92 _ m L.length Dm rfl h1 ?_)
    | go_in)
  rw [H2.out]
  go_ret
  exact ⟨rfl, Qu.refl _⟩
end Go.Proofs.Ytclhnnidbhchnaa
