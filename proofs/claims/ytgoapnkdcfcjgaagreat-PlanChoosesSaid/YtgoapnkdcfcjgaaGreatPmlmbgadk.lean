/- 3 texts of this claim, in build order. -/
import Derived.Test.YtgoapnkdcfcjgaaGreatPflgpgfja
import Derived.Test.YtgoapnkdcfcjgaaGreatPcjenhmkf
import Derived.Laws.IdiomCopy
import Derived.StillTailTactics
set_option linter.unusedVariables false
set_option linter.unusedSimpArgs false
namespace Go.Proofs.YtgoapnkdcfcjgaaGreat
open Go.ChangeShapes Go.WideShapes Go.ChangeAt Go.RowKit Go.Maps
def KeyP (v : Value) (b : Bool) (w : World) (e : Ending) (w' : World) : Prop := e = .returned (.tuple #[v, .bool b]) /\ Below w.heap.size w w'
theorem zcu (b : Nat) : ∀ (zs : List Value) (o : Nat) (w : World), Upd b w (w.setCells b o zs)
 | [], _, w => Upd.refl _ _
 | v :: zs, o, w => (Upd.setCell b o w v).trans (zcu b zs (o + 1) _)
theorem zhN {w : World} {N : Nat} {k : List Int} (hk : k.length <= 3) (h : ∀ i, i < 3 -> w.cell? ⟨N, i, none⟩ = some (.int .i64 0)) : ∀ i, i < 3 -> (w.setCells N 0 (zk k)).cell? ⟨N, i, none⟩ = some (.int .i64 (k.getD i 0)) := by
 intro i hi
 rcases Nat.lt_or_ge i k.length with hlt | hge
 ·have := World.cell?_setCells_in N (zk k) 0 w (fun j hj => by rw [Nat.zero_add, h j (by rw [zaf] at hj; omega)]; rfl) i (by rw [zaf]; exact hlt)
  rw [Nat.zero_add] at this
  rw [this]
  simp [zk, List.getD_eq_getElem?_getD, List.getElem?_eq_getElem hlt]
 ·rw [World.cell?_setCells_out N (zk k) 0 w ⟨N, i, none⟩ (fun _ _ => .inr (by rw [zaf]; simp only; omega)), h i hi, List.getD_eq_getElem?_getD, List.getElem?_eq_none hge]
  rfl
set_option maxRecDepth 100000 in
set_option maxHeartbeats 1600000 in
theorem zkH (D : Nat -> Prop) (p m W M : Nat) (L : List KC) (v : Value) (k : List Int) (w : World) (hc : CubW w D p m W M L) (hv : Sl w w.heap.size v (zk k)) (h1 : 1 <= W) (h3 : W <= 3) (hk : okB W k = true) :
  Calls Tryz.prog 97 #[.pointer (some ⟨p, 0, none⟩), v] w (KeyP (keyT k) true w) := by
 obtain ⟨K, kc, rfl, hkc, hkm⟩ := hv.formI
 unfold maxLen at hkm
 have hkl : k.length = W := (of_decide_eq_true hk : okK W k).1
 obtain ⟨b, off, rfl, hb, hx0⟩ := hv.int (show 0 < k.length by omega)
 have hall : (!(k.all zc9)) = false := by
  rw [zh7] at hk
  simp at hk
  simpa using hk.2
 have hsrc : ∀ W', Below w.heap.size w W' -> ∀ j u, (zk k)[j]? = some u -> W'.cell? ((⟨b, off, none⟩ : Addr).add j) = some u := fun W' h => by
  obtain ⟨A, c, e, _, _, hh⟩ := hv.below h
  injection e with e _ _
  subst e
  obtain ⟨b2, o2, e, _, hcells⟩ := hh (by rw [zaf]; omega)
  injection e with e; injection e with e1 e2 _; subst e1 e2
  exact zdA hcells
 have hpl := hc.2.2.2.1 p hc.1
 have hpw := hc.2.2.2.2.1
 have HSRC := hid hsrc
 have HCI := hid (fun W' (h : Below w.heap.size w W') => zdc (.slice (some ⟨b, off, none⟩) k.length kc) k W' w.heap.size (hv.below h))
 rw [hall] at HCI
 have t0 : ((k.length : Int) != (W : Int)) = false := by simp [hkl]
 have t1 : (k.length != W) = false := by simp [hkl]
 have HKL := hid hkl
 clear hc hv hk hall hsrc hx0 hkl
 go_enter Tryz.func97, Tryz.ntmps97
 obtain ⟨W0, hW0⟩ : ∃ W', W' = (w.alloc (.cells #[.int .i64 0, .int .i64 0, .int .i64 0] 149)).alloc (.cells #[.int .i64 0, .int .i64 0, .int .i64 0] 149) := ⟨_, rfl⟩
 have hb0 : Below w.heap.size w W0 := by rw [hW0]; exact zI
 have hs0 : W0.heap.size = w.heap.size + 1 + 1 := by rw [hW0]; simp
 have hr : ∀ i, i < 3 -> W0.cell? ⟨w.heap.size, i, none⟩ = some (.int .i64 0) /\ W0.frozen? ⟨w.heap.size, i, none⟩ = false /\ W0.cell? ⟨w.heap.size + 1, i, none⟩ = some (.int .i64 0) /\ W0.frozen? ⟨w.heap.size + 1, i, none⟩ = false := by
  intro i hi
  rw [hW0]
  obtain rfl | rfl | rfl : i = 0 \/ i = 1 \/ i = 2 := by omega
  all_goals simp [go_sem]
 have HW0 := hid hW0; have HB0 := hid hb0; have HR := hid hr
 clear hW0 hb0 hr
 go_wp2_with fail
 rw [<- HW0.out]
 refine (HCI.out _ HB0.out).mono ?_
 rintro e w1 ⟨rfl, n1, rfl⟩
 have hz1 : (W0.drewN n1).heap.size = w.heap.size + 1 + 1 := hs0
 have HB1 := hid (zn HB0.out n1)
 have HR1 := hid (fun i (hi : i < 3) => show (W0.drewN n1).cell? ⟨w.heap.size, i, none⟩ = some (.int .i64 0) /\ (W0.drewN n1).frozen? ⟨w.heap.size, i, none⟩ = false /\ (W0.drewN n1).cell? ⟨w.heap.size + 1, i, none⟩ = some (.int .i64 0) /\ (W0.drewN n1).frozen? ⟨w.heap.size + 1, i, none⟩ = false from HR.out i hi)
 generalize W0.drewN n1 = w1 at *
 have hcp := fun ty => run_copy_cells (P := Tryz.prog) w1 27 27 ty 3 (w.heap.size + 1) 0 3 3 ⟨b, off, none⟩ k.length kc (zk k) Tryz.underlying27 (by kernel_rfl) (by rw [zaf]; exact (Nat.min_eq_left (by have := HKL.out; omega)).symm) (HSRC.out _ HB1.out) (fun j hj => by rw [Nat.zero_add, (HR1.out j (by rw [zaf] at hj; have := HKL.out; omega)).2.2.1]; rfl) (fun j hj => by rw [Nat.zero_add]; exact (HR1.out j (by rw [zaf] at hj; have := HKL.out; omega)).2.2.2) (ziC k)
 have h3c := zhN (w := w1) (N := w.heap.size + 1) (k := k) (by have := HKL.out; omega) (fun i hi => (HR1.out i hi).2.2.1)
 have hfar : ∀ i, i < 3 -> (w1.setCells (w.heap.size + 1) 0 (zk k)).cell? ⟨w.heap.size, i, none⟩ = some (.int .i64 0) := fun i hi => by
  rw [World.cell?_setCells_out (w.heap.size + 1) (zk k) 0 w1 ⟨w.heap.size, i, none⟩ (fun h _ => by simp only at h; omega)]
  exact (HR1.out i hi).1
 have hfz : ∀ i, i < 3 -> (w1.setCells (w.heap.size + 1) 0 (zk k)).frozen? ⟨w.heap.size, i, none⟩ = false := fun i hi => by
  rw [World.frozen?_setCells]; exact (HR1.out i hi).2.1
 have hbW : Below w.heap.size w (w1.setCells (w.heap.size + 1) 0 (zk k)) := HB1.out.trans ((zcu (w.heap.size + 1) (zk k) 0 w1).below (by omega) (by omega))
 have hsW : w.heap.size < (w1.setCells (w.heap.size + 1) 0 (zk k)).heap.size := by have := (zcu (w.heap.size + 1) (zk k) 0 w1).size; omega
 generalize w1.setCells (w.heap.size + 1) 0 (zk k) = wc at *
 have c0 := h3c 0 (by omega); have c1 := h3c 1 (by omega); have c2 := h3c 2 (by omega)
 have r0 := hfar 0 (by omega); have r1 := hfar 1 (by omega); have r2 := hfar 2 (by omega)
 have f0 := hfz 0 (by omega); have f1 := hfz 1 (by omega); have f2 := hfz 2 (by omega)
 have HBW := hid hbW
 clear h3c hfar hfz hbW
 unfold goInt at hcp
 have HBL := hid (fun v0 v1 v2 => HBW.out.trans ((((Upd.setCell w.heap.size 0 wc v0).trans (Upd.setCell w.heap.size 1 _ v1)).trans (Upd.setCell w.heap.size 2 _ v2)).below (Nat.le_refl _) hsW))
 go_wp2
 exact bodyPost_ret (v := .tuple #[keyT k, .bool true]) (by simp [results, Tryz.results97, go_sem, keyT, keyV, r0, r1, r2]; done) rfl ⟨rfl, HBL.out _ _ _⟩
set_option maxRecDepth 100000 in
set_option maxHeartbeats 1600000 in
theorem zor (D : Nat -> Prop) (p m W M : Nat) (L : List KC) (v : Value) (k : List Int) (w : World) (hc : CubW w D p m W M L) (hv : Sl w w.heap.size v (zk k)) (hk : okB W k = false) :
  Calls Tryz.prog 97 #[.pointer (some ⟨p, 0, none⟩), v] w (KeyP (keyT []) false w) := by
 obtain ⟨K, kc, rfl, hkc, hkm⟩ := hv.formI
 unfold maxLen at hkm
 have hpl := hc.2.2.2.1 p hc.1
 have hpw := hc.2.2.2.2.1
 have HCI := hid (fun W' (h : Below w.heap.size w W') => zdc (.slice K k.length kc) k W' w.heap.size (hv.below h))
 have hway : k.length ≠ W \/ (k.length = W /\ (!(k.all zc9)) = true) := by
  rw [zh7] at hk
  by_cases h : k.length = W
  ·rw [decide_eq_true h, Bool.true_and] at hk
   exact .inr ⟨h, by rw [hk]; rfl⟩
  ·exact .inl h
 clear hc hv hk
 go_enter Tryz.func97, Tryz.ntmps97
 obtain ⟨W0, hW0⟩ : ∃ W', W' = (w.alloc (.cells #[.int .i64 0, .int .i64 0, .int .i64 0] 149)).alloc (.cells #[.int .i64 0, .int .i64 0, .int .i64 0] 149) := ⟨_, rfl⟩
 have hb0 : Below w.heap.size w W0 := by rw [hW0]; exact zI
 have hs0 : W0.heap.size = w.heap.size + 1 + 1 := by rw [hW0]; simp
 have hr : ∀ i, i < 3 -> W0.cell? ⟨w.heap.size, i, none⟩ = some (.int .i64 0) /\ W0.frozen? ⟨w.heap.size, i, none⟩ = false /\ W0.cell? ⟨w.heap.size + 1, i, none⟩ = some (.int .i64 0) /\ W0.frozen? ⟨w.heap.size + 1, i, none⟩ = false := by
  intro i hi
  rw [hW0]
  obtain rfl | rfl | rfl : i = 0 \/ i = 1 \/ i = 2 := by omega
  all_goals simp [go_sem]
 have HW0 := hid hW0; have HB0 := hid hb0; have HR := hid hr
 clear hW0 hb0 hr
 rcases hway with hl | ⟨hl, hall⟩
 ·have t0 : ((k.length : Int) != (W : Int)) = true := by rw [bne_iff_ne]; omega
  have t1 : (k.length != W) = true := by simpa using hl
  clear hl
  have HBL := hid (fun v0 v1 v2 => HB0.out.trans ((((Upd.setCell w.heap.size 0 W0 v0).trans (Upd.setCell w.heap.size 1 _ v1)).trans (Upd.setCell w.heap.size 2 _ v2)).below (Nat.le_refl _) (by omega)))
  rw [HW0.out] at HBL
  go_wp2
  exact bodyPost_ret (v := .tuple #[keyT [], .bool false]) (by simp [results, Tryz.results97, go_sem, keyT, keyV]; done) rfl ⟨rfl, zI⟩
 ·rw [hall] at HCI
  have t0 : ((k.length : Int) != (W : Int)) = false := by simp [hl]
  have t1 : (k.length != W) = false := by simp [hl]
  clear hl hall
  go_wp2_with fail
  rw [<- HW0.out]
  refine (HCI.out _ HB0.out).mono ?_
  rintro e w1 ⟨rfl, n1, rfl⟩
  have HBL := hid (fun v0 v1 v2 => (zn HB0.out n1).trans ((((Upd.setCell w.heap.size 0 (W0.drewN n1) v0).trans (Upd.setCell w.heap.size 1 _ v1)).trans (Upd.setCell w.heap.size 2 _ v2)).below (Nat.le_refl _) (show w.heap.size < W0.heap.size by omega)))
  obtain ⟨r0, f0, c0, -⟩ := HR.out 0 (by omega)
  obtain ⟨r1, f1, c1, -⟩ := HR.out 1 (by omega)
  obtain ⟨r2, f2, c2, -⟩ := HR.out 2 (by omega)
  go_wp2
  exact bodyPost_ret (v := .tuple #[keyT [], .bool false]) (by simp [results, Tryz.results97, go_sem, keyT, keyV, r0, r1, r2]; done) rfl ⟨rfl, HBL.out _ _ _⟩
set_option maxRecDepth 100000 in
set_option maxHeartbeats 1600000 in
theorem zcg (v : Value) (c : zp) (w : World) (hv : zaZ w w.heap.size v c) (hl : c.s.length <= 1073741824 /\ c.lo.length <= 1073741824 /\ c.hi.length <= 1073741824) :
  Calls Tryz.prog 95 #[v] w (zg2 c w) := by
 obtain ⟨v1, v2, v3, rfl, s1, s2, s3⟩ := hv
 have HC1 := hid (fun W (h : Below w.heap.size w W) => zbd v1 c.s W ((s1.below h).more h.size) hl.1)
 have HC2 := hid (fun W (h : Below w.heap.size w W) => zbd v2 c.lo W ((s2.below h).more h.size) hl.2.1)
 have HC3 := hid (fun W (h : Below w.heap.size w W) => zbd v3 c.hi W ((s3.below h).more h.size) hl.2.2)
 obtain ⟨A1, c1, rfl, -, -⟩ := s1.formI
 obtain ⟨A2, c2, rfl, -, -⟩ := s2.formI
 obtain ⟨A3, c3, rfl, -, -⟩ := s3.formI
 clear s1 s2 s3 hl
 go_enter Tryz.func95, Tryz.ntmps95
 obtain ⟨W0, hW0⟩ : ∃ W, W = (w.alloc (.cells #[.int .i64 c.n, .slice A1 c.s.length c1, .slice A2 c.lo.length c2, .slice A3 c.hi.length c3] 125)).alloc (.cells #[.int .i64 0, .slice none 0 0, .slice none 0 0, .slice none 0 0] 125) := ⟨_, rfl⟩
 have hb0 : Below w.heap.size w W0 := by rw [hW0]; exact zI
 have hs0 : W0.heap.size = w.heap.size + 1 + 1 := by rw [hW0]; simp
 have ba : Blk W0 w.heap.size (.int .i64 c.n) (.slice A1 c.s.length c1) (.slice A2 c.lo.length c2) (.slice A3 c.hi.length c3) := by rw [hW0]; exact (Blk.new _ _ _ _ _ _).alloc (by simp only [World.size_alloc]; omega) _
 have br : Blk W0 (w.heap.size + 1) (.int .i64 0) (.slice none 0 0) (.slice none 0 0) (.slice none 0 0) := by rw [hW0]; exact Blk.new' _ _ _ _ _ (by simp)
 go_wp2
 rw [<- hW0]
 have HB0 := hid hb0; have BA := hid ba; have BR := hid br; have HS0 := hid hs0
 obtain ⟨p0, p1, p2, p3, -, -, -, -⟩ := ba
 clear hW0 hb0 br hs0
 go_region_held3 (fun w' => w'.cell? ⟨w.heap.size, 0, none⟩ = some (.int .i64 c.n) /\ w'.cell? ⟨w.heap.size, 1, none⟩ = some (.slice A1 c.s.length c1) /\ w'.cell? ⟨w.heap.size, 2, none⟩ = some (.slice A2 c.lo.length c2) /\ w'.cell? ⟨w.heap.size, 3, none⟩ = some (.slice A3 c.hi.length c3)) (go_keep)
  (first
   | (go_at_call_of 34 (Value.slice A1 c.s.length c1); refine (HC1.out _ HB0.out.drew).mono ?_; rintro e w1 ⟨y1, rfl, ho1, hb1⟩; obtain ⟨a1, d1, rfl, -, -, -⟩ := zl ho1; have B1 := hid ((Below.refl W0.heap.size W0).drew.trans hb1); have O1 := hid ho1; have A1' := hid (BA.out.below B1.out (by have := HS0.out; omega)); obtain ⟨p4, p5, p6, p7, -, -, -, -⟩ := A1'.out; clear ho1 hb1)
   | (go_at_call_of 34 (Value.slice A2 c.lo.length c2); refine (HC2.out _ (HB0.out.trans (B1.out.mono (by have := HS0.out; omega)))).mono ?_; rintro e w2 ⟨y2, rfl, ho2, hb2⟩; obtain ⟨a2, d2, rfl, -, -, -⟩ := zl ho2; have B2 := hid hb2; have O2 := hid ho2; have A2' := hid (A1'.out.below hb2 (by have := HS0.out; have := B1.out.size; omega)); obtain ⟨p8, p9, p10, p11, -, -, -, -⟩ := A2'.out; clear ho2 hb2)
   | (go_at_call_of 34 (Value.slice A3 c.hi.length c3); refine (HC3.out _ ((HB0.out.trans (B1.out.mono (by have := HS0.out; omega))).trans (B2.out.mono (by have := HS0.out; have := B1.out.size; omega)))).mono ?_; rintro e w3 ⟨y3, rfl, ho3, hb3⟩; obtain ⟨a3, d3, rfl, -, -, -⟩ := zl ho3; have B3 := hid hb3; have O3 := hid ho3; have A3' := hid (A2'.out.below hb3 (by have := HS0.out; have := B1.out.size; have := B2.out.size; omega)); obtain ⟨p12, p13, p14, p15, -, -, -, -⟩ := A3'.out; have BR3 := hid (((BR.out.below B1.out (by have := HS0.out; omega)).below B2.out (by have := HS0.out; have := B1.out.size; omega)).below hb3 (by have := HS0.out; have := B1.out.size; have := B2.out.size; omega)); obtain ⟨r0, r1, r2, r3, f0, f1, f2, f3⟩ := BR3.out; clear ho3 hb3))
 go_wp2
 have hz1 := B1.out.size
 have hz2 := B2.out.size
 have hz3 := B3.out.size
 have hz0 := HS0.out
 have hu := upd4 (w.heap.size + 1) w3 (.int .i64 c.n) (.slice a1 c.s.length d1) (.slice a2 c.lo.length d2) (.slice a3 c.hi.length d3)
 have k1 := zcf (zcq O1.out (B2.out.trans (B3.out.mono hz2)) (H' := w.heap.size + 1 + 1) (by simp only [World.size_drew]; omega)) hu (by omega) (H' := w.heap.size) (by omega)
 have k2 := zcf (zcq O2.out B3.out (H' := w.heap.size + 1 + 1) (by omega)) hu (by omega) (H' := w.heap.size) (by omega)
 have k3 := zcf (zcq O3.out (Below.refl _ _) (H' := w.heap.size + 1 + 1) (by omega)) hu (by omega) (H' := w.heap.size) (by omega)
 have hbel : Below w.heap.size w _ := (HB0.out.trans ((B1.out.mono (by omega)).trans ((B2.out.mono (by omega)).trans (B3.out.mono (by omega))))).trans (hu.below (by omega) (by omega))
 have K1 := hid k1; have K2 := hid k2; have K3 := hid k3; have HBE := hid hbel
 have N1 : Hid (∀ g, (Value.slice a1 c.s.length d1).ownBlock = some g -> (Value.slice a2 c.lo.length d2).ownBlock ≠ some g /\ (Value.slice a3 c.hi.length d3).ownBlock ≠ some g) := hid (fun g hg => ⟨fun h => by have := O1.out.lt g hg; have := O2.out.lt g h; omega, fun h => by have := O1.out.lt g hg; have := O3.out.lt g h; omega⟩)
 have N2 : Hid (∀ g, (Value.slice a2 c.lo.length d2).ownBlock = some g -> (Value.slice a3 c.hi.length d3).ownBlock ≠ some g) := hid (fun g hg h => by have := O2.out.lt g hg; have := O3.out.lt g h; omega)
 exact bodyPost_ret (v := .agg #[.int .i64 c.n, .slice a1 c.s.length d1, .slice a2 c.lo.length d2, .slice a3 c.hi.length d3]) (by simp [results, Tryz.results95, go_sem, r0, r1, r2, r3]; done) rfl ⟨_, rfl, ⟨_, _, _, rfl, K1.out, K2.out, K3.out, N1.out, N2.out⟩, HBE.out⟩
theorem zof {w : World} {E : Nat -> Prop} {B : Nat} {v : Value} {c : zp} (h : zb5 w.drew E v c) (hE : ∀ i, E i -> i < B) : zaZ w B v c := by
 obtain ⟨v1, v2, v3, e, h1, h2, h3⟩ := h
 have q : ∀ {v : Value} {l : List Int}, SlE w.drew E v (zk l) -> Sl w B v (zk l) := fun hh => by
  obtain ⟨A, c, e, a1, a2, a3⟩ := hh
  refine ⟨A, c, e, a1, a2, fun h0 => ?_⟩
  obtain ⟨b, off, e2, hb, hc⟩ := a3 h0
  exact ⟨b, off, e2, hE b hb, hc⟩
 exact ⟨v1, v2, v3, e, q h1, q h2, q h3⟩
theorem zaZ.back {w w' : World} {B : Nat} {v : Value} {c : zp} (h : zaZ w' B v c) (hb : ∀ i, i < B -> w'.heap[i]? = w.heap[i]?) : zaZ w B v c := by
 obtain ⟨v1, v2, v3, e, h1, h2, h3⟩ := h
 have q : ∀ {v : Value} {l : List Int}, Sl w' B v (zk l) -> Sl w B v (zk l) := fun hh => by
  obtain ⟨A, c, e, a1, a2, a3⟩ := hh
  refine ⟨A, c, e, a1, a2, fun h0 => ?_⟩
  obtain ⟨b, off, e2, hlt, hc⟩ := a3 h0
  exact ⟨b, off, e2, hlt, fun j u hu => (World.cell?_of_block (a := ⟨b, off + j, none⟩) (hb b hlt)).symm.trans (hc j u hu)⟩
 exact ⟨v1, v2, v3, e, q h1, q h2, q h3⟩
def zrf (c : zp) (b : Bool) (w : World) (e : Ending) (w' : World) : Prop := ∃ v, e = .returned (.tuple #[v, .bool b]) /\ OwnC w' w.heap.size v c /\ Below w.heap.size w w'
theorem znW {W : Nat} {k : List Int} (h : okB W k = true) : okK W k := of_decide_eq_true h
set_option maxRecDepth 100000 in
set_option maxHeartbeats 3200000 in
theorem zpH (D : Nat -> Prop) (p m W M : Nat) (L : List KC) (v : Value) (k : List Int) (w : World) (hc : CubW w D p m W M L) (hs : OkL W M L) (hv : Sl w w.heap.size v (zk k)) (h1 : 1 <= W) (h3 : W <= 3) (hM : M <= 2) (hk : okB W k = true) :
  Calls Tryz.prog 70 #[.pointer (some ⟨p, 0, none⟩), v] w (zrf (getC L k) (getK L k).isSome w) := by
 obtain ⟨K, kc, rfl, hkc, hkm⟩ := hv.formI
 unfold maxLen at hkm
 have hpl := hc.2.2.2.1 p hc.1
 have hp2 := hc.2.2.2.2.2.2.1
 have hlen : (getC L k).s.length <= 2 /\ (getC L k).lo.length <= 2 /\ (getC L k).hi.length <= 2 := by
  unfold getC
  cases hg : getK L k with
  | none => simp [nilC]
  | some y =>
    have hm := (hs.may _ (zbh hg)).1
    have hl := hs.len _ (zbh hg)
    simp only [Option.getD_some] at *
    exact ⟨by omega, by have := hm.2.1; omega, by have := hm.2.2; omega⟩
 have HC := hid hc
 have HK := hid (fun W' (h : Below w.heap.size w W') => zkH D p m W M L (.slice K k.length kc) k W' (HC.out.below h) ((hv.below h).more h.size) h1 h3 hk)
 have HLK := hid (fun W' (h : Below w.heap.size w W') => (HC.out.below h).2.2.2.2.2.2.2.look (znW hk))
 have HLE := hid hlen
 clear hc hv hs hk hlen
 unfold keyT keyV at HK HLK
 generalize k.getD 0 0 = x0 at *
 generalize k.getD 1 0 = x1 at *
 generalize k.getD 2 0 = x2 at *
 generalize (getK L k).isSome = bs at *
 generalize getC L k = c at *
 go_enter Tryz.func70, Tryz.ntmps70
 obtain ⟨W0, hW0⟩ : ∃ W, W = w.alloc (.cells #[.int .i64 0, .slice none 0 0, .slice none 0 0, .slice none 0 0] 125) := ⟨_, rfl⟩
 have hb0 : Below w.heap.size w W0 := by rw [hW0]; exact bl1 _ _
 have hs0 : W0.heap.size = w.heap.size + 1 := by rw [hW0]; simp
 have br : Blk W0 w.heap.size (.int .i64 0) (.slice none 0 0) (.slice none 0 0) (.slice none 0 0) := by rw [hW0]; exact Blk.new _ _ _ _ _ _
 have HB0 := hid hb0; have BR := hid br; have HS0 := hid hs0; have HW0 := hid hW0
 clear hb0 br hs0 hW0
 go_wp2_with fail
 rw [<- HW0.out]
 refine (HK.out _ HB0.out).mono ?_
 rintro e w1 ⟨rfl, hb1⟩
 have hs1 := hb1.size
 have hz0 := HS0.out
 have HB1 := hid (HB0.out.trans (hb1.mono (by omega)))
 have BR1 := hid (BR.out.below hb1 (by omega))
 clear hb1
 obtain ⟨W2, hW2⟩ : ∃ W, W = w1.alloc (.cells #[.int .i64 x0, .int .i64 x1, .int .i64 x2] 149) := ⟨_, rfl⟩
 have hb2 : Below w1.heap.size w1 W2 := by rw [hW2]; exact bl1 _ _
 have HW2 := hid hW2
 have HB2 := hid (HB1.out.trans (hb2.mono (by omega)))
 have hsz2 : W2.heap.size = w1.heap.size + 1 := by rw [hW2]; simp
 have hkz : w1.heap.size < W2.heap.size := by omega
 have hpz : p < W2.heap.size := by omega
 have HZ2 := hid hsz2
 clear hW2 hb2 hsz2
 obtain ⟨u, hrun, hce⟩ := HLK.out W2.drew HB2.out.drew
 obtain ⟨u', hrun', hce'⟩ := HLK.out ((W2.alloc (.cells #[.int .i64 0, .slice none 0 0, .slice none 0 0, .slice none 0 0] 125)).drew) ((HB2.out.alloc HB2.out.size _).drew)
 obtain ⟨D1, d1, D2, d2, D3, d3, rfl⟩ := hce.lit
 obtain ⟨E1, e1, E2, e2, E3, e3, rfl⟩ := hce'.lit
 have hE := fun i (hi : D i /\ i ≠ m) => HC.out.2.2.2.1 i hi.1
 have hle := HLE.out
 have hz0' : w.heap.size <= W2.heap.size := HB2.out.size
 have hcd := zof hce hE
 have hce2 := (zof hce' hE)
 have HCD := hid (fun W' (h : Below W2.heap.size W2 W') => zcg (.agg #[.int .i64 c.n, .slice D1 c.s.length d1, .slice D2 c.lo.length d2, .slice D3 c.hi.length d3]) c W' ((hcd.below (h.mono hz0')).more (Nat.le_trans hz0' h.size)) (by omega))
 have hce3 : zaZ W2 w.heap.size (.agg #[.int .i64 c.n, .slice E1 c.s.length e1, .slice E2 c.lo.length e2, .slice E3 c.hi.length e3]) c := hce2.back (fun i hi => (bl1 W2 _).block i (by omega))
 have HCE := hid (fun W' (h : Below W2.heap.size W2 W') => zcg (.agg #[.int .i64 c.n, .slice E1 c.s.length e1, .slice E2 c.lo.length e2, .slice E3 c.hi.length e3]) c W' ((hce3.below (h.mono hz0')).more (Nat.le_trans hz0' h.size)) (by omega))
 clear hce' hcd hce2 hce3 hE hle
 have y2 : W2.cell? ⟨p, 2, none⟩ = _ := zc HB2.out hpl hp2
 have k0 : W2.cell? ⟨w1.heap.size, 0, none⟩ = some (.int .i64 x0) := by rw [HW2.out]; simp [go_sem]
 have k1 : W2.cell? ⟨w1.heap.size, 1, none⟩ = some (.int .i64 x1) := by rw [HW2.out]; simp [go_sem]
 have k2 : W2.cell? ⟨w1.heap.size, 2, none⟩ = some (.int .i64 x2) := by rw [HW2.out]; simp [go_sem]
 clear hce
 go_wp2
 rw [<- HW2.out]
 go_region
 go_wp2_with fail
 all_goals first
  | (with_reducible refine (HCD.out _ ((bl1 W2 _).drew)).mono ?_)
  | (with_reducible refine (HCE.out _ ((bl1 W2 _).drew)).mono ?_)
 all_goals
  rintro e w3 ⟨y, rfl, hoc, hb3⟩
  have hoc' := hoc
  obtain ⟨y1, y2', y3, rfl, ho1, ho2, ho3, -, -⟩ := hoc
  obtain ⟨F1, f1, rfl, -, -, -⟩ := zl ho1
  obtain ⟨F2, f2, rfl, -, -, -⟩ := zl ho2
  obtain ⟨F3, f3, rfl, -, -, -⟩ := zl ho3
  have hb3' := ((bl1 W2 _).drew).trans (hb3.mono (by show W2.heap.size <= (W2.alloc _).heap.size; simp))
  have hs3 := hb3'.size
  have hz2 := HZ2.out
  have HB3 := hid (HB2.out.trans (hb3'.mono HB2.out.size))
  have BR3 := hid (BR1.out.below ((show Below w1.heap.size w1 W2 by rw [HW2.out]; exact bl1 _ _).trans (hb3'.mono (by omega))) (by omega))
  have HO3 := hid (hoc'.le (H' := W2.heap.size) (by show W2.heap.size <= (W2.alloc _).heap.size; simp))
  have hso : w.heap.size < W2.heap.size := by omega
  clear ho1 ho2 ho3 hoc' hb3 hb3' y2 k0 k1 k2
  obtain ⟨r0, r1, r2, r3, g0, g1, g2, g3⟩ := BR3.out
  have HFI := hid (fun v0 v1 v2 v3 => (HO3.out.upd (upd4 w.heap.size w3 v0 v1 v2 v3) hso).le (H' := w.heap.size) (Nat.le_of_lt hso))
  have HBL := hid (fun v0 v1 v2 v3 => fin4 (b := w.heap.size) HB3.out (Nat.le_refl _) (by omega) v0 v1 v2 v3)
  go_wp2
  exact bodyPost_ret (v := .tuple #[.agg #[.int .i64 c.n, .slice F1 c.s.length f1, .slice F2 c.lo.length f2, .slice F3 c.hi.length f3], .bool bs]) (by simp [results, Tryz.results70, go_sem, r0, r1, r2, r3]; done) rfl ⟨_, rfl, HFI.out _ _ _ _, HBL.out _ _ _ _⟩
set_option maxRecDepth 100000 in
set_option maxHeartbeats 1600000 in
theorem zq0 (D : Nat -> Prop) (p m W M : Nat) (L : List KC) (v : Value) (k : List Int) (w : World) (hc : CubW w D p m W M L) (hv : Sl w w.heap.size v (zk k)) (hk : okB W k = false) :
  Calls Tryz.prog 70 #[.pointer (some ⟨p, 0, none⟩), v] w (zrf nilC false w) := by
 obtain ⟨K, kc, rfl, hkc, hkm⟩ := hv.formI
 unfold maxLen at hkm
 have HK := hid (fun W' (h : Below w.heap.size w W') => zor D p m W M L (.slice K k.length kc) k W' (hc.below h) ((hv.below h).more h.size) hk)
 clear hc hv hk
 go_enter Tryz.func70, Tryz.ntmps70
 obtain ⟨W0, hW0⟩ : ∃ W, W = w.alloc (.cells #[.int .i64 0, .slice none 0 0, .slice none 0 0, .slice none 0 0] 125) := ⟨_, rfl⟩
 have hb0 : Below w.heap.size w W0 := by rw [hW0]; exact bl1 _ _
 have hs0 : W0.heap.size = w.heap.size + 1 := by rw [hW0]; simp
 have br : Blk W0 w.heap.size (.int .i64 0) (.slice none 0 0) (.slice none 0 0) (.slice none 0 0) := by rw [hW0]; exact Blk.new _ _ _ _ _ _
 have HB0 := hid hb0; have BR := hid br; have HS0 := hid hs0; have HW0 := hid hW0
 clear hb0 br hs0 hW0
 go_wp2_with fail
 rw [<- HW0.out]
 refine (HK.out _ HB0.out).mono ?_
 rintro e w1 ⟨rfl, hb1⟩
 have hs1 := hb1.size
 have hz0 := HS0.out
 have HB1 := hid (HB0.out.trans (hb1.mono (by omega)))
 have BR1 := hid (BR.out.below hb1 (by omega))
 clear hb1
 unfold keyT keyV
 have HB2 := hid (HB1.out.trans ((bl1 w1 (.cells #[.int .i64 (([] : List Int).getD 0 0), .int .i64 (([] : List Int).getD 1 0), .int .i64 (([] : List Int).getD 2 0)] 149)).mono (by omega)))
 have BR2 := hid (BR1.out.alloc (by omega) (.cells #[.int .i64 (([] : List Int).getD 0 0), .int .i64 (([] : List Int).getD 1 0), .int .i64 (([] : List Int).getD 2 0)] 149))
 have HBL := hid (fun v0 v1 v2 v3 => fin4 (b := w.heap.size) HB1.out (Nat.le_refl _) (by omega) v0 v1 v2 v3)
 obtain ⟨r0, r1, r2, r3, g0, g1, g2, g3⟩ := BR1.out
 have hlt : w.heap.size < w1.heap.size := by omega
 go_wp2
 exact bodyPost_ret (v := .tuple #[.agg #[.int .i64 0, .slice none 0 0, .slice none 0 0, .slice none 0 0], .bool false]) (by simp [results, Tryz.results70, go_sem, r0, r1, r2, r3, hlt]; done) rfl ⟨_, rfl, OwnC.nil_ _ _, (HBL.out _ _ _ _).alloc (by simp [World.setCell]; omega) _⟩
theorem CubW.store {w W' : World} {D : Nat -> Prop} {p m W M H : Nat} {L : List KC} {k : List Int} {v : Value} {c : zp} (h : CubW w D p m W M L) (hs : OkL W M L) (hW : W <= 3) (hL : L.length <= 70000) (hk : okK W k) (hb : Below w.heap.size w W') (ho : OwnC W' H v c) (hH : w.heap.size <= H) :
  ∃ w6, (Instr.mapUpdate 102 (.map (some m)) (keyT k) v).run Tryz.prog W' = .ok () w6 /\ CubW w6 (fun i => D i \/ (w.heap.size <= i /\ i < W'.heap.size)) p m W M (setK k c L) /\ Grow w D (fun i => D i \/ (w.heap.size <= i /\ i < W'.heap.size)) /\ Upd m w w6 /\ Upd m W' w6 := by
 obtain ⟨a1, a2, a3, a4, a5, a6, a7, a8⟩ := h.below hb
 have h4 := h.2.2.2.1
 have hsz := hb.size
 have hml := h4 m a2
 have hpl := h4 p a1
 have hmk := a8.mono (E' := fun i => (D i \/ (w.heap.size <= i /\ i < W'.heap.size)) /\ i ≠ m) (fun i hi => ⟨.inl hi.1, hi.2⟩)
 have hce := (zb5.of_own ho).mono (E' := fun i => (D i \/ (w.heap.size <= i /\ i < W'.heap.size)) /\ i ≠ m) (fun i hi => ⟨.inr ⟨by omega, hi.2⟩, by omega⟩)
 obtain ⟨w6, hrun, hm6, hu, hz, hf⟩ := hmk.store (fun x hx => hs.key x hx) hs.sort hW (by omega) (fun e => e.2 rfl) hk hce
 refine ⟨w6, hrun, ⟨.inl a1, .inl a2, a3, fun i hi => ?_, hu.cellAt (by omega) a3 a5, hu.cellAt (by omega) a3 a6, hu.cellAt (by omega) a3 a7, hm6⟩, ⟨fun i hi => .inl hi, fun i hi => hi.imp id (fun h => h.1)⟩, ((Upd.refl m w).new hb).trans hu, hu⟩
 rw [hz]
 rcases hi with hi | hi
 ·have := h4 i hi; omega
 ·exact hi.2
end Go.Proofs.YtgoapnkdcfcjgaaGreat
