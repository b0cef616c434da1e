/- 1 text of this claim, in build order. -/
import Derived.Test.YtgoapnkdcfcjgaaGreatPmlmbgadk
import Derived.Deep.Cut
import Derived.Deep.DeepCutAuto
set_option linter.unusedVariables false
set_option linter.unusedSimpArgs false
namespace Go.Proofs.YtgoapnkdcfcjgaaGreat
open Go.ChangeShapes Go.WideShapes Go.ChangeAt Go.RowKit Go.Maps
theorem zho {r : Nat} {w w' : World} (h : Below w.heap.size w w') : Upd r w w' := (Upd.refl r w).new h
def AddCP (D : Nat -> Prop) (p m W M : Nat) (r : List KC × Int) (w : World) (e : Ending) (w' : World) : Prop := ∃ D', e = .returned (.int .i64 r.2) /\ CubW w' D' p m W M r.1 /\ Grow w D D' /\ Upd m w w'
theorem zmA {D D' : Nat -> Prop} {p m W M : Nat} {r r' : List KC × Int} {w w' : World} {e : Ending} (h : r = r') (he : e = .returned (.int .i64 r'.2)) (h1 : CubW w' D' p m W M r'.1) (h2 : Grow w D D') (h3 : Upd m w w') : AddCP D p m W M r w e w' := by
 subst h; exact ⟨D', he, h1, h2, h3⟩
def LkC (w3 : World) (E : Nat -> Prop) (cc : zp) (bs : Bool) (s9 s10 : Value) (wx : World) : Prop :=
 ∃ (wy : World) (N : Nat) (A1 : Option Addr) (c1 : Nat) (A2 : Option Addr) (c2 : Nat) (A3 : Option Addr) (c3 : Nat), wy = wx /\ s9 = .pointer (some ⟨N, 0, none⟩) /\ s10 = .bool bs /\ w3.heap.size <= N /\ N < wy.heap.size /\ Blk wy N (.int .i64 cc.n) (.slice A1 cc.s.length c1) (.slice A2 cc.lo.length c2) (.slice A3 cc.hi.length c3) /\
  zb5 wy E (.agg #[.int .i64 cc.n, .slice A1 cc.s.length c1, .slice A2 cc.lo.length c2, .slice A3 cc.hi.length c3]) cc /\ Below w3.heap.size w3 wy
set_option maxRecDepth 100000 in
set_option maxHeartbeats 12800000 in
theorem zka (D : Nat -> Prop) (p m W M : Nat) (L : List KC) (v x : Value) (k : List Int) (c : zp) (w : World) (hc : CubW w D p m W M L) (hs : OkL W M L) (h1W : 1 <= W) (hW : W <= 3) (hM : M <= 2) (hL : L.length <= 70000) (hv : Sl w w.heap.size v (zk k)) (hx : zaZ w w.heap.size x c) (hgn : getK L k = none) :
  Calls Tryz.prog 73 #[.pointer (some ⟨p, 0, none⟩), v, x] w (AddCP D p m W M (addK W M L k c) w) := by
 have HGN := hid hgn
 clear hgn
 obtain ⟨K, kc, rfl, hkc, hkm⟩ := hv.formI
 unfold maxLen at hkm
 have hx' := hx
 obtain ⟨v1, v2, v3, rfl, s1, s2, s3⟩ := hx
 obtain ⟨A1, c1, rfl, hc1, hm1⟩ := s1.formI
 obtain ⟨A2, c2, rfl, -, -⟩ := s2.formI
 obtain ⟨A3, c3, rfl, -, -⟩ := s3.formI
 unfold maxLen at hm1
 have hpl := hc.2.2.2.1 p hc.1
 have hp1 := hc.2.2.2.2.2.1
 have hp2 := hc.2.2.2.2.2.2.1
 have HC := hid hc; have HX := hid hx'; have SV := hid hv; have HS := hid hs
 have HKY := hid (fun (h : okB W k = true) W' (hb : Below w.heap.size w W') => zkH D p m W M L (.slice K k.length kc) k W' (hc.below hb) ((hv.below hb).more hb.size) h1W hW h)
 have HKN := hid (fun (h : okB W k = false) W' (hb : Below w.heap.size w W') => zor D p m W M L (.slice K k.length kc) k W' (hc.below hb) ((hv.below hb).more hb.size) h)
 have hmy := fun W' (h : Below w.heap.size w W') => zi1 _ c W' ((hx'.below h).more h.size)
 have hways := zkj W M L k c
 have hmayp : mayC c = true -> MayP c := zaO.1
 have HMP := hid hmayp
 clear hmayp
 generalize mayC c = mb at *
 have HWY := hid hways; have HMY0 := hid hmy
 clear hx' hv hs hways hmy s1 s2 s3 hc
 go_enter Tryz.func73, Tryz.ntmps73
 obtain ⟨W0, hW0⟩ : ∃ W, W = w.alloc (.cells #[.int .i64 c.n, .slice A1 c.s.length c1, .slice A2 c.lo.length c2, .slice A3 c.hi.length c3] 125) := ⟨_, rfl⟩
 have hb0 : Below w.heap.size w W0 := by rw [hW0]; exact bl1 _ _
 have hs0 : W0.heap.size = w.heap.size + 1 := by rw [hW0]; simp
 have br : Blk W0 w.heap.size (.int .i64 c.n) (.slice A1 c.s.length c1) (.slice A2 c.lo.length c2) (.slice A3 c.hi.length c3) := by rw [hW0]; exact Blk.new _ _ _ _ _ _
 have HB0 := hid hb0; have BR := hid br; have HS0 := hid hs0; have HW0 := hid hW0
 clear hb0 br hs0 hW0
 cases hob : okB W k
 ·have hres : addK W M L k c = (L, 1) := by
   rcases HWY.out with ⟨h, -⟩ | ⟨h, -⟩
   ·exact h
   ·rw [hob] at h; cases h
  have HRS := hid hres
  have HK := hid (HKN.out hob)
  clear hres hob
  go_wp2_with fail
  rw [<- HW0.out]
  refine (HK.out _ HB0.out).mono ?_
  rintro e w1 ⟨rfl, hb1⟩
  have hz0 := HS0.out
  have HB1 := hid (HB0.out.trans (hb1.mono (by omega)))
  clear hb1
  unfold keyT keyV
  have HB3 := hid (HB1.out.trans ((bl1 w1 (.cells #[.int .i64 0, .int .i64 0, .int .i64 0] 149)).mono HB1.out.size))
  go_wp2
  go_quiet (fail)
  go_wp2
  go_ret
  exact zmA HRS.out rfl ((HC.out.below HB3.out).below (zn (Below.refl _ _) _)) (Grow.refl _ _) (zho (zn HB3.out _))
 ·have HK := hid (HKY.out hob)
  have HOK := hid hob
  unfold keyT keyV at HK
  clear hob
  generalize hx0 : k.getD 0 0 = x0 at *
  generalize hx1 : k.getD 1 0 = x1 at *
  generalize hx2 : k.getD 2 0 = x2 at *
  have HX0 := hid hx0; have HX1 := hid hx1; have HX2 := hid hx2
  clear hx0 hx1 hx2
  go_wp2_with fail
  rw [<- HW0.out]
  refine (HK.out _ HB0.out).mono ?_
  rintro e w1 ⟨rfl, hb1⟩
  have hz0 := HS0.out
  have hs1 := hb1.size
  have HB1 := hid (HB0.out.trans (hb1.mono (by omega)))
  have BR1 := hid (BR.out.below hb1 (by omega))
  clear hb1
  obtain ⟨w2, hw2⟩ : ∃ W, W = w1.alloc (.cells #[.int .i64 x0, .int .i64 x1, .int .i64 x2] 149) := ⟨_, rfl⟩
  have hb2 : Below w1.heap.size w1 w2 := by rw [hw2]; exact bl1 _ _
  have hs2 : w2.heap.size = w1.heap.size + 1 := by rw [hw2]; simp
  have HW2 := hid hw2
  have HB2 := hid (HB1.out.trans (hb2.mono (by omega)))
  have BR2 := hid (BR1.out.below hb2 (by omega))
  obtain ⟨p0, p1, p2, p3, f0, f1, f2, f3⟩ := BR2.out
  have y1 : w2.cell? ⟨p, 1, none⟩ = _ := zc HB2.out hpl hp1
  have HMY := hid (fun W' (h : Below w2.heap.size w2 W') => HMY0.out W' (HB2.out.trans (h.mono HB2.out.size)))
  clear hw2 hb2
  go_wp2
  rw [<- HW2.out]
  rcases HWY.out with ⟨hres, hway⟩ | ⟨-, rfl, hcn, hcl, hway⟩
  ·have HRS := hid hres
   have hway' : mb = false \/ (mb = true /\ ((c.n == 0) = true \/ ((c.n == 0) = false /\ c.s.length ≠ M))) := by
    rcases hway with h | ⟨-, h2⟩ | ⟨-, h2, h3⟩ | ⟨-, h2, h3, h4⟩
    ·rw [HOK.out] at h; cases h
    ·exact .inl h2
    ·exact .inr ⟨h2, .inl h3⟩
    ·exact .inr ⟨h2, .inr ⟨h3, h4⟩⟩
   clear hway hres
   rcases hway' with rfl | ⟨rfl, hz | ⟨hz, hne⟩⟩
   ·have HMYb := hid (show ∀ W', Below w2.heap.size w2 W' -> Calls Tryz.prog 105 #[.agg #[.int .i64 c.n, .slice A1 c.s.length c1, .slice A2 c.lo.length c2, .slice A3 c.hi.length c3]] W' (zY (.bool false) W') from HMY.out)
    refine wp_region_noPanic ?_
    refine wp_region_held_drew (S := (fun w' => w'.cell? ⟨w.heap.size, 0, none⟩ = some (.int .i64 c.n) /\ w'.cell? ⟨w.heap.size, 1, none⟩ = some (.slice A1 c.s.length c1) /\ w'.cell? ⟨w.heap.size, 2, none⟩ = some (.slice A2 c.lo.length c2) /\ w'.cell? ⟨w.heap.size, 3, none⟩ = some (.slice A3 c.hi.length c3) /\ w'.cell? ⟨p, 1, none⟩ = some (.int .i64 M))) (by kernel_rfl) ?_ (fun hHeld => ?_)
    ·exact ⟨p0, p1, p2, p3, y1⟩
    refine' wpAnyH_take (i := 0) (oi := _) (v := _) ?h1a0 ?h2a0 ?h3a0 ?h4a0 ?h5a0 ?h6a0 (by assumption) ?h8a0
    case h1a0 => (set_option linter.unusedSimpArgs false in simp only [List.getElem?_toArray, List.getElem?_cons_zero, List.getElem?_cons_succ]; rfl)
    case h2a0 => kernel_rfl
    case h3a0 => kernel_rfl
    case h4a0 => kernel_rfl
    case h5a0 => exact fun _ _ _ h => False.elim h
    case h6a0 => (refine Or.inl ⟨by rfl, ?_⟩; intro w hSw; (try dsimp only at hSw); go_simp; (try with_reducible rfl))
    try simp only [Act.put, List.setIfInBounds_toArray, List.set_cons_zero, List.set_cons_succ]
    refine' wpAnyH_take (i := 1) (oi := _) (v := _) ?h1a1 ?h2a1 ?h3a1 ?h4a1 ?h5a1 ?h6a1 (by assumption) ?h8a1
    case h1a1 => (set_option linter.unusedSimpArgs false in simp only [List.getElem?_toArray, List.getElem?_cons_zero, List.getElem?_cons_succ]; rfl)
    case h2a1 => kernel_rfl
    case h3a1 => kernel_rfl
    case h4a1 => kernel_rfl
    case h5a1 => exact fun _ _ _ h => False.elim h
    case h6a1 => (refine Or.inl ⟨by rfl, ?_⟩; intro w hSw; (try dsimp only at hSw); go_simp; (try with_reducible rfl))
    try simp only [Act.put, List.setIfInBounds_toArray, List.set_cons_zero, List.set_cons_succ]
    refine' wpAnyH_take (i := 2) (oi := _) (v := _) ?h1a2 ?h2a2 ?h3a2 ?h4a2 ?h5a2 ?h6a2 (by assumption) ?h8a2
    case h1a2 => (set_option linter.unusedSimpArgs false in simp only [List.getElem?_toArray, List.getElem?_cons_zero, List.getElem?_cons_succ]; rfl)
    case h2a2 => kernel_rfl
    case h3a2 => kernel_rfl
    case h4a2 => kernel_rfl
    case h5a2 => exact fun _ _ _ h => False.elim h
    case h6a2 => (refine Or.inl ⟨by rfl, ?_⟩; intro w hSw; (try dsimp only at hSw); go_simp; (try with_reducible rfl))
    try simp only [Act.put, List.setIfInBounds_toArray, List.set_cons_zero, List.set_cons_succ]
    refine' wpAnyH_take (i := 3) (oi := _) (v := _) ?h1a3 ?h2a3 ?h3a3 ?h4a3 ?h5a3 ?h6a3 (by assumption) ?h8a3
    case h1a3 => (set_option linter.unusedSimpArgs false in simp only [List.getElem?_toArray, List.getElem?_cons_zero, List.getElem?_cons_succ]; rfl)
    case h2a3 => kernel_rfl
    case h3a3 => kernel_rfl
    case h4a3 => kernel_rfl
    case h5a3 => exact fun _ _ _ h => False.elim h
    case h6a3 => (refine Or.inl ⟨by rfl, ?_⟩; intro w hSw; (try dsimp only at hSw); go_simp; (try with_reducible rfl))
    try simp only [Act.put, List.setIfInBounds_toArray, List.set_cons_zero, List.set_cons_succ]
    refine wpAnyH_ready (rs := [4]) (by kernel_rfl) (by simp) ?_
    refine AllReadyH.cons rfl (fun K hK => ?_) AllReadyH.nil
    go_simp
    (with_reducible refine (HMYb.out _ (Below.refl _ _).drew).mono ?_); rintro e w3 ⟨rfl, hb3⟩; have hb3 : Below w2.heap.size w2 w3 := (Below.refl _ _).drew.trans hb3; have HB3 := hid (HB2.out.trans (hb3.mono HB2.out.size)); have p0 := zc hb3 (by omega) p0; have p1 := zc hb3 (by omega) p1; have p2 := zc hb3 (by omega) p2; have p3 := zc hb3 (by omega) p3; have y1 := zc hb3 (by omega) y1; have HW3 := hid hb3; clear hb3
    refine hK.out _ _ ?_ (fun hHeld => ?_)
    ·exact ⟨p0, p1, p2, p3, y1⟩
    clear hK K
    try simp only [Act.put, List.setIfInBounds_toArray, List.set_cons_zero, List.set_cons_succ]
    refine' wpAnyH_take (i := 5) (oi := _) (v := _) ?h1a5 ?h2a5 ?h3a5 ?h4a5 ?h5a5 ?h6a5 (by assumption) ?h8a5
    case h1a5 => (set_option linter.unusedSimpArgs false in simp only [List.getElem?_toArray, List.getElem?_cons_zero, List.getElem?_cons_succ]; rfl)
    case h2a5 => kernel_rfl
    case h3a5 => kernel_rfl
    case h4a5 => kernel_rfl
    case h5a5 => exact fun _ _ _ h => False.elim h
    case h6a5 => (refine Or.inl ⟨by rfl, ?_⟩; intro w hSw; (try dsimp only at hSw); go_simp; (try with_reducible rfl))
    try simp only [Act.put, List.setIfInBounds_toArray, List.set_cons_zero, List.set_cons_succ]
    refine' wpAnyH_take (i := 6) (oi := _) (v := _) ?h1a6 ?h2a6 ?h3a6 ?h4a6 ?h5a6 ?h6a6 (by assumption) ?h8a6
    case h1a6 => (set_option linter.unusedSimpArgs false in simp only [List.getElem?_toArray, List.getElem?_cons_zero, List.getElem?_cons_succ]; rfl)
    case h2a6 => kernel_rfl
    case h3a6 => kernel_rfl
    case h4a6 => kernel_rfl
    case h5a6 => exact fun _ _ _ h => False.elim h
    case h6a6 => (refine Or.inl ⟨by rfl, ?_⟩; intro w hSw; (try dsimp only at hSw); go_simp; (try with_reducible rfl))
    try simp only [Act.put, List.setIfInBounds_toArray, List.set_cons_zero, List.set_cons_succ]
    refine' wpAnyH_take (i := 7) (oi := _) (v := _) ?h1a7 ?h2a7 ?h3a7 ?h4a7 ?h5a7 ?h6a7 (by assumption) ?h8a7
    case h1a7 => (set_option linter.unusedSimpArgs false in simp only [List.getElem?_toArray, List.getElem?_cons_zero, List.getElem?_cons_succ]; rfl)
    case h2a7 => kernel_rfl
    case h3a7 => kernel_rfl
    case h4a7 => kernel_rfl
    case h5a7 => exact fun _ _ _ h => False.elim h
    case h6a7 => (refine Or.inl ⟨by rfl, ?_⟩; intro w hSw; (try dsimp only at hSw); go_simp; (try with_reducible rfl))
    try simp only [Act.put, List.setIfInBounds_toArray, List.set_cons_zero, List.set_cons_succ]
    refine' wpAnyH_take (i := 8) (oi := _) (v := undef) ?h1a8 ?h2a8 ?h3a8 ?h4a8 ?h5a8 ?h6a8 (by assumption) ?h8a8
    case h1a8 => (set_option linter.unusedSimpArgs false in simp only [List.getElem?_toArray, List.getElem?_cons_zero, List.getElem?_cons_succ]; rfl)
    case h2a8 => kernel_rfl
    case h3a8 => kernel_rfl
    case h4a8 => kernel_rfl
    case h5a8 => exact fun _ _ _ h => False.elim h
    case h6a8 => exact Or.inr ⟨by kernel_rfl, rfl⟩
    try simp only [Act.put, List.setIfInBounds_toArray, List.set_cons_zero, List.set_cons_succ]
    refine' wpAnyH_take (i := 9) (oi := _) (v := undef) ?h1a9 ?h2a9 ?h3a9 ?h4a9 ?h5a9 ?h6a9 (by assumption) ?h8a9
    case h1a9 => (set_option linter.unusedSimpArgs false in simp only [List.getElem?_toArray, List.getElem?_cons_zero, List.getElem?_cons_succ]; rfl)
    case h2a9 => kernel_rfl
    case h3a9 => kernel_rfl
    case h4a9 => kernel_rfl
    case h5a9 => exact fun _ _ _ h => False.elim h
    case h6a9 => exact Or.inr ⟨by kernel_rfl, rfl⟩
    try simp only [Act.put, List.setIfInBounds_toArray, List.set_cons_zero, List.set_cons_succ]
    refine' wpAnyH_take (i := 10) (oi := _) (v := undef) ?h1a10 ?h2a10 ?h3a10 ?h4a10 ?h5a10 ?h6a10 (by assumption) ?h8a10
    case h1a10 => (set_option linter.unusedSimpArgs false in simp only [List.getElem?_toArray, List.getElem?_cons_zero, List.getElem?_cons_succ]; rfl)
    case h2a10 => kernel_rfl
    case h3a10 => kernel_rfl
    case h4a10 => kernel_rfl
    case h5a10 => exact fun _ _ _ h => False.elim h
    case h6a10 => exact Or.inr ⟨by kernel_rfl, rfl⟩
    try simp only [Act.put, List.setIfInBounds_toArray, List.set_cons_zero, List.set_cons_succ]
    refine' wpAnyH_take (i := 11) (oi := _) (v := _) ?h1a11 ?h2a11 ?h3a11 ?h4a11 ?h5a11 ?h6a11 (by assumption) ?h8a11
    case h1a11 => (set_option linter.unusedSimpArgs false in simp only [List.getElem?_toArray, List.getElem?_cons_zero, List.getElem?_cons_succ]; rfl)
    case h2a11 => kernel_rfl
    case h3a11 => kernel_rfl
    case h4a11 => kernel_rfl
    case h5a11 => exact fun _ _ _ h => False.elim h
    case h6a11 => (refine Or.inl ⟨by rfl, ?_⟩; intro w hSw; (try dsimp only at hSw); go_simp; (try with_reducible rfl))
    try simp only [Act.put, List.setIfInBounds_toArray, List.set_cons_zero, List.set_cons_succ]
    refine' wpAnyH_take (i := 12) (oi := _) (v := _) ?h1a12 ?h2a12 ?h3a12 ?h4a12 ?h5a12 ?h6a12 (by assumption) ?h8a12
    case h1a12 => (set_option linter.unusedSimpArgs false in simp only [List.getElem?_toArray, List.getElem?_cons_zero, List.getElem?_cons_succ]; rfl)
    case h2a12 => kernel_rfl
    case h3a12 => kernel_rfl
    case h4a12 => kernel_rfl
    case h5a12 => exact fun _ _ _ h => False.elim h
    case h6a12 => (refine Or.inl ⟨by rfl, ?_⟩; intro w hSw; (try dsimp only at hSw); go_simp; (try with_reducible rfl))
    try simp only [Act.put, List.setIfInBounds_toArray, List.set_cons_zero, List.set_cons_succ]
    refine' wpAnyH_take (i := 13) (oi := _) (v := undef) ?h1a13 ?h2a13 ?h3a13 ?h4a13 ?h5a13 ?h6a13 (by assumption) ?h8a13
    case h1a13 => (set_option linter.unusedSimpArgs false in simp only [List.getElem?_toArray, List.getElem?_cons_zero, List.getElem?_cons_succ]; rfl)
    case h2a13 => kernel_rfl
    case h3a13 => kernel_rfl
    case h4a13 => kernel_rfl
    case h5a13 => exact fun _ _ _ h => False.elim h
    case h6a13 => exact Or.inr ⟨by kernel_rfl, rfl⟩
    try simp only [Act.put, List.setIfInBounds_toArray, List.set_cons_zero, List.set_cons_succ]
    refine' wpAnyH_take (i := 14) (oi := _) (v := undef) ?h1a14 ?h2a14 ?h3a14 ?h4a14 ?h5a14 ?h6a14 (by assumption) ?h8a14
    case h1a14 => (set_option linter.unusedSimpArgs false in simp only [List.getElem?_toArray, List.getElem?_cons_zero, List.getElem?_cons_succ]; rfl)
    case h2a14 => kernel_rfl
    case h3a14 => kernel_rfl
    case h4a14 => kernel_rfl
    case h5a14 => exact fun _ _ _ h => False.elim h
    case h6a14 => exact Or.inr ⟨by kernel_rfl, rfl⟩
    try simp only [Act.put, List.setIfInBounds_toArray, List.set_cons_zero, List.set_cons_succ]
    refine' wpAnyH_take (i := 15) (oi := _) (v := undef) ?h1a15 ?h2a15 ?h3a15 ?h4a15 ?h5a15 ?h6a15 (by assumption) ?h8a15
    case h1a15 => (set_option linter.unusedSimpArgs false in simp only [List.getElem?_toArray, List.getElem?_cons_zero, List.getElem?_cons_succ]; rfl)
    case h2a15 => kernel_rfl
    case h3a15 => kernel_rfl
    case h4a15 => kernel_rfl
    case h5a15 => exact fun _ _ _ h => False.elim h
    case h6a15 => exact Or.inr ⟨by kernel_rfl, rfl⟩
    try simp only [Act.put, List.setIfInBounds_toArray, List.set_cons_zero, List.set_cons_succ]
    refine' wpAnyH_take (i := 16) (oi := _) (v := undef) ?h1a16 ?h2a16 ?h3a16 ?h4a16 ?h5a16 ?h6a16 (by assumption) ?h8a16
    case h1a16 => (set_option linter.unusedSimpArgs false in simp only [List.getElem?_toArray, List.getElem?_cons_zero, List.getElem?_cons_succ]; rfl)
    case h2a16 => kernel_rfl
    case h3a16 => kernel_rfl
    case h4a16 => kernel_rfl
    case h5a16 => exact fun _ _ _ h => False.elim h
    case h6a16 => exact Or.inr ⟨by kernel_rfl, rfl⟩
    try simp only [Act.put, List.setIfInBounds_toArray, List.set_cons_zero, List.set_cons_succ]
    refine' wpAnyH_take (i := 17) (oi := _) (v := undef) ?h1a17 ?h2a17 ?h3a17 ?h4a17 ?h5a17 ?h6a17 (by assumption) ?h8a17
    case h1a17 => (set_option linter.unusedSimpArgs false in simp only [List.getElem?_toArray, List.getElem?_cons_zero, List.getElem?_cons_succ]; rfl)
    case h2a17 => kernel_rfl
    case h3a17 => kernel_rfl
    case h4a17 => kernel_rfl
    case h5a17 => exact fun _ _ _ h => False.elim h
    case h6a17 => exact Or.inr ⟨by kernel_rfl, rfl⟩
    try simp only [Act.put, List.setIfInBounds_toArray, List.set_cons_zero, List.set_cons_succ]
    refine' wpAnyH_take (i := 18) (oi := _) (v := undef) ?h1a18 ?h2a18 ?h3a18 ?h4a18 ?h5a18 ?h6a18 (by assumption) ?h8a18
    case h1a18 => (set_option linter.unusedSimpArgs false in simp only [List.getElem?_toArray, List.getElem?_cons_zero, List.getElem?_cons_succ]; rfl)
    case h2a18 => kernel_rfl
    case h3a18 => kernel_rfl
    case h4a18 => kernel_rfl
    case h5a18 => exact fun _ _ _ h => False.elim h
    case h6a18 => exact Or.inr ⟨by kernel_rfl, rfl⟩
    try simp only [Act.put, List.setIfInBounds_toArray, List.set_cons_zero, List.set_cons_succ]
    refine' wpAnyH_take (i := 19) (oi := _) (v := undef) ?h1a19 ?h2a19 ?h3a19 ?h4a19 ?h5a19 ?h6a19 (by assumption) ?h8a19
    case h1a19 => (set_option linter.unusedSimpArgs false in simp only [List.getElem?_toArray, List.getElem?_cons_zero, List.getElem?_cons_succ]; rfl)
    case h2a19 => kernel_rfl
    case h3a19 => kernel_rfl
    case h4a19 => kernel_rfl
    case h5a19 => exact fun _ _ _ h => False.elim h
    case h6a19 => exact Or.inr ⟨by kernel_rfl, rfl⟩
    try simp only [Act.put, List.setIfInBounds_toArray, List.set_cons_zero, List.set_cons_succ]
    refine' wpAnyH_take (i := 20) (oi := _) (v := undef) ?h1a20 ?h2a20 ?h3a20 ?h4a20 ?h5a20 ?h6a20 (by assumption) ?h8a20
    case h1a20 => (set_option linter.unusedSimpArgs false in simp only [List.getElem?_toArray, List.getElem?_cons_zero, List.getElem?_cons_succ]; rfl)
    case h2a20 => kernel_rfl
    case h3a20 => kernel_rfl
    case h4a20 => kernel_rfl
    case h5a20 => exact fun _ _ _ h => False.elim h
    case h6a20 => exact Or.inr ⟨by kernel_rfl, rfl⟩
    try simp only [Act.put, List.setIfInBounds_toArray, List.set_cons_zero, List.set_cons_succ]
    refine' wpAnyH_take (i := 21) (oi := _) (v := _) ?h1a21 ?h2a21 ?h3a21 ?h4a21 ?h5a21 ?h6a21 (by assumption) ?h8a21
    case h1a21 => (set_option linter.unusedSimpArgs false in simp only [List.getElem?_toArray, List.getElem?_cons_zero, List.getElem?_cons_succ]; rfl)
    case h2a21 => kernel_rfl
    case h3a21 => kernel_rfl
    case h4a21 => kernel_rfl
    case h5a21 => exact fun _ _ _ h => False.elim h
    case h6a21 => (refine Or.inl ⟨by rfl, ?_⟩; intro w hSw; (try dsimp only at hSw); go_simp; (try with_reducible rfl))
    try simp only [Act.put, List.setIfInBounds_toArray, List.set_cons_zero, List.set_cons_succ]
    refine wpAnyH_done (by kernel_rfl) ?_ _
    refine NoPanic.normal ?_
    go_wp2
    go_ret
    exact zmA HRS.out rfl (HC.out.below (HB3.out)) (Grow.refl _ _) (zho HB3.out)
   ·have HMYb := hid (show ∀ W', Below w2.heap.size w2 W' -> Calls Tryz.prog 105 #[.agg #[.int .i64 c.n, .slice A1 c.s.length c1, .slice A2 c.lo.length c2, .slice A3 c.hi.length c3]] W' (zY (.bool true) W') from HMY.out)
    refine wp_region_noPanic ?_
    refine wp_region_held_drew (S := (fun w' => w'.cell? ⟨w.heap.size, 0, none⟩ = some (.int .i64 c.n) /\ w'.cell? ⟨w.heap.size, 1, none⟩ = some (.slice A1 c.s.length c1) /\ w'.cell? ⟨w.heap.size, 2, none⟩ = some (.slice A2 c.lo.length c2) /\ w'.cell? ⟨w.heap.size, 3, none⟩ = some (.slice A3 c.hi.length c3) /\ w'.cell? ⟨p, 1, none⟩ = some (.int .i64 M))) (by kernel_rfl) ?_ (fun hHeld => ?_)
    ·exact ⟨p0, p1, p2, p3, y1⟩
    refine' wpAnyH_take (i := 0) (oi := _) (v := _) ?h1b0 ?h2b0 ?h3b0 ?h4b0 ?h5b0 ?h6b0 (by assumption) ?h8b0
    case h1b0 => (set_option linter.unusedSimpArgs false in simp only [List.getElem?_toArray, List.getElem?_cons_zero, List.getElem?_cons_succ]; rfl)
    case h2b0 => kernel_rfl
    case h3b0 => kernel_rfl
    case h4b0 => kernel_rfl
    case h5b0 => exact fun _ _ _ h => False.elim h
    case h6b0 => (refine Or.inl ⟨by rfl, ?_⟩; intro w hSw; (try dsimp only at hSw); go_simp; (try with_reducible rfl))
    try simp only [Act.put, List.setIfInBounds_toArray, List.set_cons_zero, List.set_cons_succ]
    refine' wpAnyH_take (i := 1) (oi := _) (v := _) ?h1b1 ?h2b1 ?h3b1 ?h4b1 ?h5b1 ?h6b1 (by assumption) ?h8b1
    case h1b1 => (set_option linter.unusedSimpArgs false in simp only [List.getElem?_toArray, List.getElem?_cons_zero, List.getElem?_cons_succ]; rfl)
    case h2b1 => kernel_rfl
    case h3b1 => kernel_rfl
    case h4b1 => kernel_rfl
    case h5b1 => exact fun _ _ _ h => False.elim h
    case h6b1 => (refine Or.inl ⟨by rfl, ?_⟩; intro w hSw; (try dsimp only at hSw); go_simp; (try with_reducible rfl))
    try simp only [Act.put, List.setIfInBounds_toArray, List.set_cons_zero, List.set_cons_succ]
    refine' wpAnyH_take (i := 2) (oi := _) (v := _) ?h1b2 ?h2b2 ?h3b2 ?h4b2 ?h5b2 ?h6b2 (by assumption) ?h8b2
    case h1b2 => (set_option linter.unusedSimpArgs false in simp only [List.getElem?_toArray, List.getElem?_cons_zero, List.getElem?_cons_succ]; rfl)
    case h2b2 => kernel_rfl
    case h3b2 => kernel_rfl
    case h4b2 => kernel_rfl
    case h5b2 => exact fun _ _ _ h => False.elim h
    case h6b2 => (refine Or.inl ⟨by rfl, ?_⟩; intro w hSw; (try dsimp only at hSw); go_simp; (try with_reducible rfl))
    try simp only [Act.put, List.setIfInBounds_toArray, List.set_cons_zero, List.set_cons_succ]
    refine' wpAnyH_take (i := 3) (oi := _) (v := _) ?h1b3 ?h2b3 ?h3b3 ?h4b3 ?h5b3 ?h6b3 (by assumption) ?h8b3
    case h1b3 => (set_option linter.unusedSimpArgs false in simp only [List.getElem?_toArray, List.getElem?_cons_zero, List.getElem?_cons_succ]; rfl)
    case h2b3 => kernel_rfl
    case h3b3 => kernel_rfl
    case h4b3 => kernel_rfl
    case h5b3 => exact fun _ _ _ h => False.elim h
    case h6b3 => (refine Or.inl ⟨by rfl, ?_⟩; intro w hSw; (try dsimp only at hSw); go_simp; (try with_reducible rfl))
    try simp only [Act.put, List.setIfInBounds_toArray, List.set_cons_zero, List.set_cons_succ]
    refine wpAnyH_ready (rs := [4]) (by kernel_rfl) (by simp) ?_
    refine AllReadyH.cons rfl (fun K hK => ?_) AllReadyH.nil
    go_simp
    (with_reducible refine (HMYb.out _ (Below.refl _ _).drew).mono ?_); rintro e w3 ⟨rfl, hb3⟩; have hb3 : Below w2.heap.size w2 w3 := (Below.refl _ _).drew.trans hb3; have HB3 := hid (HB2.out.trans (hb3.mono HB2.out.size)); have p0 := zc hb3 (by omega) p0; have p1 := zc hb3 (by omega) p1; have p2 := zc hb3 (by omega) p2; have p3 := zc hb3 (by omega) p3; have y1 := zc hb3 (by omega) y1; have HW3 := hid hb3; clear hb3
    refine hK.out _ _ ?_ (fun hHeld => ?_)
    ·exact ⟨p0, p1, p2, p3, y1⟩
    clear hK K
    try simp only [Act.put, List.setIfInBounds_toArray, List.set_cons_zero, List.set_cons_succ]
    refine' wpAnyH_take (i := 5) (oi := _) (v := _) ?h1b5 ?h2b5 ?h3b5 ?h4b5 ?h5b5 ?h6b5 (by assumption) ?h8b5
    case h1b5 => (set_option linter.unusedSimpArgs false in simp only [List.getElem?_toArray, List.getElem?_cons_zero, List.getElem?_cons_succ]; rfl)
    case h2b5 => kernel_rfl
    case h3b5 => kernel_rfl
    case h4b5 => kernel_rfl
    case h5b5 => exact fun _ _ _ h => False.elim h
    case h6b5 => (refine Or.inl ⟨by rfl, ?_⟩; intro w hSw; (try dsimp only at hSw); go_simp; (try with_reducible rfl))
    try simp only [Act.put, List.setIfInBounds_toArray, List.set_cons_zero, List.set_cons_succ]
    refine' wpAnyH_take (i := 6) (oi := _) (v := _) ?h1b6 ?h2b6 ?h3b6 ?h4b6 ?h5b6 ?h6b6 (by assumption) ?h8b6
    case h1b6 => (set_option linter.unusedSimpArgs false in simp only [List.getElem?_toArray, List.getElem?_cons_zero, List.getElem?_cons_succ]; rfl)
    case h2b6 => kernel_rfl
    case h3b6 => kernel_rfl
    case h4b6 => kernel_rfl
    case h5b6 => exact fun _ _ _ h => False.elim h
    case h6b6 => (refine Or.inl ⟨by rfl, ?_⟩; intro w hSw; (try dsimp only at hSw); go_simp; (try with_reducible rfl))
    try simp only [Act.put, List.setIfInBounds_toArray, List.set_cons_zero, List.set_cons_succ]
    refine' wpAnyH_take (i := 7) (oi := _) (v := _) ?h1b7 ?h2b7 ?h3b7 ?h4b7 ?h5b7 ?h6b7 (by assumption) ?h8b7
    case h1b7 => (set_option linter.unusedSimpArgs false in simp only [List.getElem?_toArray, List.getElem?_cons_zero, List.getElem?_cons_succ]; rfl)
    case h2b7 => kernel_rfl
    case h3b7 => kernel_rfl
    case h4b7 => kernel_rfl
    case h5b7 => exact fun _ _ _ h => False.elim h
    case h6b7 => (refine Or.inl ⟨by rfl, ?_⟩; intro w hSw; (try dsimp only at hSw); go_simp; (try with_reducible rfl))
    try simp only [Act.put, List.setIfInBounds_toArray, List.set_cons_zero, List.set_cons_succ]
    refine' wpAnyH_take (i := 8) (oi := _) (v := _) ?h1b8 ?h2b8 ?h3b8 ?h4b8 ?h5b8 ?h6b8 (by assumption) ?h8b8
    case h1b8 => (set_option linter.unusedSimpArgs false in simp only [List.getElem?_toArray, List.getElem?_cons_zero, List.getElem?_cons_succ]; rfl)
    case h2b8 => kernel_rfl
    case h3b8 => kernel_rfl
    case h4b8 => kernel_rfl
    case h5b8 => exact fun _ _ _ h => False.elim h
    case h6b8 => (refine Or.inl ⟨by rfl, ?_⟩; intro w hSw; (try dsimp only at hSw); go_simp; (try with_reducible rfl))
    try simp only [Act.put, List.setIfInBounds_toArray, List.set_cons_zero, List.set_cons_succ]
    refine' wpAnyH_take (i := 9) (oi := _) (v := _) ?h1b9 ?h2b9 ?h3b9 ?h4b9 ?h5b9 ?h6b9 (by assumption) ?h8b9
    case h1b9 => (set_option linter.unusedSimpArgs false in simp only [List.getElem?_toArray, List.getElem?_cons_zero, List.getElem?_cons_succ]; rfl)
    case h2b9 => kernel_rfl
    case h3b9 => kernel_rfl
    case h4b9 => kernel_rfl
    case h5b9 => exact fun _ _ _ h => False.elim h
    case h6b9 => (refine Or.inl ⟨by rfl, ?_⟩; intro w hSw; (try dsimp only at hSw); go_simp; (try with_reducible rfl))
    try simp only [Act.put, List.setIfInBounds_toArray, List.set_cons_zero, List.set_cons_succ]
    refine' wpAnyH_take (i := 10) (oi := _) (v := _) ?h1b10 ?h2b10 ?h3b10 ?h4b10 ?h5b10 ?h6b10 (by assumption) ?h8b10
    case h1b10 => (set_option linter.unusedSimpArgs false in simp only [List.getElem?_toArray, List.getElem?_cons_zero, List.getElem?_cons_succ]; rfl)
    case h2b10 => kernel_rfl
    case h3b10 => kernel_rfl
    case h4b10 => kernel_rfl
    case h5b10 => exact fun _ _ _ h => False.elim h
    case h6b10 => (refine Or.inl ⟨by rfl, ?_⟩; intro w hSw; (try dsimp only at hSw); go_simp; (try with_reducible rfl))
    try simp only [Act.put, List.setIfInBounds_toArray, List.set_cons_zero, List.set_cons_succ]
    refine' wpAnyH_take (i := 11) (oi := _) (v := _) ?h1b11 ?h2b11 ?h3b11 ?h4b11 ?h5b11 ?h6b11 (by assumption) ?h8b11
    case h1b11 => (set_option linter.unusedSimpArgs false in simp only [List.getElem?_toArray, List.getElem?_cons_zero, List.getElem?_cons_succ]; rfl)
    case h2b11 => kernel_rfl
    case h3b11 => kernel_rfl
    case h4b11 => kernel_rfl
    case h5b11 => exact fun _ _ _ h => False.elim h
    case h6b11 => (refine Or.inl ⟨by rfl, ?_⟩; intro w hSw; (try dsimp only at hSw); go_simp; (try with_reducible rfl))
    try simp only [Act.put, List.setIfInBounds_toArray, List.set_cons_zero, List.set_cons_succ]
    refine' wpAnyH_take (i := 12) (oi := _) (v := _) ?h1b12 ?h2b12 ?h3b12 ?h4b12 ?h5b12 ?h6b12 (by assumption) ?h8b12
    case h1b12 => (set_option linter.unusedSimpArgs false in simp only [List.getElem?_toArray, List.getElem?_cons_zero, List.getElem?_cons_succ]; rfl)
    case h2b12 => kernel_rfl
    case h3b12 => kernel_rfl
    case h4b12 => kernel_rfl
    case h5b12 => exact fun _ _ _ h => False.elim h
    case h6b12 => (refine Or.inl ⟨by rfl, ?_⟩; intro w hSw; (try dsimp only at hSw); go_simp; (try with_reducible rfl))
    try simp only [Act.put, List.setIfInBounds_toArray, List.set_cons_zero, List.set_cons_succ]
    refine' wpAnyH_take (i := 13) (oi := _) (v := undef) ?h1b13 ?h2b13 ?h3b13 ?h4b13 ?h5b13 ?h6b13 (by assumption) ?h8b13
    case h1b13 => (set_option linter.unusedSimpArgs false in simp only [List.getElem?_toArray, List.getElem?_cons_zero, List.getElem?_cons_succ]; rfl)
    case h2b13 => kernel_rfl
    case h3b13 => kernel_rfl
    case h4b13 => kernel_rfl
    case h5b13 => exact fun _ _ _ h => False.elim h
    case h6b13 => exact Or.inr ⟨by kernel_rfl, rfl⟩
    try simp only [Act.put, List.setIfInBounds_toArray, List.set_cons_zero, List.set_cons_succ]
    refine' wpAnyH_take (i := 14) (oi := _) (v := undef) ?h1b14 ?h2b14 ?h3b14 ?h4b14 ?h5b14 ?h6b14 (by assumption) ?h8b14
    case h1b14 => (set_option linter.unusedSimpArgs false in simp only [List.getElem?_toArray, List.getElem?_cons_zero, List.getElem?_cons_succ]; rfl)
    case h2b14 => kernel_rfl
    case h3b14 => kernel_rfl
    case h4b14 => kernel_rfl
    case h5b14 => exact fun _ _ _ h => False.elim h
    case h6b14 => exact Or.inr ⟨by kernel_rfl, rfl⟩
    try simp only [Act.put, List.setIfInBounds_toArray, List.set_cons_zero, List.set_cons_succ]
    refine' wpAnyH_take (i := 15) (oi := _) (v := undef) ?h1b15 ?h2b15 ?h3b15 ?h4b15 ?h5b15 ?h6b15 (by assumption) ?h8b15
    case h1b15 => (set_option linter.unusedSimpArgs false in simp only [List.getElem?_toArray, List.getElem?_cons_zero, List.getElem?_cons_succ]; rfl)
    case h2b15 => kernel_rfl
    case h3b15 => kernel_rfl
    case h4b15 => kernel_rfl
    case h5b15 => exact fun _ _ _ h => False.elim h
    case h6b15 => exact Or.inr ⟨by kernel_rfl, rfl⟩
    try simp only [Act.put, List.setIfInBounds_toArray, List.set_cons_zero, List.set_cons_succ]
    refine' wpAnyH_take (i := 16) (oi := _) (v := undef) ?h1b16 ?h2b16 ?h3b16 ?h4b16 ?h5b16 ?h6b16 (by assumption) ?h8b16
    case h1b16 => (set_option linter.unusedSimpArgs false in simp only [List.getElem?_toArray, List.getElem?_cons_zero, List.getElem?_cons_succ]; rfl)
    case h2b16 => kernel_rfl
    case h3b16 => kernel_rfl
    case h4b16 => kernel_rfl
    case h5b16 => exact fun _ _ _ h => False.elim h
    case h6b16 => exact Or.inr ⟨by kernel_rfl, rfl⟩
    try simp only [Act.put, List.setIfInBounds_toArray, List.set_cons_zero, List.set_cons_succ]
    refine' wpAnyH_take (i := 17) (oi := _) (v := undef) ?h1b17 ?h2b17 ?h3b17 ?h4b17 ?h5b17 ?h6b17 (by assumption) ?h8b17
    case h1b17 => (set_option linter.unusedSimpArgs false in simp only [List.getElem?_toArray, List.getElem?_cons_zero, List.getElem?_cons_succ]; rfl)
    case h2b17 => kernel_rfl
    case h3b17 => kernel_rfl
    case h4b17 => kernel_rfl
    case h5b17 => exact fun _ _ _ h => False.elim h
    case h6b17 => exact Or.inr ⟨by kernel_rfl, rfl⟩
    try simp only [Act.put, List.setIfInBounds_toArray, List.set_cons_zero, List.set_cons_succ]
    refine' wpAnyH_take (i := 18) (oi := _) (v := undef) ?h1b18 ?h2b18 ?h3b18 ?h4b18 ?h5b18 ?h6b18 (by assumption) ?h8b18
    case h1b18 => (set_option linter.unusedSimpArgs false in simp only [List.getElem?_toArray, List.getElem?_cons_zero, List.getElem?_cons_succ]; rfl)
    case h2b18 => kernel_rfl
    case h3b18 => kernel_rfl
    case h4b18 => kernel_rfl
    case h5b18 => exact fun _ _ _ h => False.elim h
    case h6b18 => exact Or.inr ⟨by kernel_rfl, rfl⟩
    try simp only [Act.put, List.setIfInBounds_toArray, List.set_cons_zero, List.set_cons_succ]
    refine' wpAnyH_take (i := 19) (oi := _) (v := undef) ?h1b19 ?h2b19 ?h3b19 ?h4b19 ?h5b19 ?h6b19 (by assumption) ?h8b19
    case h1b19 => (set_option linter.unusedSimpArgs false in simp only [List.getElem?_toArray, List.getElem?_cons_zero, List.getElem?_cons_succ]; rfl)
    case h2b19 => kernel_rfl
    case h3b19 => kernel_rfl
    case h4b19 => kernel_rfl
    case h5b19 => exact fun _ _ _ h => False.elim h
    case h6b19 => exact Or.inr ⟨by kernel_rfl, rfl⟩
    try simp only [Act.put, List.setIfInBounds_toArray, List.set_cons_zero, List.set_cons_succ]
    refine' wpAnyH_take (i := 20) (oi := _) (v := undef) ?h1b20 ?h2b20 ?h3b20 ?h4b20 ?h5b20 ?h6b20 (by assumption) ?h8b20
    case h1b20 => (set_option linter.unusedSimpArgs false in simp only [List.getElem?_toArray, List.getElem?_cons_zero, List.getElem?_cons_succ]; rfl)
    case h2b20 => kernel_rfl
    case h3b20 => kernel_rfl
    case h4b20 => kernel_rfl
    case h5b20 => exact fun _ _ _ h => False.elim h
    case h6b20 => exact Or.inr ⟨by kernel_rfl, rfl⟩
    try simp only [Act.put, List.setIfInBounds_toArray, List.set_cons_zero, List.set_cons_succ]
    refine' wpAnyH_take (i := 21) (oi := _) (v := _) ?h1b21 ?h2b21 ?h3b21 ?h4b21 ?h5b21 ?h6b21 (by assumption) ?h8b21
    case h1b21 => (set_option linter.unusedSimpArgs false in simp only [List.getElem?_toArray, List.getElem?_cons_zero, List.getElem?_cons_succ]; rfl)
    case h2b21 => kernel_rfl
    case h3b21 => kernel_rfl
    case h4b21 => kernel_rfl
    case h5b21 => exact fun _ _ _ h => False.elim h
    case h6b21 => (refine Or.inl ⟨by rfl, ?_⟩; intro w hSw; (try dsimp only at hSw); go_simp; (try with_reducible rfl))
    try simp only [Act.put, List.setIfInBounds_toArray, List.set_cons_zero, List.set_cons_succ]
    refine wpAnyH_done (by kernel_rfl) ?_ _
    refine NoPanic.normal ?_
    go_wp2
    go_ret
    exact zmA HRS.out rfl (HC.out.below (HB3.out)) (Grow.refl _ _) (zho HB3.out)
   ·have HMYb := hid (show ∀ W', Below w2.heap.size w2 W' -> Calls Tryz.prog 105 #[.agg #[.int .i64 c.n, .slice A1 c.s.length c1, .slice A2 c.lo.length c2, .slice A3 c.hi.length c3]] W' (zY (.bool true) W') from HMY.out)
    have u1 : ((c.s.length : Int) != (M : Int)) = true := by rw [bne_iff_ne]; omega
    have u2 : (c.s.length != M) = true := by simpa using hne
    clear hne
    refine wp_region_noPanic ?_
    refine wp_region_held_drew (S := (fun w' => w'.cell? ⟨w.heap.size, 0, none⟩ = some (.int .i64 c.n) /\ w'.cell? ⟨w.heap.size, 1, none⟩ = some (.slice A1 c.s.length c1) /\ w'.cell? ⟨w.heap.size, 2, none⟩ = some (.slice A2 c.lo.length c2) /\ w'.cell? ⟨w.heap.size, 3, none⟩ = some (.slice A3 c.hi.length c3) /\ w'.cell? ⟨p, 1, none⟩ = some (.int .i64 M))) (by kernel_rfl) ?_ (fun hHeld => ?_)
    ·exact ⟨p0, p1, p2, p3, y1⟩
    refine' wpAnyH_take (i := 0) (oi := _) (v := _) ?h1d0 ?h2d0 ?h3d0 ?h4d0 ?h5d0 ?h6d0 (by assumption) ?h8d0
    case h1d0 => (set_option linter.unusedSimpArgs false in simp only [List.getElem?_toArray, List.getElem?_cons_zero, List.getElem?_cons_succ]; rfl)
    case h2d0 => kernel_rfl
    case h3d0 => kernel_rfl
    case h4d0 => kernel_rfl
    case h5d0 => exact fun _ _ _ h => False.elim h
    case h6d0 => (refine Or.inl ⟨by rfl, ?_⟩; intro w hSw; (try dsimp only at hSw); go_simp; (try with_reducible rfl))
    try simp only [Act.put, List.setIfInBounds_toArray, List.set_cons_zero, List.set_cons_succ]
    refine' wpAnyH_take (i := 1) (oi := _) (v := _) ?h1d1 ?h2d1 ?h3d1 ?h4d1 ?h5d1 ?h6d1 (by assumption) ?h8d1
    case h1d1 => (set_option linter.unusedSimpArgs false in simp only [List.getElem?_toArray, List.getElem?_cons_zero, List.getElem?_cons_succ]; rfl)
    case h2d1 => kernel_rfl
    case h3d1 => kernel_rfl
    case h4d1 => kernel_rfl
    case h5d1 => exact fun _ _ _ h => False.elim h
    case h6d1 => (refine Or.inl ⟨by rfl, ?_⟩; intro w hSw; (try dsimp only at hSw); go_simp; (try with_reducible rfl))
    try simp only [Act.put, List.setIfInBounds_toArray, List.set_cons_zero, List.set_cons_succ]
    refine' wpAnyH_take (i := 2) (oi := _) (v := _) ?h1d2 ?h2d2 ?h3d2 ?h4d2 ?h5d2 ?h6d2 (by assumption) ?h8d2
    case h1d2 => (set_option linter.unusedSimpArgs false in simp only [List.getElem?_toArray, List.getElem?_cons_zero, List.getElem?_cons_succ]; rfl)
    case h2d2 => kernel_rfl
    case h3d2 => kernel_rfl
    case h4d2 => kernel_rfl
    case h5d2 => exact fun _ _ _ h => False.elim h
    case h6d2 => (refine Or.inl ⟨by rfl, ?_⟩; intro w hSw; (try dsimp only at hSw); go_simp; (try with_reducible rfl))
    try simp only [Act.put, List.setIfInBounds_toArray, List.set_cons_zero, List.set_cons_succ]
    refine' wpAnyH_take (i := 3) (oi := _) (v := _) ?h1d3 ?h2d3 ?h3d3 ?h4d3 ?h5d3 ?h6d3 (by assumption) ?h8d3
    case h1d3 => (set_option linter.unusedSimpArgs false in simp only [List.getElem?_toArray, List.getElem?_cons_zero, List.getElem?_cons_succ]; rfl)
    case h2d3 => kernel_rfl
    case h3d3 => kernel_rfl
    case h4d3 => kernel_rfl
    case h5d3 => exact fun _ _ _ h => False.elim h
    case h6d3 => (refine Or.inl ⟨by rfl, ?_⟩; intro w hSw; (try dsimp only at hSw); go_simp; (try with_reducible rfl))
    try simp only [Act.put, List.setIfInBounds_toArray, List.set_cons_zero, List.set_cons_succ]
    refine wpAnyH_ready (rs := [4]) (by kernel_rfl) (by simp) ?_
    refine AllReadyH.cons rfl (fun K hK => ?_) AllReadyH.nil
    go_simp
    (with_reducible refine (HMYb.out _ (Below.refl _ _).drew).mono ?_); rintro e w3 ⟨rfl, hb3⟩; have hb3 : Below w2.heap.size w2 w3 := (Below.refl _ _).drew.trans hb3; have HB3 := hid (HB2.out.trans (hb3.mono HB2.out.size)); have p0 := zc hb3 (by omega) p0; have p1 := zc hb3 (by omega) p1; have p2 := zc hb3 (by omega) p2; have p3 := zc hb3 (by omega) p3; have y1 := zc hb3 (by omega) y1; have HW3 := hid hb3; clear hb3
    refine hK.out _ _ ?_ (fun hHeld => ?_)
    ·exact ⟨p0, p1, p2, p3, y1⟩
    clear hK K
    try simp only [Act.put, List.setIfInBounds_toArray, List.set_cons_zero, List.set_cons_succ]
    refine' wpAnyH_take (i := 5) (oi := _) (v := _) ?h1d5 ?h2d5 ?h3d5 ?h4d5 ?h5d5 ?h6d5 (by assumption) ?h8d5
    case h1d5 => (set_option linter.unusedSimpArgs false in simp only [List.getElem?_toArray, List.getElem?_cons_zero, List.getElem?_cons_succ]; rfl)
    case h2d5 => kernel_rfl
    case h3d5 => kernel_rfl
    case h4d5 => kernel_rfl
    case h5d5 => exact fun _ _ _ h => False.elim h
    case h6d5 => (refine Or.inl ⟨by rfl, ?_⟩; intro w hSw; (try dsimp only at hSw); go_simp; (try with_reducible rfl))
    try simp only [Act.put, List.setIfInBounds_toArray, List.set_cons_zero, List.set_cons_succ]
    refine' wpAnyH_take (i := 6) (oi := _) (v := _) ?h1d6 ?h2d6 ?h3d6 ?h4d6 ?h5d6 ?h6d6 (by assumption) ?h8d6
    case h1d6 => (set_option linter.unusedSimpArgs false in simp only [List.getElem?_toArray, List.getElem?_cons_zero, List.getElem?_cons_succ]; rfl)
    case h2d6 => kernel_rfl
    case h3d6 => kernel_rfl
    case h4d6 => kernel_rfl
    case h5d6 => exact fun _ _ _ h => False.elim h
    case h6d6 => (refine Or.inl ⟨by rfl, ?_⟩; intro w hSw; (try dsimp only at hSw); go_simp; (try with_reducible rfl))
    try simp only [Act.put, List.setIfInBounds_toArray, List.set_cons_zero, List.set_cons_succ]
    refine' wpAnyH_take (i := 7) (oi := _) (v := _) ?h1d7 ?h2d7 ?h3d7 ?h4d7 ?h5d7 ?h6d7 (by assumption) ?h8d7
    case h1d7 => (set_option linter.unusedSimpArgs false in simp only [List.getElem?_toArray, List.getElem?_cons_zero, List.getElem?_cons_succ]; rfl)
    case h2d7 => kernel_rfl
    case h3d7 => kernel_rfl
    case h4d7 => kernel_rfl
    case h5d7 => exact fun _ _ _ h => False.elim h
    case h6d7 => (refine Or.inl ⟨by rfl, ?_⟩; intro w hSw; (try dsimp only at hSw); go_simp; (try with_reducible rfl))
    try simp only [Act.put, List.setIfInBounds_toArray, List.set_cons_zero, List.set_cons_succ]
    refine' wpAnyH_take (i := 8) (oi := _) (v := _) ?h1d8 ?h2d8 ?h3d8 ?h4d8 ?h5d8 ?h6d8 (by assumption) ?h8d8
    case h1d8 => (set_option linter.unusedSimpArgs false in simp only [List.getElem?_toArray, List.getElem?_cons_zero, List.getElem?_cons_succ]; rfl)
    case h2d8 => kernel_rfl
    case h3d8 => kernel_rfl
    case h4d8 => kernel_rfl
    case h5d8 => exact fun _ _ _ h => False.elim h
    case h6d8 => (refine Or.inl ⟨by rfl, ?_⟩; intro w hSw; (try dsimp only at hSw); go_simp; (try with_reducible rfl))
    try simp only [Act.put, List.setIfInBounds_toArray, List.set_cons_zero, List.set_cons_succ]
    refine' wpAnyH_take (i := 9) (oi := _) (v := _) ?h1d9 ?h2d9 ?h3d9 ?h4d9 ?h5d9 ?h6d9 (by assumption) ?h8d9
    case h1d9 => (set_option linter.unusedSimpArgs false in simp only [List.getElem?_toArray, List.getElem?_cons_zero, List.getElem?_cons_succ]; rfl)
    case h2d9 => kernel_rfl
    case h3d9 => kernel_rfl
    case h4d9 => kernel_rfl
    case h5d9 => exact fun _ _ _ h => False.elim h
    case h6d9 => (refine Or.inl ⟨by rfl, ?_⟩; intro w hSw; (try dsimp only at hSw); go_simp; (try with_reducible rfl))
    try simp only [Act.put, List.setIfInBounds_toArray, List.set_cons_zero, List.set_cons_succ]
    refine' wpAnyH_take (i := 10) (oi := _) (v := _) ?h1d10 ?h2d10 ?h3d10 ?h4d10 ?h5d10 ?h6d10 (by assumption) ?h8d10
    case h1d10 => (set_option linter.unusedSimpArgs false in simp only [List.getElem?_toArray, List.getElem?_cons_zero, List.getElem?_cons_succ]; rfl)
    case h2d10 => kernel_rfl
    case h3d10 => kernel_rfl
    case h4d10 => kernel_rfl
    case h5d10 => exact fun _ _ _ h => False.elim h
    case h6d10 => (refine Or.inl ⟨by rfl, ?_⟩; intro w hSw; (try dsimp only at hSw); go_simp; (try with_reducible rfl))
    try simp only [Act.put, List.setIfInBounds_toArray, List.set_cons_zero, List.set_cons_succ]
    refine' wpAnyH_take (i := 11) (oi := _) (v := _) ?h1d11 ?h2d11 ?h3d11 ?h4d11 ?h5d11 ?h6d11 (by assumption) ?h8d11
    case h1d11 => (set_option linter.unusedSimpArgs false in simp only [List.getElem?_toArray, List.getElem?_cons_zero, List.getElem?_cons_succ]; rfl)
    case h2d11 => kernel_rfl
    case h3d11 => kernel_rfl
    case h4d11 => kernel_rfl
    case h5d11 => exact fun _ _ _ h => False.elim h
    case h6d11 => (refine Or.inl ⟨by rfl, ?_⟩; intro w hSw; (try dsimp only at hSw); go_simp; (try with_reducible rfl))
    try simp only [Act.put, List.setIfInBounds_toArray, List.set_cons_zero, List.set_cons_succ]
    refine' wpAnyH_take (i := 12) (oi := _) (v := _) ?h1d12 ?h2d12 ?h3d12 ?h4d12 ?h5d12 ?h6d12 (by assumption) ?h8d12
    case h1d12 => (set_option linter.unusedSimpArgs false in simp only [List.getElem?_toArray, List.getElem?_cons_zero, List.getElem?_cons_succ]; rfl)
    case h2d12 => kernel_rfl
    case h3d12 => kernel_rfl
    case h4d12 => kernel_rfl
    case h5d12 => exact fun _ _ _ h => False.elim h
    case h6d12 => (refine Or.inl ⟨by rfl, ?_⟩; intro w hSw; (try dsimp only at hSw); go_simp; (try with_reducible rfl))
    try simp only [Act.put, List.setIfInBounds_toArray, List.set_cons_zero, List.set_cons_succ]
    refine' wpAnyH_take (i := 13) (oi := _) (v := _) ?h1d13 ?h2d13 ?h3d13 ?h4d13 ?h5d13 ?h6d13 (by assumption) ?h8d13
    case h1d13 => (set_option linter.unusedSimpArgs false in simp only [List.getElem?_toArray, List.getElem?_cons_zero, List.getElem?_cons_succ]; rfl)
    case h2d13 => kernel_rfl
    case h3d13 => kernel_rfl
    case h4d13 => kernel_rfl
    case h5d13 => exact fun _ _ _ h => False.elim h
    case h6d13 => (refine Or.inl ⟨by rfl, ?_⟩; intro w hSw; (try dsimp only at hSw); go_simp; (try with_reducible rfl))
    try simp only [Act.put, List.setIfInBounds_toArray, List.set_cons_zero, List.set_cons_succ]
    refine' wpAnyH_take (i := 14) (oi := _) (v := _) ?h1d14 ?h2d14 ?h3d14 ?h4d14 ?h5d14 ?h6d14 (by assumption) ?h8d14
    case h1d14 => (set_option linter.unusedSimpArgs false in simp only [List.getElem?_toArray, List.getElem?_cons_zero, List.getElem?_cons_succ]; rfl)
    case h2d14 => kernel_rfl
    case h3d14 => kernel_rfl
    case h4d14 => kernel_rfl
    case h5d14 => exact fun _ _ _ h => False.elim h
    case h6d14 => (refine Or.inl ⟨by rfl, ?_⟩; intro w hSw; (try dsimp only at hSw); go_simp; (try with_reducible rfl))
    try simp only [Act.put, List.setIfInBounds_toArray, List.set_cons_zero, List.set_cons_succ]
    refine' wpAnyH_take (i := 15) (oi := _) (v := _) ?h1d15 ?h2d15 ?h3d15 ?h4d15 ?h5d15 ?h6d15 (by assumption) ?h8d15
    case h1d15 => (set_option linter.unusedSimpArgs false in simp only [List.getElem?_toArray, List.getElem?_cons_zero, List.getElem?_cons_succ]; rfl)
    case h2d15 => kernel_rfl
    case h3d15 => kernel_rfl
    case h4d15 => kernel_rfl
    case h5d15 => exact fun _ _ _ h => False.elim h
    case h6d15 => (refine Or.inl ⟨by rfl, ?_⟩; intro w hSw; (try dsimp only at hSw); go_simp; (try with_reducible rfl))
    try simp only [Act.put, List.setIfInBounds_toArray, List.set_cons_zero, List.set_cons_succ]
    refine' wpAnyH_take (i := 16) (oi := _) (v := _) ?h1d16 ?h2d16 ?h3d16 ?h4d16 ?h5d16 ?h6d16 (by assumption) ?h8d16
    case h1d16 => (set_option linter.unusedSimpArgs false in simp only [List.getElem?_toArray, List.getElem?_cons_zero, List.getElem?_cons_succ]; rfl)
    case h2d16 => kernel_rfl
    case h3d16 => kernel_rfl
    case h4d16 => kernel_rfl
    case h5d16 => exact fun _ _ _ h => False.elim h
    case h6d16 => (refine Or.inl ⟨by rfl, ?_⟩; intro w hSw; (try dsimp only at hSw); go_simp; (try with_reducible rfl))
    try simp only [Act.put, List.setIfInBounds_toArray, List.set_cons_zero, List.set_cons_succ]
    refine' wpAnyH_take (i := 17) (oi := _) (v := _) ?h1d17 ?h2d17 ?h3d17 ?h4d17 ?h5d17 ?h6d17 (by assumption) ?h8d17
    case h1d17 => (set_option linter.unusedSimpArgs false in simp only [List.getElem?_toArray, List.getElem?_cons_zero, List.getElem?_cons_succ]; rfl)
    case h2d17 => kernel_rfl
    case h3d17 => kernel_rfl
    case h4d17 => kernel_rfl
    case h5d17 => exact fun _ _ _ h => False.elim h
    case h6d17 => (refine Or.inl ⟨by rfl, ?_⟩; intro w hSw; (try dsimp only at hSw); go_simp; (try with_reducible rfl))
    try simp only [Act.put, List.setIfInBounds_toArray, List.set_cons_zero, List.set_cons_succ]
    refine' wpAnyH_take (i := 18) (oi := _) (v := _) ?h1d18 ?h2d18 ?h3d18 ?h4d18 ?h5d18 ?h6d18 (by assumption) ?h8d18
    case h1d18 => (set_option linter.unusedSimpArgs false in simp only [List.getElem?_toArray, List.getElem?_cons_zero, List.getElem?_cons_succ]; rfl)
    case h2d18 => kernel_rfl
    case h3d18 => kernel_rfl
    case h4d18 => kernel_rfl
    case h5d18 => exact fun _ _ _ h => False.elim h
    case h6d18 => (refine Or.inl ⟨by rfl, ?_⟩; intro w hSw; (try dsimp only at hSw); go_simp; (try with_reducible rfl))
    try simp only [Act.put, List.setIfInBounds_toArray, List.set_cons_zero, List.set_cons_succ]
    refine' wpAnyH_take (i := 19) (oi := _) (v := _) ?h1d19 ?h2d19 ?h3d19 ?h4d19 ?h5d19 ?h6d19 (by assumption) ?h8d19
    case h1d19 => (set_option linter.unusedSimpArgs false in simp only [List.getElem?_toArray, List.getElem?_cons_zero, List.getElem?_cons_succ]; rfl)
    case h2d19 => kernel_rfl
    case h3d19 => kernel_rfl
    case h4d19 => kernel_rfl
    case h5d19 => exact fun _ _ _ h => False.elim h
    case h6d19 => (refine Or.inl ⟨by rfl, ?_⟩; intro w hSw; (try dsimp only at hSw); go_simp; (try with_reducible rfl))
    try simp only [Act.put, List.setIfInBounds_toArray, List.set_cons_zero, List.set_cons_succ]
    refine' wpAnyH_take (i := 20) (oi := _) (v := _) ?h1d20 ?h2d20 ?h3d20 ?h4d20 ?h5d20 ?h6d20 (by assumption) ?h8d20
    case h1d20 => (set_option linter.unusedSimpArgs false in simp only [List.getElem?_toArray, List.getElem?_cons_zero, List.getElem?_cons_succ]; rfl)
    case h2d20 => kernel_rfl
    case h3d20 => kernel_rfl
    case h4d20 => kernel_rfl
    case h5d20 => exact fun _ _ _ h => False.elim h
    case h6d20 => (refine Or.inl ⟨by rfl, ?_⟩; intro w hSw; (try dsimp only at hSw); go_simp; (try with_reducible rfl))
    try simp only [Act.put, List.setIfInBounds_toArray, List.set_cons_zero, List.set_cons_succ]
    refine' wpAnyH_take (i := 21) (oi := _) (v := _) ?h1d21 ?h2d21 ?h3d21 ?h4d21 ?h5d21 ?h6d21 (by assumption) ?h8d21
    case h1d21 => (set_option linter.unusedSimpArgs false in simp only [List.getElem?_toArray, List.getElem?_cons_zero, List.getElem?_cons_succ]; rfl)
    case h2d21 => kernel_rfl
    case h3d21 => kernel_rfl
    case h4d21 => kernel_rfl
    case h5d21 => exact fun _ _ _ h => False.elim h
    case h6d21 => (refine Or.inl ⟨by rfl, ?_⟩; intro w hSw; (try dsimp only at hSw); go_simp; (try with_reducible rfl))
    try simp only [Act.put, List.setIfInBounds_toArray, List.set_cons_zero, List.set_cons_succ]
    refine wpAnyH_done (by kernel_rfl) ?_ _
    refine NoPanic.normal ?_
    go_wp2
    go_ret
    exact zmA HRS.out rfl (HC.out.below (HB3.out)) (Grow.refl _ _) (zho HB3.out)
  ·have HMYb := hid (show ∀ W', Below w2.heap.size w2 W' -> Calls Tryz.prog 105 #[.agg #[.int .i64 c.n, .slice A1 c.s.length c1, .slice A2 c.lo.length c2, .slice A3 c.hi.length c3]] W' (zY (.bool true) W') from HMY.out)
   have u1 : ((c.s.length : Int) != (M : Int)) = false := by simp [hcl]
   have u2 : (c.s.length != M) = false := by simp [hcl]
   have HCN := hid hcn; have HCL := hid hcl; have HWW := hid hway
   clear hcl hway
   refine wp_region_noPanic ?_
   refine wp_region_held_drew (S := (fun w' => w'.cell? ⟨w.heap.size, 0, none⟩ = some (.int .i64 c.n) /\ w'.cell? ⟨w.heap.size, 1, none⟩ = some (.slice A1 c.s.length c1) /\ w'.cell? ⟨w.heap.size, 2, none⟩ = some (.slice A2 c.lo.length c2) /\ w'.cell? ⟨w.heap.size, 3, none⟩ = some (.slice A3 c.hi.length c3) /\ w'.cell? ⟨p, 1, none⟩ = some (.int .i64 M))) (by kernel_rfl) ?_ (fun hHeld => ?_)
   ·exact ⟨p0, p1, p2, p3, y1⟩
   refine' wpAnyH_take (i := 0) (oi := _) (v := _) ?h1e0 ?h2e0 ?h3e0 ?h4e0 ?h5e0 ?h6e0 (by assumption) ?h8e0
   case h1e0 => (set_option linter.unusedSimpArgs false in simp only [List.getElem?_toArray, List.getElem?_cons_zero, List.getElem?_cons_succ]; rfl)
   case h2e0 => kernel_rfl
   case h3e0 => kernel_rfl
   case h4e0 => kernel_rfl
   case h5e0 => exact fun _ _ _ h => False.elim h
   case h6e0 => (refine Or.inl ⟨by rfl, ?_⟩; intro w hSw; (try dsimp only at hSw); go_simp; (try with_reducible rfl))
   try simp only [Act.put, List.setIfInBounds_toArray, List.set_cons_zero, List.set_cons_succ]
   refine' wpAnyH_take (i := 1) (oi := _) (v := _) ?h1e1 ?h2e1 ?h3e1 ?h4e1 ?h5e1 ?h6e1 (by assumption) ?h8e1
   case h1e1 => (set_option linter.unusedSimpArgs false in simp only [List.getElem?_toArray, List.getElem?_cons_zero, List.getElem?_cons_succ]; rfl)
   case h2e1 => kernel_rfl
   case h3e1 => kernel_rfl
   case h4e1 => kernel_rfl
   case h5e1 => exact fun _ _ _ h => False.elim h
   case h6e1 => (refine Or.inl ⟨by rfl, ?_⟩; intro w hSw; (try dsimp only at hSw); go_simp; (try with_reducible rfl))
   try simp only [Act.put, List.setIfInBounds_toArray, List.set_cons_zero, List.set_cons_succ]
   refine' wpAnyH_take (i := 2) (oi := _) (v := _) ?h1e2 ?h2e2 ?h3e2 ?h4e2 ?h5e2 ?h6e2 (by assumption) ?h8e2
   case h1e2 => (set_option linter.unusedSimpArgs false in simp only [List.getElem?_toArray, List.getElem?_cons_zero, List.getElem?_cons_succ]; rfl)
   case h2e2 => kernel_rfl
   case h3e2 => kernel_rfl
   case h4e2 => kernel_rfl
   case h5e2 => exact fun _ _ _ h => False.elim h
   case h6e2 => (refine Or.inl ⟨by rfl, ?_⟩; intro w hSw; (try dsimp only at hSw); go_simp; (try with_reducible rfl))
   try simp only [Act.put, List.setIfInBounds_toArray, List.set_cons_zero, List.set_cons_succ]
   refine' wpAnyH_take (i := 3) (oi := _) (v := _) ?h1e3 ?h2e3 ?h3e3 ?h4e3 ?h5e3 ?h6e3 (by assumption) ?h8e3
   case h1e3 => (set_option linter.unusedSimpArgs false in simp only [List.getElem?_toArray, List.getElem?_cons_zero, List.getElem?_cons_succ]; rfl)
   case h2e3 => kernel_rfl
   case h3e3 => kernel_rfl
   case h4e3 => kernel_rfl
   case h5e3 => exact fun _ _ _ h => False.elim h
   case h6e3 => (refine Or.inl ⟨by rfl, ?_⟩; intro w hSw; (try dsimp only at hSw); go_simp; (try with_reducible rfl))
   try simp only [Act.put, List.setIfInBounds_toArray, List.set_cons_zero, List.set_cons_succ]
   refine wpAnyH_ready (rs := [4]) (by kernel_rfl) (by simp) ?_
   refine AllReadyH.cons rfl (fun K hK => ?_) AllReadyH.nil
   go_simp
   (with_reducible refine (HMYb.out _ (Below.refl _ _).drew).mono ?_); rintro e w3 ⟨rfl, hb3⟩; have hb3 : Below w2.heap.size w2 w3 := (Below.refl _ _).drew.trans hb3; have HB3 := hid (HB2.out.trans (hb3.mono HB2.out.size)); have p0 := zc hb3 (by omega) p0; have p1 := zc hb3 (by omega) p1; have p2 := zc hb3 (by omega) p2; have p3 := zc hb3 (by omega) p3; have y1 := zc hb3 (by omega) y1; have HW3 := hid hb3; clear hb3
   refine hK.out _ _ ?_ (fun hHeld => ?_)
   ·exact ⟨p0, p1, p2, p3, y1⟩
   clear hK K
   try simp only [Act.put, List.setIfInBounds_toArray, List.set_cons_zero, List.set_cons_succ]
   refine' wpAnyH_take (i := 5) (oi := _) (v := _) ?h1e5 ?h2e5 ?h3e5 ?h4e5 ?h5e5 ?h6e5 (by assumption) ?h8e5
   case h1e5 => (set_option linter.unusedSimpArgs false in simp only [List.getElem?_toArray, List.getElem?_cons_zero, List.getElem?_cons_succ]; rfl)
   case h2e5 => kernel_rfl
   case h3e5 => kernel_rfl
   case h4e5 => kernel_rfl
   case h5e5 => exact fun _ _ _ h => False.elim h
   case h6e5 => (refine Or.inl ⟨by rfl, ?_⟩; intro w hSw; (try dsimp only at hSw); go_simp; (try with_reducible rfl))
   try simp only [Act.put, List.setIfInBounds_toArray, List.set_cons_zero, List.set_cons_succ]
   refine' wpAnyH_take (i := 6) (oi := _) (v := _) ?h1e6 ?h2e6 ?h3e6 ?h4e6 ?h5e6 ?h6e6 (by assumption) ?h8e6
   case h1e6 => (set_option linter.unusedSimpArgs false in simp only [List.getElem?_toArray, List.getElem?_cons_zero, List.getElem?_cons_succ]; rfl)
   case h2e6 => kernel_rfl
   case h3e6 => kernel_rfl
   case h4e6 => kernel_rfl
   case h5e6 => exact fun _ _ _ h => False.elim h
   case h6e6 => (refine Or.inl ⟨by rfl, ?_⟩; intro w hSw; (try dsimp only at hSw); go_simp; (try with_reducible rfl))
   try simp only [Act.put, List.setIfInBounds_toArray, List.set_cons_zero, List.set_cons_succ]
   refine' wpAnyH_take (i := 7) (oi := _) (v := _) ?h1e7 ?h2e7 ?h3e7 ?h4e7 ?h5e7 ?h6e7 (by assumption) ?h8e7
   case h1e7 => (set_option linter.unusedSimpArgs false in simp only [List.getElem?_toArray, List.getElem?_cons_zero, List.getElem?_cons_succ]; rfl)
   case h2e7 => kernel_rfl
   case h3e7 => kernel_rfl
   case h4e7 => kernel_rfl
   case h5e7 => exact fun _ _ _ h => False.elim h
   case h6e7 => (refine Or.inl ⟨by rfl, ?_⟩; intro w hSw; (try dsimp only at hSw); go_simp; (try with_reducible rfl))
   try simp only [Act.put, List.setIfInBounds_toArray, List.set_cons_zero, List.set_cons_succ]
   refine' wpAnyH_take (i := 8) (oi := _) (v := _) ?h1e8 ?h2e8 ?h3e8 ?h4e8 ?h5e8 ?h6e8 (by assumption) ?h8e8
   case h1e8 => (set_option linter.unusedSimpArgs false in simp only [List.getElem?_toArray, List.getElem?_cons_zero, List.getElem?_cons_succ]; rfl)
   case h2e8 => kernel_rfl
   case h3e8 => kernel_rfl
   case h4e8 => kernel_rfl
   case h5e8 => exact fun _ _ _ h => False.elim h
   case h6e8 => (refine Or.inl ⟨by rfl, ?_⟩; intro w hSw; (try dsimp only at hSw); go_simp; (try with_reducible rfl))
   try simp only [Act.put, List.setIfInBounds_toArray, List.set_cons_zero, List.set_cons_succ]
   refine' wpAnyH_take (i := 9) (oi := _) (v := _) ?h1e9 ?h2e9 ?h3e9 ?h4e9 ?h5e9 ?h6e9 (by assumption) ?h8e9
   case h1e9 => (set_option linter.unusedSimpArgs false in simp only [List.getElem?_toArray, List.getElem?_cons_zero, List.getElem?_cons_succ]; rfl)
   case h2e9 => kernel_rfl
   case h3e9 => kernel_rfl
   case h4e9 => kernel_rfl
   case h5e9 => exact fun _ _ _ h => False.elim h
   case h6e9 => (refine Or.inl ⟨by rfl, ?_⟩; intro w hSw; (try dsimp only at hSw); go_simp; (try with_reducible rfl))
   try simp only [Act.put, List.setIfInBounds_toArray, List.set_cons_zero, List.set_cons_succ]
   refine' wpAnyH_take (i := 10) (oi := _) (v := _) ?h1e10 ?h2e10 ?h3e10 ?h4e10 ?h5e10 ?h6e10 (by assumption) ?h8e10
   case h1e10 => (set_option linter.unusedSimpArgs false in simp only [List.getElem?_toArray, List.getElem?_cons_zero, List.getElem?_cons_succ]; rfl)
   case h2e10 => kernel_rfl
   case h3e10 => kernel_rfl
   case h4e10 => kernel_rfl
   case h5e10 => exact fun _ _ _ h => False.elim h
   case h6e10 => (refine Or.inl ⟨by rfl, ?_⟩; intro w hSw; (try dsimp only at hSw); go_simp; (try with_reducible rfl))
   try simp only [Act.put, List.setIfInBounds_toArray, List.set_cons_zero, List.set_cons_succ]
   refine' wpAnyH_take (i := 11) (oi := _) (v := _) ?h1e11 ?h2e11 ?h3e11 ?h4e11 ?h5e11 ?h6e11 (by assumption) ?h8e11
   case h1e11 => (set_option linter.unusedSimpArgs false in simp only [List.getElem?_toArray, List.getElem?_cons_zero, List.getElem?_cons_succ]; rfl)
   case h2e11 => kernel_rfl
   case h3e11 => kernel_rfl
   case h4e11 => kernel_rfl
   case h5e11 => exact fun _ _ _ h => False.elim h
   case h6e11 => (refine Or.inl ⟨by rfl, ?_⟩; intro w hSw; (try dsimp only at hSw); go_simp; (try with_reducible rfl))
   try simp only [Act.put, List.setIfInBounds_toArray, List.set_cons_zero, List.set_cons_succ]
   refine' wpAnyH_take (i := 12) (oi := _) (v := _) ?h1e12 ?h2e12 ?h3e12 ?h4e12 ?h5e12 ?h6e12 (by assumption) ?h8e12
   case h1e12 => (set_option linter.unusedSimpArgs false in simp only [List.getElem?_toArray, List.getElem?_cons_zero, List.getElem?_cons_succ]; rfl)
   case h2e12 => kernel_rfl
   case h3e12 => kernel_rfl
   case h4e12 => kernel_rfl
   case h5e12 => exact fun _ _ _ h => False.elim h
   case h6e12 => (refine Or.inl ⟨by rfl, ?_⟩; intro w hSw; (try dsimp only at hSw); go_simp; (try with_reducible rfl))
   try simp only [Act.put, List.setIfInBounds_toArray, List.set_cons_zero, List.set_cons_succ]
   refine' wpAnyH_take (i := 13) (oi := _) (v := _) ?h1e13 ?h2e13 ?h3e13 ?h4e13 ?h5e13 ?h6e13 (by assumption) ?h8e13
   case h1e13 => (set_option linter.unusedSimpArgs false in simp only [List.getElem?_toArray, List.getElem?_cons_zero, List.getElem?_cons_succ]; rfl)
   case h2e13 => kernel_rfl
   case h3e13 => kernel_rfl
   case h4e13 => kernel_rfl
   case h5e13 => exact fun _ _ _ h => False.elim h
   case h6e13 => (refine Or.inl ⟨by rfl, ?_⟩; intro w hSw; (try dsimp only at hSw); go_simp; (try with_reducible rfl))
   try simp only [Act.put, List.setIfInBounds_toArray, List.set_cons_zero, List.set_cons_succ]
   refine' wpAnyH_take (i := 14) (oi := _) (v := _) ?h1e14 ?h2e14 ?h3e14 ?h4e14 ?h5e14 ?h6e14 (by assumption) ?h8e14
   case h1e14 => (set_option linter.unusedSimpArgs false in simp only [List.getElem?_toArray, List.getElem?_cons_zero, List.getElem?_cons_succ]; rfl)
   case h2e14 => kernel_rfl
   case h3e14 => kernel_rfl
   case h4e14 => kernel_rfl
   case h5e14 => exact fun _ _ _ h => False.elim h
   case h6e14 => (refine Or.inl ⟨by rfl, ?_⟩; intro w hSw; (try dsimp only at hSw); go_simp; (try with_reducible rfl))
   try simp only [Act.put, List.setIfInBounds_toArray, List.set_cons_zero, List.set_cons_succ]
   refine' wpAnyH_take (i := 15) (oi := _) (v := _) ?h1e15 ?h2e15 ?h3e15 ?h4e15 ?h5e15 ?h6e15 (by assumption) ?h8e15
   case h1e15 => (set_option linter.unusedSimpArgs false in simp only [List.getElem?_toArray, List.getElem?_cons_zero, List.getElem?_cons_succ]; rfl)
   case h2e15 => kernel_rfl
   case h3e15 => kernel_rfl
   case h4e15 => kernel_rfl
   case h5e15 => exact fun _ _ _ h => False.elim h
   case h6e15 => (refine Or.inl ⟨by rfl, ?_⟩; intro w hSw; (try dsimp only at hSw); go_simp; (try with_reducible rfl))
   try simp only [Act.put, List.setIfInBounds_toArray, List.set_cons_zero, List.set_cons_succ]
   refine' wpAnyH_take (i := 16) (oi := _) (v := _) ?h1e16 ?h2e16 ?h3e16 ?h4e16 ?h5e16 ?h6e16 (by assumption) ?h8e16
   case h1e16 => (set_option linter.unusedSimpArgs false in simp only [List.getElem?_toArray, List.getElem?_cons_zero, List.getElem?_cons_succ]; rfl)
   case h2e16 => kernel_rfl
   case h3e16 => kernel_rfl
   case h4e16 => kernel_rfl
   case h5e16 => exact fun _ _ _ h => False.elim h
   case h6e16 => (refine Or.inl ⟨by rfl, ?_⟩; intro w hSw; (try dsimp only at hSw); go_simp; (try with_reducible rfl))
   try simp only [Act.put, List.setIfInBounds_toArray, List.set_cons_zero, List.set_cons_succ]
   refine' wpAnyH_take (i := 17) (oi := _) (v := _) ?h1e17 ?h2e17 ?h3e17 ?h4e17 ?h5e17 ?h6e17 (by assumption) ?h8e17
   case h1e17 => (set_option linter.unusedSimpArgs false in simp only [List.getElem?_toArray, List.getElem?_cons_zero, List.getElem?_cons_succ]; rfl)
   case h2e17 => kernel_rfl
   case h3e17 => kernel_rfl
   case h4e17 => kernel_rfl
   case h5e17 => exact fun _ _ _ h => False.elim h
   case h6e17 => (refine Or.inl ⟨by rfl, ?_⟩; intro w hSw; (try dsimp only at hSw); go_simp; (try with_reducible rfl))
   try simp only [Act.put, List.setIfInBounds_toArray, List.set_cons_zero, List.set_cons_succ]
   refine' wpAnyH_take (i := 18) (oi := _) (v := _) ?h1e18 ?h2e18 ?h3e18 ?h4e18 ?h5e18 ?h6e18 (by assumption) ?h8e18
   case h1e18 => (set_option linter.unusedSimpArgs false in simp only [List.getElem?_toArray, List.getElem?_cons_zero, List.getElem?_cons_succ]; rfl)
   case h2e18 => kernel_rfl
   case h3e18 => kernel_rfl
   case h4e18 => kernel_rfl
   case h5e18 => exact fun _ _ _ h => False.elim h
   case h6e18 => (refine Or.inl ⟨by rfl, ?_⟩; intro w hSw; (try dsimp only at hSw); go_simp; (try with_reducible rfl))
   try simp only [Act.put, List.setIfInBounds_toArray, List.set_cons_zero, List.set_cons_succ]
   refine' wpAnyH_take (i := 19) (oi := _) (v := _) ?h1e19 ?h2e19 ?h3e19 ?h4e19 ?h5e19 ?h6e19 (by assumption) ?h8e19
   case h1e19 => (set_option linter.unusedSimpArgs false in simp only [List.getElem?_toArray, List.getElem?_cons_zero, List.getElem?_cons_succ]; rfl)
   case h2e19 => kernel_rfl
   case h3e19 => kernel_rfl
   case h4e19 => kernel_rfl
   case h5e19 => exact fun _ _ _ h => False.elim h
   case h6e19 => (refine Or.inl ⟨by rfl, ?_⟩; intro w hSw; (try dsimp only at hSw); go_simp; (try with_reducible rfl))
   try simp only [Act.put, List.setIfInBounds_toArray, List.set_cons_zero, List.set_cons_succ]
   refine' wpAnyH_take (i := 20) (oi := _) (v := _) ?h1e20 ?h2e20 ?h3e20 ?h4e20 ?h5e20 ?h6e20 (by assumption) ?h8e20
   case h1e20 => (set_option linter.unusedSimpArgs false in simp only [List.getElem?_toArray, List.getElem?_cons_zero, List.getElem?_cons_succ]; rfl)
   case h2e20 => kernel_rfl
   case h3e20 => kernel_rfl
   case h4e20 => kernel_rfl
   case h5e20 => exact fun _ _ _ h => False.elim h
   case h6e20 => (refine Or.inl ⟨by rfl, ?_⟩; intro w hSw; (try dsimp only at hSw); go_simp; (try with_reducible rfl))
   try simp only [Act.put, List.setIfInBounds_toArray, List.set_cons_zero, List.set_cons_succ]
   refine' wpAnyH_take (i := 21) (oi := _) (v := _) ?h1e21 ?h2e21 ?h3e21 ?h4e21 ?h5e21 ?h6e21 (by assumption) ?h8e21
   case h1e21 => (set_option linter.unusedSimpArgs false in simp only [List.getElem?_toArray, List.getElem?_cons_zero, List.getElem?_cons_succ]; rfl)
   case h2e21 => kernel_rfl
   case h3e21 => kernel_rfl
   case h4e21 => kernel_rfl
   case h5e21 => exact fun _ _ _ h => False.elim h
   case h6e21 => (refine Or.inl ⟨by rfl, ?_⟩; intro w hSw; (try dsimp only at hSw); go_simp; (try with_reducible rfl))
   try simp only [Act.put, List.setIfInBounds_toArray, List.set_cons_zero, List.set_cons_succ]
   refine wpAnyH_done (by kernel_rfl) ?_ _
   refine NoPanic.normal ?_
   have hz3 := HW3.out.size
   have BR3 := hid (BR2.out.below HW3.out (by omega))
   have HLK := hid (fun W' (h : Below w.heap.size w W') => (HC.out.below h).2.2.2.2.2.2.2.look (znW HOK.out))
   unfold keyT keyV at HLK
   rw [HX0.out, HX1.out, HX2.out] at HLK
   obtain ⟨u, hrun, hce⟩ := HLK.out w3.drew HB3.out.drew
   obtain ⟨u', hrun', hce'⟩ := HLK.out ((w3.alloc (.cells #[.int .i64 0, .slice none 0 0, .slice none 0 0, .slice none 0 0] 125)).drew) ((HB3.out.alloc HB3.out.size _).drew)
   obtain ⟨D1, d1, D2, d2, D3, d3, rfl⟩ := hce.lit
   obtain ⟨E1, e1, E2, e2, E3, e3, rfl⟩ := hce'.lit
   have hE := fun i (hi : D i /\ i ≠ m) => HC.out.2.2.2.1 i hi.1
   have hzw := HB3.out.size
   have k0 : w2.cell? ⟨w1.heap.size, 0, none⟩ = some (.int .i64 x0) := by rw [HW2.out]; simp [go_sem]
   have k1 : w2.cell? ⟨w1.heap.size, 1, none⟩ = some (.int .i64 x1) := by rw [HW2.out]; simp [go_sem]
   have k2 : w2.cell? ⟨w1.heap.size, 2, none⟩ = some (.int .i64 x2) := by rw [HW2.out]; simp [go_sem]
   have k0 := zc HW3.out (by omega) k0
   have k1 := zc HW3.out (by omega) k1
   have k2 := zc HW3.out (by omega) k2
   have y2 : w3.cell? ⟨p, 2, none⟩ = _ := zc HB3.out hpl hp2
   have hkz : w1.heap.size < w3.heap.size := by omega
   have hpz : p < w3.heap.size := by omega
   have HCE := hid (hce.kept (w' := (w3.alloc (.cells #[.int .i64 (getC L k).n, .slice D1 (getC L k).s.length d1, .slice D2 (getC L k).lo.length d2, .slice D3 (getC L k).hi.length d3] 125)).drew) (fun i hi => (bl1 w3 _).block i (by have := hE i hi; omega)))
   have HCE' := hid (hce'.kept (w' := (w3.alloc (.cells #[.int .i64 (getC L k).n, .slice E1 (getC L k).s.length e1, .slice E2 (getC L k).lo.length e2, .slice E3 (getC L k).hi.length e3] 125)).drew) (fun i hi => ((bl1 w3 _).block i (by have := hE i hi; omega)).trans ((bl1 w3 (.cells #[.int .i64 0, .slice none 0 0, .slice none 0 0, .slice none 0 0] 125)).block i (by have := hE i hi; omega)).symm))
   clear hce hce' p0 p1 p2 p3 f0 f1 f2 f3 y1
   generalize hbs : (getK L k).isSome = bs at *
   generalize hgc : getC L k = y at *
   have HBS := hid hbs; have HGC := hid hgc
   clear hbs hgc
   go_upto_region 4 with (fail)
   go_cut [9, 10] from 41 to 50 (fun s9 s10 wx => LkC w3 (fun i => D i /\ i ≠ m) y bs s9 s10 wx)
   case first =>
    go_wp2
    go_region
    all_goals go_wp2
    all_goals go_meet
    all_goals
     case rel =>
      first
       | exact ⟨_, w3.heap.size, D1, d1, D2, d2, D3, d3, rfl, rfl, rfl, Nat.le_refl _, (by show w3.heap.size < (w3.alloc _).heap.size; simp), (Blk.new w3 _ _ _ _ _).qu ⟨1, rfl⟩, HCE.out, (bl1 w3 _).drew⟩
       | exact ⟨_, w3.heap.size, E1, e1, E2, e2, E3, e3, rfl, rfl, rfl, Nat.le_refl _, (by show w3.heap.size < (w3.alloc _).heap.size; simp), (Blk.new w3 _ _ _ _ _).qu ⟨1, rfl⟩, HCE'.out, (bl1 w3 _).drew⟩
   case rest =>
   obtain ⟨wx, N, E1', e1', E2', e2', E3', e3', rfl, rfl, rfl, hN1, hN2, hbk, hcy, hbx⟩ := hcut
   have hsx := hbx.size
   have HBX := hid (HB3.out.trans (hbx.mono (by omega)))
   have BRX := hid (BR3.out.below hbx (by omega))
   have k0 := zc hbx hkz k0
   have k1 := zc hbx hkz k1
   have k2 := zc hbx hkz k2
   have y2 := zc hbx hpz y2
   have HCY := hid hcy; have HBK := hid hbk
   have hwx : w.heap.size < wx.heap.size := by omega
   clear hcy hbk hrun hrun' HCE HCE'
   rcases HWW.out with ⟨hg, hres⟩ | ⟨z, hg, hmer⟩
   ·obtain rfl : bs = false := by rw [<- HBS.out, hg]; rfl
    have HRS := hid hres
    clear hg hres
    obtain ⟨p0, p1, p2, p3, -, -, -, -⟩ := BRX.out
    have HCP := hid (fun W' (h : Below wx.heap.size wx W') => zcg (.agg #[.int .i64 c.n, .slice A1 c.s.length c1, .slice A2 c.lo.length c2, .slice A3 c.hi.length c3]) c W' ((HX.out.below ((HBX.out).trans (h.mono (by omega)))).more (by have := h.size; omega)) (by have q := (HMP.out rfl).1; have q1 := q.1; have q2 := q.2.1; have q3 := q.2.2; omega))
    have hst := hid (fun (W' : World) (u : Value) (H : Nat) (hb : Below w.heap.size w W') (ho : OwnC W' H u c) (hH : w.heap.size <= H) => HC.out.store HS.out hW hL (znW HOK.out) hb ho hH)
    unfold keyT keyV at hst
    rw [HX0.out, HX1.out, HX2.out] at hst
    go_wp2
    go_region_held3 (fun w' => w'.cell? ⟨p, 2, none⟩ = some (.map (some m)) /\ w'.cell? ⟨w1.heap.size, 0, none⟩ = some (.int .i64 x0) /\ w'.cell? ⟨w1.heap.size, 1, none⟩ = some (.int .i64 x1) /\ w'.cell? ⟨w1.heap.size, 2, none⟩ = some (.int .i64 x2) /\ w'.cell? ⟨w.heap.size, 0, none⟩ = some (.int .i64 c.n) /\ w'.cell? ⟨w.heap.size, 1, none⟩ = some (.slice A1 c.s.length c1) /\ w'.cell? ⟨w.heap.size, 2, none⟩ = some (.slice A2 c.lo.length c2) /\ w'.cell? ⟨w.heap.size, 3, none⟩ = some (.slice A3 c.hi.length c3)) (go_keep)
     ((go_at_call 95; (with_reducible refine (HCP.out _ (Below.refl _ _).drew).mono ?_); rintro e w5 ⟨y5, rfl, ho5, hb5⟩; have hb5 : Below wx.heap.size wx w5 := (Below.refl _ _).drew.trans hb5; have hB5 := HBX.out.trans (hb5.mono (by omega)); have hwl := hb5.size; have hml := HC.out.2.2.2.1 m HC.out.2.1; have hpm := HC.out.2.2.1; have y2 := zc hb5 (by omega) y2; have k0 := zc hb5 (by omega) k0; have k1 := zc hb5 (by omega) k1; have k2 := zc hb5 (by omega) k2; have p0 := zc hb5 (by omega) p0; have p1 := zc hb5 (by omega) p1; have p2 := zc hb5 (by omega) p2; have p3 := zc hb5 (by omega) p3; have ho6 := ho5; obtain ⟨g1, g2, g3, rfl, ho1, ho2, ho3, -, -⟩ := ho5; obtain ⟨F1, f1, rfl, -, -, -⟩ := zl ho1; obtain ⟨F2, f2, rfl, -, -, -⟩ := zl ho2; obtain ⟨F3, f3, rfl, -, -, -⟩ := zl ho3; obtain ⟨w7, hrun7, hcw7, hgr7, hu7, hu7'⟩ := hst.out w5 _ _ hB5 ho6 (by show w.heap.size <= wx.heap.size; omega); have HCW := hid hcw7; have HGR := hid hgr7; have HU7 := hid hu7; have y2' := hu7'.cellAt (by omega) (hpm) y2; have k0' := hu7'.cellAt (by omega) ((by omega)) k0; have k1' := hu7'.cellAt (by omega) ((by omega)) k1; have k2' := hu7'.cellAt (by omega) ((by omega)) k2; have p0' := hu7'.cellAt (by omega) ((by omega)) p0; have p1' := hu7'.cellAt (by omega) ((by omega)) p1; have p2' := hu7'.cellAt (by omega) ((by omega)) p2; have p3' := hu7'.cellAt (by omega) ((by omega)) p3; clear ho1 ho2 ho3 ho6 hcw7 hgr7 hu7 hu7'))
    go_wp2
    go_ret
    exact zmA HRS.out rfl HCW.out HGR.out HU7.out
   ·rw [HGN.out] at hg; cases hg
end Go.Proofs.YtgoapnkdcfcjgaaGreat
