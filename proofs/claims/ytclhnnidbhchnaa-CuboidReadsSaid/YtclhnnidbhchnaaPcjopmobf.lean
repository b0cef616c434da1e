/- 3 texts of this claim, in build order. -/
import Derived.Test.YtclhnnidbhchnaaPmcbaoioa
import Derived.Test.YtclhnnidbhchnaaPcdipbcdo
import Derived.Test.YtclhnnidbhchnaaPakdbjanm
import Derived.Test.YtclhnnidbhchnaaPbfcailpg
import Derived.Test.YtclhnnidbhchnaaPdfiepabg
import Derived.Test.YtclhnnidbhchnaaPgmfaoheo
import Derived.BigQuiet
import Derived.Deep.QuietTactic
/- The reference's cuboid: Add. -/
namespace Go.Proofs.Ytclhnnidbhchnaa
open Go.ChangeShapes Go.WideShapes Go.ChangeAt Go.RowKit
set_option linter.unusedVariables false
set_option linter.unusedSimpArgs false

/-- It may own more. -/
theorem RefC.grow {w : World} {R R' : Nat → Prop} {r : Nat} {W M : Int} {L : List KC} (h : RefC w R r W M L) (h1 : ∀ i, R i → R' i) (h2 : ∀ i, R' i → i < w.heap.size) : RefC w R' r W M L := by
  obtain ⟨a1, a2, a3, a4, a5, v, es, a6, a7, a8, a9⟩ := h
  exact ⟨h1 _ a1, h2, a3, a4, a5, v, es, a6, a7, fun g hg => ⟨h1 _ (a8 g hg).1, (a8 g hg).2⟩, a9.mono (fun i hi => ⟨h1 _ hi.1, hi.2⟩)⟩
def AddRP (R : Nat → Prop) (r : Nat) (W M : Nat) (p : List KC × Int) (w : World) (e : Ending) (w' : World) : Prop := ∃ R', e = .returned (.int .i64 p.2) ∧ RefC w' R' r W M p.1 ∧ Grow w R R' ∧ Upd r w w'
theorem addRP {R R' : Nat → Prop} {r : Nat} {W M : Nat} {p p' : List KC × Int} {w w' : World} {e : Ending} (h : p = p') (he : e = .returned (.int .i64 p'.2)) (h1 : RefC w' R' r W M p'.1) (h2 : Grow w R R') (h3 : Upd r w w') : AddRP R r W M p w e w' := by
  subst h; exact ⟨R', he, h1, h2, h3⟩
theorem updNew {r : Nat} {w w' : World} (h : Below w.heap.size w w') : Upd r w w' := (Upd.refl r w).new h
set_option maxRecDepth 100000 in
set_option maxHeartbeats 12800000 in
theorem addR_any (R : Nat → Prop) (r : Nat) (W M : Nat) (L : List KC) (v x : Value) (k : List Int) (c : CellM) (w : World) (hr : RefC w R r W M L) (hs : OkL W M L) (hW : W ≤ 3) (hM : M ≤ 2) (hL : L.length ≤ 70000) (hv : Sl w w.heap.size v (ivals k)) (hx : CellE w (fun i => R i ∧ i ≠ r) x c) :
    Calls Try.prog 52 #[.pointer (some ⟨r, 0, none⟩), v, x] w (AddRP R r W M (addK W M L k c) w) := by
  obtain ⟨K, kc, rfl, hkc, hkm⟩ := hv.formI
  obtain ⟨A1, c1, A2, c2, A3, c3, rfl⟩ := hx.lit
  unfold maxLen at hkm
  have hrl := hr.2.1 r hr.1
  have hrM := hr.2.2.2.2.1
  have HR := hid hr; have HX := hid hx; have SV := hid hv; have HS := hid hs
  have HIS := hid (fun W' (h : Below w.heap.size w W') => isR_any R r W M L (.slice K k.length kc) k W' w.heap.size (HR.out.below h) (SV.out.below h))
  have HMY := hid (fun W' (h : Below w.heap.size w W') => refMay_any _ c W' ((HX.out.read.below h).more h.size))
  have hways := add_ways W M L k c
  have hkw : okB W k = true → k.length = W := fun h => (of_decide_eq_true h : okK W k).1
  generalize okB W k = ob at *
  generalize mayC c = mb at *
  have HKW := hid hkw; have HWY := hid hways
  clear hr hx hv hs hkw hways
  go_enter Try.func52, Try.ntmps52
  obtain ⟨W0, hW0⟩ : ∃ W, W = w.alloc (.cells #[.int .i64 c.n, .slice A1 c.s.length c1, .slice A2 c.lo.length c2, .slice A3 c.hi.length c3] 25) := ⟨_, rfl⟩
  have hb0 : Below w.heap.size w W0 := by rw [hW0]; exact bl1 _ _
  have hs0 : W0.heap.size = w.heap.size + 1 := by rw [hW0]; simp
  have br : Blk W0 w.heap.size (.int .i64 c.n) (.slice A1 c.s.length c1) (.slice A2 c.lo.length c2) (.slice A3 c.hi.length c3) := by rw [hW0]; exact Blk.new _ _ _ _ _ _
  have HB0 := hid hb0; have BR := hid br; have HS0 := hid hs0; have HW0 := hid hW0
  clear hb0 br hs0 hW0
  go_wp2_with fail
  rw [← HW0.out]
  refine (HIS.out _ HB0.out).mono ?_
  rintro e w1 ⟨rfl, n1, rfl⟩
  have BRn := BR.out.qu (⟨n1, rfl⟩ : Qu W0 (W0.drewN n1))
  obtain ⟨p0, p1, p2, p3, -, -, -, -⟩ := BRn
  have hz1 : (W0.drewN n1).heap.size = w.heap.size + 1 := HS0.out
  have HB1 := hid (below_drewN HB0.out n1)
  have BR1 := hid (BR.out.qu (⟨n1, rfl⟩ : Qu W0 (W0.drewN n1)))
  generalize W0.drewN n1 = w1 at *
  go_wp2_with fail
  refine (HMY.out _ HB1.out).mono ?_
  rintro e w2 ⟨rfl, hb2⟩
  have hs2 := hb2.size
  have HB2 := hid (HB1.out.trans (hb2.mono (by omega)))
  have BR2 := hid (BR1.out.below hb2 (by omega))
  clear hb2 p0 p1 p2 p3
  obtain ⟨p0, p1, p2, p3, f0, f1, f2, f3⟩ := BR2.out
  have y1 : w2.cell? ⟨r, 1, none⟩ = _ := cellK HB2.out hrl hrM
  rcases HWY.out with ⟨hres, hway⟩ | ⟨rfl, rfl, hcn, hcl, hway⟩
  · have HRS := hid hres; clear hres
    have hway' : ob = false ∨ (ob = true ∧ (mb = false ∨ (mb = true ∧ ((c.n == 0) = true ∨ ((c.n == 0) = false ∧ c.s.length ≠ M))))) := by
      rcases hway with h | ⟨h1, h2⟩ | ⟨h1, h2, h3⟩ | ⟨h1, h2, h3, h4⟩
      · exact .inl h
      · exact .inr ⟨h1, .inl h2⟩
      · exact .inr ⟨h1, .inr ⟨h2, .inl h3⟩⟩
      · exact .inr ⟨h1, .inr ⟨h2, .inr ⟨h3, h4⟩⟩⟩
    clear hway
    rcases hway' with rfl | ⟨rfl, rfl | ⟨rfl, hz | ⟨hz, hne⟩⟩⟩
    · go_wp2
      go_quiet (fail)
      go_wp2
      go_ret
      exact addRP HRS.out rfl ((HR.out.below HB2.out).below (below_drewN (Below.refl _ _) _)) (Grow.refl _ _) (updNew (below_drewN HB2.out _))
    · go_wp2
      go_quiet (fail)
      go_wp2
      go_ret
      exact addRP HRS.out rfl ((HR.out.below HB2.out).below (below_drewN (Below.refl _ _) _)) (Grow.refl _ _) (updNew (below_drewN HB2.out _))
    · go_wp2
      go_quiet (fail)
      go_wp2
      go_ret
      exact addRP HRS.out rfl ((HR.out.below HB2.out).below (below_drewN (Below.refl _ _) _)) (Grow.refl _ _) (updNew (below_drewN HB2.out _))
    · have u1 : ((c.s.length : Int) != (M : Int)) = true := by rw [bne_iff_ne]; omega
      have u2 : (c.s.length != M) = true := by simpa using hne
      clear hne
      go_wp2
      go_quiet (fail)
      go_wp2
      go_ret
      exact addRP HRS.out rfl ((HR.out.below HB2.out).below (below_drewN (Below.refl _ _) _)) (Grow.refl _ _) (updNew (below_drewN HB2.out _))
  · have u1 : ((c.s.length : Int) != (M : Int)) = false := by simp [hcl]
    have u2 : (c.s.length != M) = false := by simp [hcl]
    have HCN := hid hcn; have HCL := hid hcl; have HWW := hid hway
    clear hcl hway
    go_wp2
    go_quiet (fail)
    have HBn := hid (below_drewN HB2.out nq)
    have BRn := hid (BR2.out.qu (⟨nq, rfl⟩ : Qu w2 (w2.drewN nq)))
    have hzn : (w2.drewN nq).heap.size = w2.heap.size := rfl
    clear p0 p1 p2 p3 f0 f1 f2 f3 y1
    generalize w2.drewN nq = w3 at *
    have HGT := hid (getR_any R r W M L (.slice K k.length kc) k w3 (HR.out.below HBn.out) ((SV.out.below HBn.out).more HBn.out.size))
    go_wp2_with fail
    refine HGT.out.mono ?_
    rintro e w4 ⟨y, rfl, hce, hb4⟩
    obtain ⟨D1, d1, D2, d2, D3, d3, rfl⟩ := hce.lit
    have hs4 := hb4.size
    have HB4 := hid (HBn.out.trans (hb4.mono (by omega)))
    have BR4 := hid (BRn.out.below hb4 (by omega))
    have HCE := hid hce
    clear hb4 hce
    have HSET := hid (fun W' (u : Value) (d : CellM) (hW' : Below w.heap.size w W') (hd : CellE W' (fun i => (R i ∨ (w.heap.size ≤ i ∧ i < W'.heap.size)) ∧ i ≠ r) u d) =>
      setR_any (fun i => R i ∨ (w.heap.size ≤ i ∧ i < W'.heap.size)) r W M L (.slice K k.length kc) u k d 0 W'
        ((HR.out.below hW').grow (fun i hi => .inl hi) (fun i hi => by have := hW'.size; rcases hi with h | h; have := HR.out.2.1 i h; omega; exact h.2))
        HS.out.sort hL (by have := HKW.out (by trivial); omega) ((SV.out.below hW').more hW'.size) hd)
    have HGR := hid (fun W' => (⟨fun i hi => .inl hi, fun i hi => hi.imp id (fun h => h.1)⟩ : Grow w R (fun i => R i ∨ (w.heap.size ≤ i ∧ i < W'))))
    rcases HWW.out with ⟨hg, hres⟩ | ⟨z, hg, hmer⟩
    · have HRS := hid hres
      have hgs : (getK L k).isSome = false := by rw [hg]; rfl
      rw [hgs]
      clear hg hres hgs
      obtain ⟨p0, p1, p2, p3, -, -, -, -⟩ := BR4.out.alloc (by omega) (.cells #[.int .i64 (getC L k).n, .slice D1 (getC L k).s.length d1, .slice D2 (getC L k).lo.length d2, .slice D3 (getC L k).hi.length d3] 25)
      have HB5 := hid (HB4.out.trans ((bl1 w4 (.cells #[.int .i64 (getC L k).n, .slice D1 (getC L k).s.length d1, .slice D2 (getC L k).lo.length d2, .slice D3 (getC L k).hi.length d3] 25)).mono (by omega)))
      have HSE := hid (HSET.out _ _ c HB5.out ((HX.out.kept (fun i hi => HB5.out.block i (HR.out.2.1 i hi.1))).mono (fun i hi => ⟨.inl hi.1, hi.2⟩)))
      go_wp2_with fail
      refine HSE.out.mono ?_
      rintro e WF ⟨R3, rfl, hr3, hg3, hu3⟩
      have HR3 := hid hr3; have HG3 := hid hg3; have HU3 := hid hu3
      clear hr3 hg3 hu3
      go_wp2
      go_ret
      exact addRP HRS.out rfl HR3.out (Grow.trans (HGR.out _) HG3.out HB5.out.size) ((updNew HB5.out).trans HU3.out)
    · have hz := HS.out.full _ (getK_mem hg)
      have hzm := HS.out.len _ (getK_mem hg)
      have hzy := HS.out.may _ (getK_mem hg)
      have hzb : (z.n == 0) = false := by simpa using hz
      have hgs : (getK L k).isSome = true := by rw [hg]; rfl
      have hgc : getC L k = z := by unfold getC; rw [hg]; rfl
      rw [hgc] at HCE ⊢
      rw [hgs]
      simp only at hzm hzy
      have HZ := hid hzb; have HMER := hid hmer
      have hzl := hzy.1
      clear hg hz hzm hzb hgs hgc hzy hmer
      have hcn := HCN.out
      obtain ⟨W5, hW5⟩ : ∃ W, W = w4.alloc (.cells #[.int .i64 z.n, .slice D1 z.s.length d1, .slice D2 z.lo.length d2, .slice D3 z.hi.length d3] 25) := ⟨_, rfl⟩
      have HW5 := hid hW5
      have hb5 : Below w4.heap.size w4 W5 := by rw [hW5]; exact bl1 _ _
      have hs5 : W5.heap.size = w4.heap.size + 1 := by rw [hW5]; simp
      have b5 : Blk W5 w4.heap.size (.int .i64 z.n) (.slice D1 z.s.length d1) (.slice D2 z.lo.length d2) (.slice D3 z.hi.length d3) := by rw [hW5]; exact Blk.new _ _ _ _ _ _
      have HB5 := hid (HB4.out.trans (hb5.mono (by omega)))
      have BR5 := hid (BR4.out.below hb5 (by omega))
      have HMF := hid (refMergeF_any (.agg #[.int .i64 z.n, .slice D1 z.s.length d1, .slice D2 z.lo.length d2, .slice D3 z.hi.length d3]) (.agg #[.int .i64 c.n, .slice A1 c.s.length c1, .slice A2 c.lo.length c2, .slice A3 c.hi.length c3]) z c W5 ((HCE.out.read.below hb5).more hb5.size) ((HX.out.read.below HB5.out).more HB5.out.size) HZ.out hcn)
      have B5 := hid b5
      have HS5 := hid hs5
      clear hb5 hs5 b5 hW5 hcn hzl
      obtain ⟨p0, p1, p2, p3, -, -, -, -⟩ := BR4.out
      have hlt4 : w.heap.size < w4.heap.size := by omega
      go_wp2_with fail
      rw [← HW5.out]
      refine HMF.out.mono ?_
      rintro e w6 ⟨y, rfl, ho, hb6⟩
      have hs6 := hb6.size
      have hs5 := HS5.out
      have hce := CellE.of_own ho
      obtain ⟨E1, e1, E2, e2, E3, e3, rfl⟩ := hce.lit
      have HB6 := hid (HB5.out.trans (hb6.mono (by omega)))
      have BR6 := hid (BR5.out.below hb6 (by omega))
      have HCZ := hid hce
      clear ho hb6 hce p0 p1 p2 p3
      generalize hm : mergeC z c = m at *
      have HM := hid hm
      clear hm
      obtain ⟨mc, me⟩ := m
      simp only at *
      rcases HMER.out with ⟨h0, hres⟩ | ⟨h0, hres⟩
      · have h0 : me = 0 := h0
        subst h0
        have HRS := hid hres
        clear hres
        have t1 : ((0 : Int) != 0) = false := rfl
        obtain ⟨p0, p1, p2, p3, f0, f1, f2, f3⟩ := BR6.out
        have hlt6 : w.heap.size < w6.heap.size := by omega
        have hne6 : w.heap.size ≠ w6.heap.size := by omega
        have hne6' : w6.heap.size ≠ w.heap.size := by omega
        have hU : Upd w.heap.size w6 (((((w6.setCell ⟨w.heap.size, 0, none⟩ (.int .i64 mc.n)).setCell ⟨w.heap.size, 1, none⟩ (.slice E1 mc.s.length e1)).setCell ⟨w.heap.size, 2, none⟩ (.slice E2 mc.lo.length e2)).setCell ⟨w.heap.size, 3, none⟩ (.slice E3 mc.hi.length e3)).alloc (.cells #[.int .i64 mc.n, .slice E1 mc.s.length e1, .slice E2 mc.lo.length e2, .slice E3 mc.hi.length e3] 25)) :=
          (upd4 w.heap.size w6 _ _ _ _).new ((bl1 _ _).mono (by simp [World.setCell]))
        have hB8 := HB6.out.trans (hU.below (Nat.le_refl _) hlt6)
        have hC8 := HCZ.out.kept (w' := (((((w6.setCell ⟨w.heap.size, 0, none⟩ (.int .i64 mc.n)).setCell ⟨w.heap.size, 1, none⟩ (.slice E1 mc.s.length e1)).setCell ⟨w.heap.size, 2, none⟩ (.slice E2 mc.lo.length e2)).setCell ⟨w.heap.size, 3, none⟩ (.slice E3 mc.hi.length e3)).alloc (.cells #[.int .i64 mc.n, .slice E1 mc.s.length e1, .slice E2 mc.lo.length e2, .slice E3 mc.hi.length e3] 25))) (fun i hi => hU.block i hi.2 (fun e => by injection e with e; omega))
        have hsz8 := hU.size
        have HSE := hid (HSET.out _ _ mc hB8 (hC8.mono (fun i hi => ⟨.inr ⟨by omega, by omega⟩, by omega⟩)))
        have HB8 := hid hB8
        clear hU hB8 hC8 hsz8
        go_wp2_with fail
        refine HSE.out.mono ?_
        rintro e WF ⟨R3, rfl, hr3, hg3, hu3⟩
        have HR3 := hid hr3; have HG3 := hid hg3; have HU3 := hid hu3
        clear hr3 hg3 hu3
        go_wp2
        go_ret
        exact addRP HRS.out rfl HR3.out (Grow.trans (HGR.out _) HG3.out HB8.out.size) ((updNew HB8.out).trans HU3.out)
      · have HRS := hid hres
        have h0 : me ≠ 0 := h0
        have t1 : (me == 0) = false := by simpa using h0
        have t2 : (me != 0) = true := by simpa using h0
        clear hres h0
        have HB7 := hid (HB6.out.trans ((bl1 w6 (.cells #[.int .i64 mc.n, .slice E1 mc.s.length e1, .slice E2 mc.lo.length e2, .slice E3 mc.hi.length e3] 25)).mono (by omega)))
        go_wp2
        go_ret
        exact addRP HRS.out rfl (HR.out.below HB7.out) (Grow.refl _ _) (updNew HB7.out)
end Go.Proofs.Ytclhnnidbhchnaa
/- Contract of the reference's Same (bytes). -/
namespace Go.Proofs.Ytclhnnidbhchnaa
open Go.ChangeShapes Go.WideShapes Go.ChangeAt Go.RowKit
set_option linter.unusedVariables false

def SameRelB (l r : List UInt8) (w : World) (i : Value) (wr : World) : Prop := ∃ k : Nat, k ≤ l.length ∧ i = .int .i64 k ∧ l.take k = r.take k ∧ Qu w wr
def SamePostB (l r : List UInt8) (w : World) (e : Ending) (w' : World) : Prop := e = .returned (.bool (decide (l = r))) ∧ Qu w w'
set_option maxRecDepth 100000 in
set_option maxHeartbeats 400000 in
theorem sameB_any (v x : Value) (l r : List UInt8) (w : World) (hl : l.length ≤ 140737488355328) (hr : r.length ≤ 140737488355328) (hv : Sl w w.heap.size v (bvals l)) (hx : Sl w w.heap.size x (bvals r)) :
    Calls Try.prog 19 #[v, x] w (SamePostB l r w) := by
  obtain ⟨A, c, rfl, hc1, hc2, hA⟩ := hv
  obtain ⟨A', c', rfl, hc1', hc2', hA'⟩ := hx
  simp only [bvals_len] at hc1 hc1' ⊢
  have HA := hid hA; have HA' := hid hA'
  clear hA hA'
  go_enter Try.func19, Try.ntmps19
  by_cases hlen : l.length = r.length
  · have t1 : ((l.length : Int) != (r.length : Int)) = false := by simp [hlen]
    have HL := hid hlen; clear hlen
    go_wp2
    go_loopw [5] (fun i wr => SameRelB l r w i wr) (fun i _ => l.length - (intOf i).toNat)
    case atStart => exact ⟨0, by omega, rfl, rfl, Qu.refl _⟩
    case round =>
      obtain ⟨k, hk, rfl, hsame, hq⟩ := hrel
      have HS := hid hsame; clear hsame
      by_cases hlt : k < l.length
      · have hlt' : k < r.length := by have := HL.out; omega
        obtain ⟨b, off, rfl, hbl, hcell⟩ := Sl.byte HA.out hlt
        obtain ⟨b', off', rfl, hbl', hcell'⟩ := Sl.byte HA'.out hlt'
        have g1 : wr.cell? ⟨b, off + k, none⟩ = _ := (hq.cell _).trans hcell
        have g2 : wr.cell? ⟨b', off' + k, none⟩ = _ := (hq.cell _).trans hcell'
        clear hcell hcell'
        have e1 : l.take (k + 1) = l.take k ++ [l[k]] := List.take_succ_eq_append_getElem hlt
        have e2 : r.take (k + 1) = r.take k ++ [r[k]] := List.take_succ_eq_append_getElem hlt'
        by_cases he : l[k] = r[k]
        · have hs' : l.take (k + 1) = r.take (k + 1) := by rw [e1, e2, HS.out, he]
          have t2 : ((l[k].toNat : Int) != (r[k].toNat : Int)) = false := by simp [he]
          have HS' := hid hs'
          clear e1 e2 he hs'
          generalize l[k].toNat = p at *
          generalize r[k].toNat = q at *
          go_wp2
          go_quiet (fail)
          go_wp2
          go_roundw
          case rel => exact ⟨k + 1, by omega, by go_num, HS'.out, hq.drewN _⟩
          case measure => simp [intOf]; omega
        · have hne : decide (l = r) = false := by
            rw [decide_eq_false_iff_not]; intro h; subst h; exact he rfl
          have t2 : ((l[k].toNat : Int) != (r[k].toNat : Int)) = true := by
            simp only [bne_iff_ne, ne_eq]; intro h; exact he (UInt8.toNat_inj.1 (by omega))
          have HN := hid hne
          clear e1 e2 he hne
          generalize l[k].toNat = p at *
          generalize r[k].toNat = q at *
          go_wp2
          go_quiet (fail)
          go_wp2
          go_ret
          exact ⟨by rw [HN.out]; rfl, hq.drewN _⟩
      · have heq : decide (l = r) = true := by
          have hl := HL.out
          have := HS.out
          rw [List.take_of_length_le (by omega), List.take_of_length_le (by omega)] at this
          rw [this]; simp
        have HE := hid heq; clear heq
        go_wp2
        go_ret
        exact ⟨by rw [HE.out]; rfl, hq⟩
  · have t1 : ((l.length : Int) != (r.length : Int)) = true := by simp; omega
    have hne : decide (l = r) = false := by
      rw [decide_eq_false_iff_not]; intro h; exact hlen (by rw [h])
    have HN := hid hne; clear hne
    have HL := hid hlen; clear hlen
    go_wp2
    go_ret
    exact ⟨by rw [HN.out]; rfl, Qu.refl _⟩
end Go.Proofs.Ytclhnnidbhchnaa
/- The law's like. -/
namespace Go.Proofs.Ytclhnnidbhchnaa
open Go.ChangeShapes Go.WideShapes Go.ChangeAt Go.RowKit Go.Maps
set_option linter.unusedVariables false
set_option linter.unusedSimpArgs false

def LkRel (L : List KC) (w2 : World) (i : Value) (wr : World) : Prop := ∃ k : Nat, k ≤ L.length ∧ i = .int .i64 k ∧ Below w2.heap.size w2 wr
theorem putCub_len {W M : Nat} {L : List KC} (hs : OkL W M L) (hW : W ≤ 3) (hM : M ≤ 2) (hL : L.length ≤ 600) : (putCub L).length ≤ 70000 := by
  have h1 := putKCs_len hs hW hM
  have h2 := putInt_le (L.length : Int)
  unfold putCub
  rw [List.length_append]
  omega
set_option maxRecDepth 100000 in
set_option maxHeartbeats 6400000 in
theorem like_any (D R : Nat → Prop) (p m r W M : Nat) (L : List KC) (w : World) (hc : CubW w D p m W M L) (hr : RefC w R r W M L) (hs : OkL W M L) (h1W : 1 ≤ W) (hW : W ≤ 3) (hM : M ≤ 2) (hL : L.length ≤ 600) :
    Calls Try.prog 27 #[.pointer (some ⟨p, 0, none⟩), .pointer (some ⟨r, 0, none⟩)] w (LivP w) := by
  have hr0 := hr
  obtain ⟨h1, h2, h3, h4, h5, u, es, h6, h7, h8, h9⟩ := hr
  have hrl := h2 r h1
  obtain ⟨Au, cu, rfl⟩ := own_formN h7
  have HEL := hid (fun j (hj : j < L.length) => RefC.elem h7 h9 hj)
  have HC := hid hc; have HR := hid hr0; have HS := hid hs
  have HKS := hid (keys_any D p m W M L w hc hs hW (by omega))
  clear hc hr0 hs h1 h2 h3 h4 h5 h7 h8 h9
  go_enter Try.func27, Try.ntmps27
  go_wp2_with fail
  refine HKS.out.mono ?_
  rintro e w1 ⟨kv, us, rfl, hown, hrows, hb1⟩
  have hz1 := hb1.size
  rw [List.length_map] at hown
  have hown' := hown
  obtain ⟨A, ca, rfl, -, hca, hAk⟩ := own_cells hown
  unfold maxLen at hca
  have y2 := cellK hb1 hrl h6
  have HLN := hid (fun W' (h : Qu w1 W') => len_any D p m W M L W' ((HC.out.below hb1).qu h))
  have HB1 := hid hb1; have HOW := hid hown'; have HRW := hid hrows; have HAK := hid hAk
  clear hb1 hown hown' hrows hAk
  go_wp2
  go_quiet (first | (go_at_call 56; exact Calls.quiet_of (HLN.out _ ⟨_, rfl⟩)))
  have hq2 : Qu w1 (w1.drewN nq) := ⟨nq, rfl⟩
  have hz2 : (w1.drewN nq).heap.size = w1.heap.size := rfl
  generalize w1.drewN nq = w2 at *
  have HB12 := hid (hq2.below w1.heap.size)
  have y2 := cellK HB12.out (by omega) y2
  have HB2 := hid (HB1.out.trans (HB12.out.mono hz1))
  clear hq2
  go_wp2
  go_loopw [6] (fun i wr => LkRel L w2 i wr) (fun i _ => L.length - (intOf i).toNat)
  case atStart => exact ⟨0, by omega, rfl, Below.refl _ _⟩
  case round =>
    obtain ⟨k, hk, rfl, hb⟩ := hrel
    have hsb := hb.size
    have hbw := HB2.out.trans (hb.mono (by omega))
    have hb1r := HB12.out.trans (hb.mono (by omega))
    have y2 := cellK hb (by omega) y2
    by_cases hlt : k < L.length
    · obtain ⟨ga, rfl, -, hga, -⟩ := HAK.out (by omega)
      have hku : us.length = L.length := by have := HRW.out.1; rw [List.length_map] at this; exact this
      have z0 : w1.cell? ⟨ga, k, none⟩ = some (us.getD k undef) := by
        rw [HOW.out.cellAt k (by omega), List.getD_eq_getElem?_getD, List.getElem?_eq_getElem (by omega)]; rfl
      have hrow := HRW.out.2.1 k (by rw [List.length_map]; exact hlt)
      have e0 : (L.map Prod.fst).getD k [] = (L.getD k zK).1 := by simp [List.getD_eq_getElem?_getD, hlt]
      rw [e0] at hrow
      obtain ⟨g, cap, K, kc, A1, c1, A2, c2, A3, c3, e1, hg0, hgl, hnc, hcm, -, q0, q1, q2, q3, q4, hsk, hce⟩ := HEL.out k hlt
      injection e1 with e1 _ e2
      subst e1; subst e2
      have q0 := cellK hbw hgl q0
      have q1 := cellK hbw hgl q1
      have q2 := cellK hbw hgl q2
      have q3 := cellK hbw hgl q3
      have q4 := cellK hbw hgl q4
      have z0 := cellK hb1r hga z0
      have hmem := getD_memK hlt
      have hok : okB W (L.getD k zK).1 = true := decide_eq_true (HS.out.key _ hmem)
      have hgc : getC L (L.getD k zK).1 = (L.getD k zK).2 := by unfold getC; rw [getK_of_mem HS.out.sort hmem]; rfl
      have hgs : (getK L (L.getD k zK).1).isSome = true := by rw [getK_of_mem HS.out.sort hmem]; rfl
      generalize (L.getD k zK).2 = c at *
      generalize (L.getD k zK).1 = key at *
      generalize us.getD k undef = uv at *
      obtain ⟨Ku, ku, rfl, -, -, -⟩ := own_cells hrow
      have hs1 : Sl wr wr.heap.size (.slice Ku key.length ku) (ivals key) := ((Sl.of_own hrow).below hb1r).more (by omega)
      have hs2 : Sl wr wr.heap.size (.slice K key.length kc) (ivals key) := (hsk.sl.below hbw).more (by omega)
      have HSM := hid (fun W' (hq : Qu wr W') => same8_any (.slice Ku key.length ku) (.slice K key.length kc) key key W' wr.heap.size wr.heap.size (hs1.qu' hq) (hs2.qu' hq))
      rw [decide_eq_true rfl] at HSM
      have SL1 := hid hs1; have HCE := hid hce.read; have HOK := hid hok
      have hcw := HC.out.below hbw
      have HG := hid (fun W' (h : Below wr.heap.size wr W') => getC_yes D p m W M L (.slice Ku key.length ku) key W' (hcw.below (h.mono (by have := hcw.2.2.2.1; omega))) HS.out ((hs1.below h).more h.size) h1W hW hM hok)
      rw [hgc, hgs] at HG
      have HBW := hid hbw; have HBB := hid hb
      have hgw : g < wr.heap.size := by omega
      have hrw : r < wr.heap.size := by omega
      clear hs1 hs2 hsk hce hok hgc hgs hmem hrow e0 hbw hb hb1r hcw
      go_upto_region 7 with (fail)
      go_quiet (first | (go_at_call 59; exact Calls.quiet_of (HSM.out _ ⟨_, rfl⟩)))
      have hq3 : Qu wr (wr.drewN nq) := ⟨nq, rfl⟩
      have hz3 : (wr.drewN nq).heap.size = wr.heap.size := rfl
      generalize wr.drewN nq = w3 at *
      have HB3 := hid (hq3.below wr.heap.size)
      have y2 : w3.cell? _ = _ := (hq3.cell _).trans y2
      have z0 : w3.cell? _ = _ := (hq3.cell _).trans z0
      have q1 : w3.cell? _ = _ := (hq3.cell _).trans q1
      have q2 : w3.cell? _ = _ := (hq3.cell _).trans q2
      have q3 : w3.cell? _ = _ := (hq3.cell _).trans q3
      have q4 : w3.cell? _ = _ := (hq3.cell _).trans q4
      clear hq3 q0
      go_wp2_with fail
      refine (HG.out _ HB3.out).mono ?_
      rintro e w4 ⟨xv, rfl, ho4, hb4⟩
      have hz4 := hb4.size
      have hce4 := CellE.of_own ho4
      obtain ⟨X1, d1, X2, d2, X3, d3, rfl⟩ := hce4.lit
      obtain ⟨W4, hW4⟩ : ∃ W', W' = w4.alloc (.cells #[.int .i64 c.n, .slice X1 c.s.length d1, .slice X2 c.lo.length d2, .slice X3 c.hi.length d3] 25) := ⟨_, rfl⟩
      have hbW4 : Below w4.heap.size w4 W4 := by rw [hW4]; exact bl1 _ _
      have hzW4 : W4.heap.size = w4.heap.size + 1 := by rw [hW4]; simp
      obtain ⟨p0, p1, p2, p3, -, -, -, -⟩ : Blk W4 w4.heap.size (.int .i64 c.n) (.slice X1 c.s.length d1) (.slice X2 c.lo.length d2) (.slice X3 c.hi.length d3) := by rw [hW4]; exact Blk.new _ _ _ _ _ _
      have hb34 := hb4.trans (hbW4.mono hz4)
      have y2 := cellK hb34 (by omega) y2
      have q1 := cellK hb34 (by omega) q1
      have q2 := cellK hb34 (by omega) q2
      have q3 := cellK hb34 (by omega) q3
      have q4 := cellK hb34 (by omega) q4
      have hbr4 := HB3.out.trans (hb34.mono (by omega))
      have HSC := hid (refSameC_any (.agg #[.int .i64 c.n, .slice X1 c.s.length d1, .slice X2 c.lo.length d2, .slice X3 c.hi.length d3]) (.agg #[.int .i64 c.n, .slice A1 c.s.length c1, .slice A2 c.lo.length c2, .slice A3 c.hi.length c3]) c c W4.drew ((ho4.read.below hbW4.drew).more (by show w4.heap.size ≤ W4.heap.size; omega)) (((HCE.out.below HBW.out).below ((hbr4.mono (by omega)).drew)).more (by show w.heap.size ≤ W4.heap.size; omega)))
      rw [decide_eq_true rfl] at HSC
      have HBR4 := hid hbr4; have HW4 := hid hW4
      clear ho4 hb4 hce4 hbW4 hb34 hbr4 hW4
      go_upto_region 9 with (fail)
      rw [← HW4.out]
      have hw4z : w4.heap.size < W4.heap.size := by omega
      have hgW : g < W4.heap.size := by omega
      have hrW : r < W4.heap.size := by omega
      go_region_held3 (fun w' => w'.cell? ⟨w4.heap.size, 0, none⟩ = some (.int .i64 c.n) ∧ w'.cell? ⟨w4.heap.size, 1, none⟩ = some (.slice X1 c.s.length d1) ∧ w'.cell? ⟨w4.heap.size, 2, none⟩ = some (.slice X2 c.lo.length d2) ∧ w'.cell? ⟨w4.heap.size, 3, none⟩ = some (.slice X3 c.hi.length d3) ∧ w'.cell? ⟨r, 2, none⟩ = some (.slice (some ⟨g, 0, none⟩) L.length cu) ∧ w'.cell? ⟨g, k * 5 + 1, none⟩ = some (.int .i64 c.n) ∧ w'.cell? ⟨g, k * 5 + 1 + 1, none⟩ = some (.slice A1 c.s.length c1) ∧ w'.cell? ⟨g, k * 5 + 1 + 2, none⟩ = some (.slice A2 c.lo.length c2) ∧ w'.cell? ⟨g, k * 5 + 1 + 3, none⟩ = some (.slice A3 c.hi.length c3)) (go_keep)
        (((with_reducible refine HSC.out.mono ?_); rintro e w5 ⟨rfl, hb5⟩; have hb5 : Below W4.heap.size W4 w5 := (Below.refl _ _).drew.trans hb5; have y2 := cellK hb5 (by omega) y2; have q1 := cellK hb5 (by omega) q1; have q2 := cellK hb5 (by omega) q2; have q3 := cellK hb5 (by omega) q3; have q4 := cellK hb5 (by omega) q4; have p0 := cellK hb5 (by omega) p0; have p1 := cellK hb5 (by omega) p1; have p2 := cellK hb5 (by omega) p2; have p3 := cellK hb5 (by omega) p3; have HB5 := hid hb5; clear hb5))
      have HBX := hid (HBB.out.trans ((HBR4.out.trans (HB5.out.mono (by omega))).mono hsb))
      go_wp2
      go_roundw
      case rel => exact ⟨k + 1, by omega, by go_num, HBX.out⟩
      case measure => simp [intOf]; omega
    · have HBW := hid hbw
      have HPC := hid (putC_any D p m W M L wr (HC.out.below hbw) HS.out hW hM hL)
      have HPR := hid (fun W' (h : Below w.heap.size w W') => putR_any R r W M W M L W' (HR.out.below h) HS.out hW hM hL)
      have hpl := putCub_len HS.out hW hM hL
      clear hb hbw hb1r
      go_wp2_with fail
      refine HPC.out.mono ?_
      rintro e w3 ⟨v1, rfl, ho1, hb3⟩
      have hz3 := hb3.size
      have HB3 := hid (HBW.out.trans (hb3.mono (by omega)))
      have HO1 := hid ho1
      clear ho1 hb3
      go_wp2_with fail
      refine (HPR.out _ HB3.out).mono ?_
      rintro e w4 ⟨v2, rfl, ho2, hb4⟩
      have HB4 := hid (HB3.out.trans (hb4.mono HB3.out.size))
      have HSB := hid (sameB_any v1 v2 (putCub L) (putCub L) w4 (by omega) (by omega) (HO1.out.on hb4).sl ho2.sl)
      clear ho2 hb4
      go_wp2_with fail
      refine HSB.out.mono ?_
      rintro e w5 ⟨rfl, hq5⟩
      have HB5 := hid (HB4.out.trans (hq5.below _))
      clear hq5
      go_wp2
      go_ret
      exact ⟨rfl, HB5.out⟩
end Go.Proofs.Ytclhnnidbhchnaa
