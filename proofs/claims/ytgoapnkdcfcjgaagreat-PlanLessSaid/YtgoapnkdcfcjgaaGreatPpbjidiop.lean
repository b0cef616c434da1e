/- 1 text of this claim, in build order. -/
import Derived.Test.YtgoapnkdcfcjgaaGreatPmmljdcfd
import Derived.Test.YtgoapnkdcfcjgaaGreatPcdoodoej
import Derived.Deep.RegionLaw
/- lattice.own: a schema in memory of its own. -/
namespace Go.Proofs.YtgoapnkdcfcjgaaGreat
open Go.ChangeShapes Go.WideShapes Go.ChangeAt Go.RowKit Go.Deep
set_option linter.unusedVariables false
set_option linter.unusedSimpArgs false

def OwnSP (s : SchemaX) (w : World) (e : Ending) (w' : World) : Prop :=
  ∃ A1 c1 A2 c2 A3 c3, e = .returned (.agg #[.slice A1 s.1.length c1, .slice A2 s.2.1.length c2, .slice A3 s.2.2.length c3]) ∧ SchO w' w.heap.size (.slice A1 s.1.length c1) (.slice A2 s.2.1.length c2) (.slice A3 s.2.2.length c3) s ∧ Below w.heap.size w w'
def OdRel (ds : List DimX) (N : Nat) (mv : Value) (Wg : World) (i : Value) (wr : World) : Prop :=
  ∃ (k : Nat) (v1 : Value), k ≤ ds.length ∧ i = .int .i64 k ∧ wr.cell? ⟨N, 0, none⟩ = some v1 ∧ wr.frozen? ⟨N, 0, none⟩ = false ∧ wr.cell? ⟨N, 1, none⟩ = some mv ∧ wr.cell? ⟨N, 2, none⟩ = some (.slice none 0 0) ∧ wr.frozen? ⟨N, 2, none⟩ = false ∧ DRow wr (N + 1) v1 (ds.take k) ∧ N < wr.heap.size ∧ Below N Wg wr
def OvRel (ds : List DimX) (vs : List (List Int)) (N : Nat) (v1 mv : Value) (Wg : World) (i : Value) (wr : World) : Prop :=
  ∃ (k : Nat) (v3 : Value), k ≤ vs.length ∧ i = .int .i64 k ∧ wr.cell? ⟨N, 0, none⟩ = some v1 ∧ wr.cell? ⟨N, 1, none⟩ = some mv ∧ wr.cell? ⟨N, 2, none⟩ = some v3 ∧ wr.frozen? ⟨N, 2, none⟩ = false ∧ DRow wr (N + 1) v1 ds ∧ RowI wr (N + 1) v3 (vs.take k) ∧ N < wr.heap.size ∧ Below N Wg wr
theorem dims_at {w : World} {B : Nat} {A : Option Addr} {n c : Nat} {l : List DimX} (h : rdSlice 2 rdDim w B [.slice A n c] l) {k : Nat} (hk : k < l.length) :
    ∃ b off AL cL, A = some ⟨b, off, none⟩ ∧ b < B ∧ w.cell? ⟨b, off + k * 2, none⟩ = some (.string l[k].1) ∧ w.cell? ⟨b, off + k * 2 + 1, none⟩ = some (.slice AL l[k].2.length cL) ∧ rdStrs w B [.slice AL l[k].2.length cL] l[k].2 := by
  obtain ⟨b, off, rfl, hb, es, hel, hcell, hr⟩ := h.at_ hk
  obtain ⟨hl1, ⟨ex, -⟩, hlv⟩ := hr
  obtain ⟨AL, cL, eL, hL1, hL2⟩ := hlv.open_
  rw [eL] at hlv
  obtain rfl : es = [.string l[k].1, .slice AL l[k].2.length cL] := by
    rw [← List.take_append_drop 1 es, ex, eL]; rfl
  exact ⟨b, off, AL, cL, rfl, hb, hcell 0 _ rfl, hcell 1 _ rfl, hlv⟩
set_option maxRecDepth 100000 in
set_option maxHeartbeats 3200000 in
theorem own_any (v : Value) (s : SchemaX) (w : World) (hv : SchemaV w w.heap.size v s) (hl : s.1.length ≤ 1000) (hl3 : s.2.2.length ≤ 1000) (h2 : ∀ x ∈ s.2.2, x.length ≤ 1000) (hm : s.2.1.length ≤ 1000) (hd : ∀ d ∈ s.1, d.2.length ≤ 1000) :
    Calls Tryz.prog 41 #[v] w (OwnSP s w) := by
  obtain ⟨i0, hi, hz0, hz1, hz2⟩ := info_parts info_dim
  obtain ⟨i1, hi', hz0', hz1', hz2'⟩ := info_parts info_intsV
  obtain ⟨A1, c1, A2, c2, A3, c3, rfl, h1, h2', h3⟩ := hv
  obtain ⟨W1, hW1⟩ : ∃ W, W = (w.alloc (.cells #[.slice A1 s.1.length c1, .slice A2 s.2.1.length c2, .slice A3 s.2.2.length c3] 26)).alloc (.cells #[.slice none 0 0, .slice none 0 0, .slice none 0 0] 26) := ⟨_, rfl⟩
  obtain ⟨H, hH⟩ : ∃ H, H = w.heap.size := ⟨_, rfl⟩
  have g1 : Below H w W1 := by rw [hW1, hH]; exact (bl1 _ _).alloc (by simp) _
  have z1 : W1.heap.size = H + 1 + 1 := by rw [hW1, hH]; simp
  have q0 : W1.cell? ⟨H, 0, none⟩ = some (.slice A1 s.1.length c1) := by rw [hW1, hH]; simp [go_sem]
  have q1 : W1.cell? ⟨H, 1, none⟩ = some (.slice A2 s.2.1.length c2) := by rw [hW1, hH]; simp [go_sem]
  have q2 : W1.cell? ⟨H, 2, none⟩ = some (.slice A3 s.2.2.length c3) := by rw [hW1, hH]; simp [go_sem]
  have p0 : W1.cell? ⟨H + 1, 0, none⟩ = some (.slice none 0 0) := by rw [hW1, hH]; simp [go_sem]
  have p1 : W1.cell? ⟨H + 1, 1, none⟩ = some (.slice none 0 0) := by rw [hW1, hH]; simp [go_sem]
  have p2 : W1.cell? ⟨H + 1, 2, none⟩ = some (.slice none 0 0) := by rw [hW1, hH]; simp [go_sem]
  have f0 : W1.frozen? ⟨H + 1, 0, none⟩ = false := by rw [hW1, hH]; simp [go_sem]
  have f1 : W1.frozen? ⟨H + 1, 1, none⟩ = false := by rw [hW1, hH]; simp [go_sem]
  have f2 : W1.frozen? ⟨H + 1, 2, none⟩ = false := by rw [hW1, hH]; simp [go_sem]
  rw [← hH] at h1 h2' h3
  obtain ⟨hc1, hm1⟩ := h1.cap
  obtain ⟨hc3, hm3⟩ := h3.cap
  have HCM := hid (cloneS_any (.slice A2 s.2.1.length c2) s.2.1 W1 (good_strs.more (good_strs.stays h2' g1) (by omega)) (by omega))
  have HD := hid h1; have H3 := hid h3; have H2 := hid h2; have HDL := hid hd
  have HW1 := hid hW1; have G1 := hid g1; have HH := hid hH; have Z1 := hid z1
  unfold OwnSP SchO
  rw [← hH]
  clear h1 h2' h3 h2 hd hW1 g1 hH z1
  obtain ⟨dims, ms, vs⟩ := s
  simp only at *
  go_enter Tryz.func41, Tryz.ntmps41
  go_upto_region 1 with (fail)
  rw [← HW1.out, ← HH.out]
  go_wp2_with fail
  (with_reducible refine HCM.out.mono ?_)
  rintro e w2 ⟨u, rfl, hu, hb2⟩
  obtain ⟨Au, cu, rfl, -, -, -⟩ := own_cells hu
  have hz : H + 1 + 1 ≤ w2.heap.size := by have := hb2.size; rw [Z1.out] at this; exact this
  have hlt1 : H < W1.heap.size := by rw [Z1.out]; omega
  have hlt2 : H + 1 < W1.heap.size := by rw [Z1.out]; omega
  obtain ⟨N, hN⟩ : ∃ N, N = w2.heap.size := ⟨_, rfl⟩
  obtain ⟨Wg, hWg⟩ : ∃ W, W = w2.alloc (.cells #[.slice none 0 0, .slice Au ms.length cu, .slice none 0 0] 26) := ⟨_, rfl⟩
  have gg : Below N w2 Wg := by rw [hWg, hN]; exact bl1 _ _
  have zg : Wg.heap.size = N + 1 := by rw [hWg, hN]; simp
  have n0 : Wg.cell? ⟨N, 0, none⟩ = some (.slice none 0 0) := by rw [hWg, hN]; simp [go_sem]
  have n1 : Wg.cell? ⟨N, 1, none⟩ = some (.slice Au ms.length cu) := by rw [hWg, hN]; simp [go_sem]
  have n2 : Wg.cell? ⟨N, 2, none⟩ = some (.slice none 0 0) := by rw [hWg, hN]; simp [go_sem]
  have m0 : Wg.frozen? ⟨N, 0, none⟩ = false := by rw [hWg, hN]; simp [go_sem]
  have m2 : Wg.frozen? ⟨N, 2, none⟩ = false := by rw [hWg, hN]; simp [go_sem]
  rw [← hN] at hz
  have q0 := cellK gg (by omega) (cellK hb2 hlt1 q0)
  have q2 := cellK gg (by omega) (cellK hb2 hlt1 q2)
  have p0 := cellK gg (by omega) (cellK hb2 hlt2 p0); have p1 := cellK gg (by omega) (cellK hb2 hlt2 p1); have p2 := cellK gg (by omega) (cellK hb2 hlt2 p2)
  have f0 := frozenK gg (by omega) (frozenK hb2 hlt2 f0); have f1 := frozenK gg (by omega) (frozenK hb2 hlt2 f1); have f2 := frozenK gg (by omega) (frozenK hb2 hlt2 f2)
  have BG := hid (show Below H w Wg from G1.out.trans ((hb2.mono (by rw [Z1.out]; omega)).trans (gg.mono (by omega))))
  have HU := hid (show Wg.ownsRow H 9 1 (.slice Au ms.length cu) ms.length (svals ms) from own_kept (own_lessQ hu (by rw [Z1.out]; omega)) (fun g hg => gg.block g (by rw [hN]; exact (hu.lt g hg).2)))
  have HUN := hid (show ∀ g, (Value.slice Au ms.length cu).ownBlock = some g → g < N from fun g hg => by rw [hN]; exact (hu.lt g hg).2)
  have HUNE := hid (show ∀ g, (Value.slice Au ms.length cu).ownBlock = some g → g ≠ H + 1 from fun g hg => by have := (hu.lt g hg).1; rw [Z1.out] at this; omega)
  have HWg := hid hWg; have HN := hid hN; have ZG := hid zg
  have P := hid (And.intro p0 (And.intro p1 p2)); have F := hid (And.intro f0 (And.intro f1 f2)); have N0 := hid n0; have N1 := hid n1; have N2 := hid n2; have M0 := hid m0; have M2 := hid m2; have Q2 := hid q2
  clear gg hu hb2 hWg hN zg q1 p0 p1 p2 f0 f1 f2 n0 n1 n2 m0 m2 hlt1 hlt2 q2
  go_upto_region 2 with (fail)
  rw [← HWg.out, ← HN.out]
  go_wp2
  go_loopw [15] (fun i wr => OdRel dims N (.slice Au ms.length cu) Wg i wr) (fun i _ => dims.length - (intOf i).toNat)
  case atStart => exact ⟨0, _, by omega, rfl, N0.out, M0.out, N1.out, N2.out, M2.out, DRow.nil_ _ _, by rw [ZG.out]; omega, Below.refl _ _⟩
  case round =>
    obtain ⟨k, v1, hk, rfl, e0, y0, e1, e2, y2, hrow, hNs, hb⟩ := hrel
    have HB := hid hb; have HRW := hid hrow
    clear hb hrow
    by_cases hlt : k < dims.length
    · obtain ⟨b, off, AL, cL, rfl, hbl, d0, d1, rl⟩ := dims_at (good_dims.stays HD.out (BG.out.trans (HB.out.mono (by omega)))) hlt
      have ed : dims.take (k + 1) = dims.take k ++ [dims[k]] := List.take_succ_eq_append_getElem hlt
      have hln : k = (dims.take k).length := by rw [List.length_take]; omega
      have hdl := HDL.out _ (List.getElem_mem hlt)
      generalize dims[k] = d at *
      obtain ⟨nm, ls⟩ := d
      simp only at d0 d1 rl hdl ed
      obtain ⟨Wd, hWd⟩ : ∃ W, W = wr.alloc (.cells #[.string nm, .slice AL ls.length cL] 54) := ⟨_, rfl⟩
      have gd : Below wr.heap.size wr Wd := by rw [hWd]; exact bl1 _ _
      have zd : Wd.heap.size = wr.heap.size + 1 := by rw [hWd]; simp
      have w0 : Wd.cell? ⟨wr.heap.size, 0, none⟩ = some (.string nm) := by rw [hWd]; simp [go_sem]
      have w1 : Wd.cell? ⟨wr.heap.size, 1, none⟩ = some (.slice AL ls.length cL) := by rw [hWd]; simp [go_sem]
      have hb' : b < wr.heap.size := by omega
      obtain ⟨es, u1, u2, u3⟩ := HRW.out.on gd
      rw [← hln] at u2
      obtain ⟨Ap, cp, rfl⟩ := own_formB u2
      have c0 := cellK gd hNs e0; have c1' := cellK gd hNs e1; have c2' := cellK gd hNs e2; have x0 := frozenK gd hNs y0; have x2 := frozenK gd hNs y2
      have HCS := hid (fun W (hW : Qu Wd W) => cloneS_any (.slice AL ls.length cL) ls W (good_strs.on (good_strs.more (good_strs.stays rl (gd.mono (show H ≤ wr.heap.size by omega))) (show H ≤ Wd.heap.size by omega)) (hW.below _)) (by omega))
      have HLN := hid hln; have ED := hid ed; have U1 := hid u1; have U3 := hid u3; have HWd := hid hWd; have GD := hid gd; have C2 := hid c2'; have X2 := hid x2
      clear rl u1 u3 hln ed hWd gd e0 e1 e2 y0 y2 c2' x2
      go_upto_region 5 with (fail)
      rw [← HWd.out]
      clear d0 d1
      go_region_law (first
        | (refine step_append_lies _ (by rfl) (.tmp 20) (.tmp 27) 22 (by rfl) (N + 1) 54 i0 (.agg #[.string ByteArray.empty, .slice none 0 0]) 2 40 Tryz.underlying22 hi hz0 hz1 hz2 rfl (by omega) _ k (es.flatMap dim2) (by rfl) ((own_stays u2 B5.out).alloc _) ⟨w5.heap.size, 0, none⟩ 1 1 [.string nm, .slice A5 ls.length c5] (by rfl) rfl (cells_new_atV _ _ _ rfl) (by simp; exact ⟨rfl, rfl⟩) (by omega) (by unfold maxLen; omega) (by omega) (by simp; omega) (w5.heap.size + 1) (by simp) ?_; intro g cap w6 ho6 hg6 hat6 hlt6; have m3 := (World.grownBy.cell_far hg6 ⟨N, 0, none⟩ (by simp; omega) (fun e => by have := (u2.lt _ e.symm).1; simp at this; omega)).trans (cell_alloc (by omega) k0); have m5 := (World.grownBy.frozen_far hg6 ⟨N, 0, none⟩ (by simp; omega) (fun e => by have := (u2.lt _ e.symm).1; simp at this; omega)).trans (frozen_alloc (by omega) k2))
        | (go_simp; go_at_call 62; refine (HCS.out _ ⟨1, rfl⟩).mono ?_; rintro e w5 ⟨u5, rfl, hu5, hb5⟩; have HU5 := hid hu5; have B5 := hid ((Below.refl Wd.heap.size Wd).drew.trans hb5); have z5 := B5.out.size; obtain ⟨A5, c5, rfl, -, -, -⟩ := own_cells HU5.out; have k0 := cellK B5.out (show N < Wd.heap.size by omega) c0; have k1 := cellK B5.out (show N < Wd.heap.size by omega) c1'; have k2 := frozenK B5.out (show N < Wd.heap.size by omega) x0; have j0 := cellK B5.out (show wr.heap.size < Wd.heap.size by omega) w0; have k4 := cell_alloc (o := .cells #[.string nm, .slice A5 ls.length c5] 54) (show N < w5.heap.size by omega) k0; clear hu5 hb5))
      all_goals
        have b6 : Below (N + 1) (w5.alloc (.cells #[.string nm, .slice A5 ls.length c5] 54)) w6 := (Below.refl _ _).grown hg6 (by simp; omega) (fun j hj => (u2.lt j hj).1)
        have hrow' := DRow.app (x := ((nm, ls), .slice A5 ls.length c5)) HLN.out U1.out ((own_stays u2 B5.out).alloc (.cells #[.string nm, .slice A5 ls.length c5] 54)) (fun y hy => (own_stays (U3.out y hy) B5.out).alloc _) ((own_lessQ HU5.out (show N + 1 ≤ Wd.drew.heap.size by show N + 1 ≤ Wd.heap.size; omega)).alloc _) ho6 hg6
        rw [← ED.out] at hrow'
        have m6 := cellK b6 (show N < N + 1 by omega) (cell_alloc (o := .cells #[.string nm, .slice A5 ls.length c5] 54) (show N < w5.heap.size by omega) k1)
        have m7 := cellK b6 (show N < N + 1 by omega) (cell_alloc (o := .cells #[.string nm, .slice A5 ls.length c5] 54) (show N < w5.heap.size by omega) (cellK B5.out (show N < Wd.heap.size by omega) C2.out))
        have m8 := frozenK b6 (show N < N + 1 by omega) (frozen_alloc (o := .cells #[.string nm, .slice A5 ls.length c5] 54) (show N < w5.heap.size by omega) (frozenK B5.out (show N < Wd.heap.size by omega) X2.out))
        have z6 := b6.size
        rw [World.size_alloc] at z6
        have hnx : OdRel dims N (.slice Au ms.length cu) Wg (.int .i64 ((k : Int) + 1)) (w6.setCell ⟨N, 0, none⟩ (.slice (some ⟨g, 0, none⟩) (k + 1) cap)) :=
          ⟨k + 1, _, by omega, by go_num, cell_here m3, frozen_far m5, cell_beside (by omega) m6, cell_beside (by omega) m7, frozen_far m8, hrow'.keepT (keepT_set (by omega)) (keepT_set (by omega)), by simp [World.setCell]; omega,
            (HB.out.trans ((GD.out.mono (show N ≤ wr.heap.size by omega)).trans ((B5.out.mono (show N ≤ Wd.heap.size by omega)).trans ((((Below.refl N w5).alloc (by omega) _).trans (b6.mono (by omega))))))).setCell (Nat.le_refl _) _⟩
        have HNX := hid hnx
        clear ho6 hg6 hat6 hlt6 b6 hrow' hnx u2 m3 m5 m6 m7 m8 k0 k1 k2 j0 k4 c0 c1' x0 w0 w1
        go_wp2
        go_roundw
        case rel => exact HNX.out
        case measure => simp [intOf]; omega
    · obtain rfl : k = dims.length := by omega
      have hfin := HRW.out
      rw [List.take_length] at hfin
      have HRD := hid hfin
      have c2' := cellK HB.out (show H < N by omega) Q2.out
      have E0 := hid e0; have E1 := hid e1; have E2 := hid e2; have Y2 := hid y2
      obtain ⟨W5, hW5⟩ : ∃ W, W = wr := ⟨_, rfl⟩
      rw [← hW5] at HRD E0 E1 E2 Y2 HB hNs c2' ⊢
      clear hfin HRW e0 e1 e2 y0 y2 hW5
      go_wp2
      go_loopw [34] (fun i wr => OvRel dims vs N v1 (.slice Au ms.length cu) Wg i wr) (fun i _ => vs.length - (intOf i).toNat)
      case atStart => exact ⟨0, _, by omega, rfl, E0.out, E1.out, E2.out, Y2.out, HRD.out, RowI.nil_ _ _, hNs, HB.out⟩
      case round =>
        obtain ⟨k, v3, hk, rfl, e0, e1, e2, y2, hdr, hrow, hNs, hb⟩ := hrel
        have HB := hid hb; have HRW := hid hrow; have HDR := hid hdr
        clear hb hrow hdr
        by_cases hlt : k < vs.length
        · obtain ⟨b, off, AL, cL, rfl, hbl, d0, rl⟩ := row_at (good_rows.stays H3.out (BG.out.trans (HB.out.mono (by omega)))) hlt
          have ed : vs.take (k + 1) = vs.take k ++ [vs[k]] := List.take_succ_eq_append_getElem hlt
          have hln : k = (vs.take k).length := by rw [List.length_take]; omega
          have hdl := H2.out _ (List.getElem_mem hlt)
          generalize vs[k] = ls at *
          obtain ⟨us, u1, u2, u3⟩ := HRW.out
          rw [← hln] at u2
          obtain ⟨Ap, cp, rfl⟩ := own_formB u2
          have HCS := hid (fun W (hW : Qu wr W) => cloneI_any (.slice AL ls.length cL) ls W (good_ints.on (good_ints.more rl (show H ≤ wr.heap.size by omega)) (hW.below _)) (by omega))
          have HLN := hid hln; have ED := hid ed; have U1 := hid u1; have U3 := hid u3; have C0 := hid e0; have C1 := hid e1
          clear rl u3 hln ed e0 e1
          go_upto_region 10 with (fail)
          go_region_law (first
            | (refine step_append_lies _ (by rfl) (.tmp 39) (.tmp 42) 24 (by rfl) (N + 1) 27 i1 (.slice none 0 0) 1 24 Tryz.underlying24 hi' hz0' hz1' hz2' rfl (by omega) _ k us (by rfl) ((own_stays u2 B5.out).alloc _) ⟨w5.heap.size, 0, none⟩ 1 1 _ (by rfl) rfl (cell_one_at' _ _ _ rfl) (by simp; rfl) (by omega) (by unfold maxLen; omega) (by omega) (by simp; omega) (w5.heap.size + 1) (by simp) ?_; intro g cap w6 ho6 hg6 hat6 hlt6; have m3 := (World.grownBy.cell_far hg6 ⟨N, 2, none⟩ (by simp; omega) (fun e => by have := (u2.lt _ e.symm).1; simp at this; omega)).trans (cell_alloc (by omega) k0); have m5 := (World.grownBy.frozen_far hg6 ⟨N, 2, none⟩ (by simp; omega) (fun e => by have := (u2.lt _ e.symm).1; simp at this; omega)).trans (frozen_alloc (by omega) k2))
            | (go_simp; go_at_call 34; refine (HCS.out _ ⟨1, rfl⟩).mono ?_; rintro e w5 ⟨u5, rfl, hu5, hb5⟩; have HU5 := hid hu5; have B5 := hid ((Below.refl wr.heap.size wr).drew.trans hb5); have z5 := B5.out.size; obtain ⟨A5, c5, rfl, -, -, -⟩ := own_cells HU5.out; have k0 := cellK B5.out hNs e2; have k2 := frozenK B5.out hNs y2; have k4 := cell_alloc (o := .cells #[.slice A5 ls.length c5] 27) (show N < w5.heap.size by omega) k0; clear hu5 hb5))
          all_goals
            have b6 : Below (N + 1) (w5.alloc (.cells #[.slice A5 ls.length c5] 27)) w6 := (Below.refl _ _).grown hg6 (by simp; omega) (fun j hj => (u2.lt j hj).1)
            have hrow' := RowI.app_n HLN.out U1.out ((own_stays u2 B5.out).alloc (.cells #[.slice A5 ls.length c5] 27)) (fun j hj => (own_stays (U3.out j hj) B5.out).alloc _) ((own_lessQ HU5.out (show N + 1 ≤ wr.drew.heap.size by show N + 1 ≤ wr.heap.size; omega)).alloc _) ho6 hg6
            rw [← ED.out] at hrow'
            have hdr' : DRow w6 (N + 1) v1 dims := (HDR.out.on (B5.out.trans (((Below.refl wr.heap.size w5).alloc (by omega) (.cells #[.slice A5 ls.length c5] 27))))).keepT (KeepT.of_grown hg6 ((own_stays u2 B5.out).alloc (.cells #[.slice A5 ls.length c5] 27)) (by decide)) (KeepT.of_grown hg6 ((own_stays u2 B5.out).alloc (.cells #[.slice A5 ls.length c5] 27)) (by decide))
            have m6 := cellK b6 (show N < N + 1 by omega) (cell_alloc (o := .cells #[.slice A5 ls.length c5] 27) (show N < w5.heap.size by omega) (cellK B5.out hNs C0.out))
            have m7 := cellK b6 (show N < N + 1 by omega) (cell_alloc (o := .cells #[.slice A5 ls.length c5] 27) (show N < w5.heap.size by omega) (cellK B5.out hNs C1.out))
            have z6 := b6.size
            rw [World.size_alloc] at z6
            have hnx : OvRel dims vs N v1 (.slice Au ms.length cu) Wg (.int .i64 ((k : Int) + 1)) (w6.setCell ⟨N, 2, none⟩ (.slice (some ⟨g, 0, none⟩) (k + 1) cap)) :=
              ⟨k + 1, _, by omega, by go_num, cell_beside (by omega) m6, cell_beside (by omega) m7, cell_here m3, frozen_far m5, hdr'.keepT (keepT_set (by omega)) (keepT_set (by omega)), hrow'.keepT (fun _ => keepT_set (by omega)), by simp [World.setCell]; omega,
                (HB.out.trans ((B5.out.mono (show N ≤ wr.heap.size by omega)).trans ((((Below.refl N w5).alloc (by omega) _).trans (b6.mono (by omega)))))).setCell (Nat.le_refl _) _⟩
            have HNX := hid hnx
            clear ho6 hg6 hat6 hlt6 b6 hrow' hnx u2 m3 m5 m6 m7 k0 k2 k4 e2 y2 hdr'
            go_wp2
            go_roundw
            case rel => exact HNX.out
            case measure => simp [intOf]; omega
        · obtain rfl : k = vs.length := by omega
          have hfin := HRW.out
          rw [List.take_length] at hfin
          have HRI := hid hfin
          obtain ⟨es, g1, g2, -⟩ := id HDR.out
          obtain ⟨Ad, cd, rfl⟩ := own_formB g2
          obtain ⟨us, g3, g4, -⟩ := id hfin
          obtain ⟨Av, cv, rfl⟩ := own_formB g4
          clear hfin HRW g1 g2 g3 g4
          have p0 := cellK HB.out (show H + 1 < N by omega) P.out.1; have p1 := cellK HB.out (show H + 1 < N by omega) P.out.2.1; have p2 := cellK HB.out (show H + 1 < N by omega) P.out.2.2
          have f0 := frozenK HB.out (show H + 1 < N by omega) F.out.1; have f1 := frozenK HB.out (show H + 1 < N by omega) F.out.2.1; have f2 := frozenK HB.out (show H + 1 < N by omega) F.out.2.2
          go_wp2
          obtain ⟨W8, hW8⟩ : ∃ W, W = ((wr.setCell ⟨H + 1, 0, none⟩ (.slice Ad dims.length cd)).setCell ⟨H + 1, 1, none⟩ (.slice Au ms.length cu)).setCell ⟨H + 1, 2, none⟩ (.slice Av vs.length cv) := ⟨_, rfl⟩
          rw [← hW8]
          have s0 : W8.cell? ⟨H + 1, 0, none⟩ = some (.slice Ad dims.length cd) := by rw [hW8]; exact cell_beside (by omega) (cell_beside (by omega) (cell_here p0))
          have s1 : W8.cell? ⟨H + 1, 1, none⟩ = some (.slice Au ms.length cu) := by rw [hW8]; exact cell_beside (by omega) (cell_here (cell_beside (by omega) p1))
          have s2 : W8.cell? ⟨H + 1, 2, none⟩ = some (.slice Av vs.length cv) := by rw [hW8]; exact cell_here (cell_beside (by omega) (cell_beside (by omega) p2))
          have b8 : Below H w W8 := by
            rw [hW8]
            exact ((((BG.out.trans (HB.out.mono (show H ≤ N by omega))).setCell (show H ≤ H + 1 by omega) _).setCell (show H ≤ H + 1 by omega) _).setCell (show H ≤ H + 1 by omega) _)
          have r1 : DRow W8 (N + 1) (.slice Ad dims.length cd) dims := by
            rw [hW8]
            exact ((HDR.out.keepT (keepT_set (by omega)) (keepT_set (by omega))).keepT (keepT_set (by omega)) (keepT_set (by omega))).keepT (keepT_set (by omega)) (keepT_set (by omega))
          have r3 : RowI W8 (N + 1) (.slice Av vs.length cv) vs := by
            rw [hW8]
            exact ((HRI.out.keepT (fun _ => keepT_set (by omega))).keepT (fun _ => keepT_set (by omega))).keepT (fun _ => keepT_set (by omega))
          have r2 : W8.ownsRow H 9 1 (.slice Au ms.length cu) ms.length (svals ms) := by
            refine own_kept HU.out (fun g hg => ?_)
            have hgN := HUN.out g hg
            have hge := (HU.out.lt g hg).1
            have hne := HUNE.out g hg
            rw [hW8]
            exact (Below.heap_setCell _ _ _ g (by simp; omega)).trans ((Below.heap_setCell _ _ _ g (by simp; omega)).trans ((Below.heap_setCell _ _ _ g (by simp; omega)).trans (HB.out.block g hgN)))
          refine bodyPost_ret (v := .agg #[.slice Ad dims.length cd, .slice Au ms.length cu, .slice Av vs.length cv]) ?_ rfl ?_
          · simp [results, Tryz.results41, go_sem, s0, s1, s2]
          · exact ⟨_, _, _, _, _, _, rfl, ⟨r1.less (by omega), r2, r3.less (by omega)⟩, b8⟩
end Go.Proofs.YtgoapnkdcfcjgaaGreat
