/- 1 text of this claim, in build order. -/
import Derived.Test.YtclhnnidbhchnaaPgmfaoheo
import Derived.Test.YtclhnnidbhchnaaPhefibfjc
/- The reference's cuboid: set. -/
namespace Go.Proofs.Ytclhnnidbhchnaa
open Go.ChangeShapes Go.WideShapes Go.ChangeAt Go.RowKit
set_option linter.unusedVariables false
set_option linter.unusedSimpArgs false

theorem info_one : (Try.prog.info? 105).map (fun i => (i.zero, i.size, i.bytes)) = some (some (.agg #[.slice none 0 0, .int .i64 0, .slice none 0 0, .slice none 0 0, .slice none 0 0]), 5, 104) := by kernel_rfl
theorem cells_new_at (w : World) (vs : Array Value) (t : TypeId) {N : Nat} (hN : w.heap.size = N) : ∀ j u, vs.toList[j]? = some u → (w.alloc (.cells vs t)).cell? ((⟨N, 0, none⟩ : Addr).add j) = some u := by
  subst hN
  intro j u hu
  have e : (⟨w.heap.size, 0, none⟩ : Addr).add j = ⟨w.heap.size, j, none⟩ := by unfold Addr.add; split <;> simp_all
  rw [e, World.cell?_alloc_at _ _ _ _ rfl]
  rw [Array.getElem?_toList] at hu
  exact hu
theorem e5_one {K : Option Addr} {kn kc : Nat} {n : Int} {A1 A2 A3 : Option Addr} {n1 c1 n2 c2 n3 c3 : Nat} : ∀ u ∈ e5 (.slice K kn kc, n, .slice A1 n1 c1, .slice A2 n2 c2, .slice A3 n3 c3), u.oneCell' = true := by
  intro u hu
  simp [e5] at hu
  rcases hu with rfl | rfl | rfl | rfl | rfl <;> rfl
/-- The list that is being built. -/
def OutR (w : World) (H : Nat) (E : Nat → Prop) (v : Value) (L : List KC) : Prop := ∃ es, w.ownsRow H 105 5 v L.length (flat5 es) ∧ RowO w E es L
theorem OutR.app {w w1 : World} {H : Nat} {E : Nat → Prop} {v v1 : Value} {L : List KC} {es : List E5} {x : E5} {c : KC} (hown : w.ownsRow H 105 5 v L.length (flat5 es)) (hrow : RowO w E es L)
    (h1 : SlE w E x.1 (ivals c.1)) (h2 : CellE w E (.agg #[.int .i64 x.2.1, x.2.2.1, x.2.2.2.1, x.2.2.2.2]) c.2) (hE : ∀ i, E i → i < H) (hn : w1.ownsRow H 105 5 v1 (L.length + 1) (flat5 es ++ e5 x)) (hb : Below H w w1) : OutR w1 H E v1 (L ++ [c]) := by
  have hk : Kept E w w1 := fun i hi => hb.block i (hE i hi)
  refine ⟨es ++ [x], ?_, (hrow.kept hk).snoc (h1.kept hk) (h2.kept hk)⟩
  rw [List.length_append, List.length_singleton, flat5_snoc]
  exact hn
theorem own_formN {w : World} {base : Nat} {e : TypeId} {sz : Nat} {v : Value} {n : Nat} {xs : List Value} (h : w.ownsRow base e sz v n xs) : ∃ A c, v = .slice A n c := by
  rcases h.2 with ⟨rfl, rfl⟩ | ⟨g, cap, cur, rfl, -⟩
  · exact ⟨none, 0, rfl⟩
  · exact ⟨_, _, rfl⟩
theorem own_base {w : World} {base base' : Nat} {e : TypeId} {sz : Nat} {v : Value} {n : Nat} {xs : List Value} (h : w.ownsRow base e sz v n xs) (hb : base' ≤ base) : w.ownsRow base' e sz v n xs :=
  ⟨h.1, h.2.imp id (fun ⟨g, cap, cur, e, hg, r⟩ => ⟨g, cap, cur, e, Nat.le_trans hb hg, r⟩)⟩
/-- The list that was built is stored. -/
theorem RefC.stored {w wr : World} {R E : Nat → Prop} {r H : Nat} {W M : Int} {v u : Value} {L : List KC} (h1 : R r) (h2 : ∀ k, R k → k < w.heap.size) (h3 : ∀ i, i < 3 → w.frozen? ⟨r, i, none⟩ = false) (h4 : w.cell? ⟨r, 0, none⟩ = some (.int .i64 W)) (h5 : w.cell? ⟨r, 1, none⟩ = some (.int .i64 M))
    (hb : Below w.heap.size w wr) (hu : wr.cell? ⟨r, 2, none⟩ = some u) (hH : w.heap.size ≤ H) (hE : ∀ i, E i → (R i ∧ i ≠ r) ∨ (w.heap.size ≤ i ∧ i < wr.heap.size)) (ho : OutR wr H E v L) :
    RefC (wr.setCell ⟨r, 2, none⟩ v) (fun i => R i ∨ (w.heap.size ≤ i ∧ i < wr.heap.size)) r W M L ∧ Grow w R (fun i => R i ∨ (w.heap.size ≤ i ∧ i < wr.heap.size)) ∧ Upd r w (wr.setCell ⟨r, 2, none⟩ v) := by
  obtain ⟨es, how, hro⟩ := ho
  have hrl := h2 r h1
  have hs := hb.size
  have hsz : (wr.setCell ⟨r, 2, none⟩ v).heap.size = wr.heap.size := by simp [World.setCell]
  have hfar : ∀ k, k ≠ r → (wr.setCell ⟨r, 2, none⟩ v).heap[k]? = wr.heap[k]? := fun k hk => Below.heap_setCell _ _ _ k (by simpa using hk)
  refine ⟨⟨.inl h1, fun k hk => ?_, fun i hi => frozen_far ((frozenK hb hrl (h3 i hi))), cell_beside (by omega) (cellK hb hrl h4), cell_beside (by omega) (cellK hb hrl h5), v, es, cell_here hu, own_base (own_kept how (fun g hg => hfar g (by have := (how.lt g hg).1; omega))) (Nat.zero_le _), fun g hg => ?_, ?_⟩, ⟨fun k hk => .inl hk, fun k hk => hk.imp id (fun h => h.1)⟩, ?_⟩
  · rw [hsz]
    rcases hk with hk | hk
    · have := h2 k hk; omega
    · exact hk.2
  · have := how.lt g hg
    exact ⟨.inr ⟨by omega, this.2⟩, by omega⟩
  · refine (hro.kept (fun i hi => hfar i ?_)).mono (fun i hi => ?_)
    · rcases hE i hi with ⟨_, h⟩ | ⟨h, _⟩
      · exact h
      · omega
    · rcases hE i hi with ⟨a, b⟩ | ⟨a, b⟩
      · exact ⟨.inl a, b⟩
      · exact ⟨.inr ⟨a, b⟩, by omega⟩
  · exact ((Upd.refl r w).new hb).trans (Upd.setCell r 2 wr v)
def SetRel (k : List Int) (c : CellM) (L : List KC) (E : Nat → Prop) (wo : World) (s7 s8 s9 : Value) (wr : World) : Prop :=
  ∃ j : Nat, j ≤ L.length ∧ s9 = .int .i64 j ∧ s8 = .bool (putB k (L.take j)) ∧ OutR wr wo.heap.size E s7 (setGo k c (L.take j)) ∧ Below wo.heap.size wo wr
theorem take_succ_zK {L : List KC} {j : Nat} (hj : j < L.length) : L.take (j + 1) = L.take j ++ [L.getD j zK] := by
  rw [List.take_succ_eq_append_getElem hj, List.getD_eq_getElem?_getD, List.getElem?_eq_getElem hj]; rfl
theorem setGo_len (k : List Int) (c : CellM) (L : List KC) (hs : SortK L) : (setGo k c L).length ≤ L.length + 1 := by
  unfold setGo
  split
  · rw [setK_len hs]; split <;> omega
  · omega
def SetRP (R : Nat → Prop) (r : Nat) (W M : Int) (L : List KC) (w : World) (e : Ending) (w' : World) : Prop := ∃ R', e = .returned (.tuple #[]) ∧ RefC w' R' r W M L ∧ Grow w R R' ∧ Upd r w w'
set_option maxRecDepth 100000 in
set_option maxHeartbeats 12800000 in
theorem setR_any (R : Nat → Prop) (r : Nat) (W M : Int) (L : List KC) (v x : Value) (k : List Int) (c : CellM) (B : Nat) (w : World) (hr : RefC w R r W M L) (hs : SortK L) (hL : L.length ≤ 70000) (hk : k.length ≤ 1000) (hv : Sl w w.heap.size v (ivals k)) (hx : CellE w (fun i => R i ∧ i ≠ r) x c) :
    Calls Try.prog 62 #[.pointer (some ⟨r, 0, none⟩), v, x] w (SetRP R r W M (setK k c L) w) := by
  obtain ⟨i0, hi, hz0, hz1, hz2⟩ := info_parts info_int
  obtain ⟨i1, hi1, hy0, hy1, hy2⟩ := info_parts info_one
  obtain ⟨K, kc, rfl, hkc, hkm⟩ := hv.formI
  obtain ⟨A1, c1, A2, c2, A3, c3, rfl⟩ := hx.lit
  have hr0 := hr
  obtain ⟨h1, h2, h3, h4, h5, u, es, h6, h7, h8, h9⟩ := hr
  have hrl := h2 r h1
  obtain ⟨Au, cu, rfl, hcu, hcm⟩ : ∃ A c, u = .slice A L.length c ∧ L.length ≤ c ∧ c ≤ maxLen := by
    rcases h7.2 with ⟨rfl, e⟩ | ⟨g, cap, cur, rfl, -, -, a, b, -⟩
    · exact ⟨none, 0, by rw [e], by omega, by simp [maxLen]⟩
    · exact ⟨_, _, rfl, a, b⟩
  unfold maxLen at hcm hkm
  have HEL := hid (fun j (hj : j < L.length) => RefC.elem h7 h9 hj)
  have H2 := hid h2; have H3 := hid h3; have H4 := hid h4; have H5 := hid h5; have SV := hid hv; have HX := hid hx; have HS := hid hs; have H1 := hid h1
  clear h7 h8 h9 hv h2 h3 h4 h5 hr0 hx hs h1
  go_enter Try.func62, Try.ntmps62
  obtain ⟨W0, hW0⟩ : ∃ W, W = w.alloc (.cells #[.int .i64 c.n, .slice A1 c.s.length c1, .slice A2 c.lo.length c2, .slice A3 c.hi.length c3] 25) := ⟨_, rfl⟩
  have hb0 : Below w.heap.size w W0 := by rw [hW0]; exact bl1 _ _
  have hs0 : W0.heap.size = w.heap.size + 1 := by rw [hW0]; simp
  have br : Blk W0 w.heap.size (.int .i64 c.n) (.slice A1 c.s.length c1) (.slice A2 c.lo.length c2) (.slice A3 c.hi.length c3) := by rw [hW0]; exact Blk.new _ _ _ _ _ _
  have HB0 := hid hb0; have BR := hid br; have HS0 := hid hs0; have HW0 := hid hW0
  clear hb0 br hs0 hW0
  go_wp2_with (at_builtin; refine stop_here ?_)
  refine go_on ?_
  rw [← HW0.out]
  have hsrc := src_sl (P := Try.prog) W0 (tx := 23) Try.underlying23 (SV.out.below HB0.out) (ivals_one k)
  rw [ivals_len] at hsrc
  refine app_own_at (.tmp 12) (.tmp 13) 23 23 rfl rfl W0.heap.size 3 i0 (.int .i64 0) 1 8 Try.underlying23 hi hz0 hz1 hz2 rfl (by decide) (.slice none 0 0) 0 [] rfl (World.ownsRow_nil _ _ _ _) (.slice K k.length kc) k.length (ivals k) rfl hsrc (by unfold maxLen; omega) (by omega) (Nat.le_refl _) ?_
  intro v1 w1 hown1 hg1 hb1 hat1
  rw [Nat.zero_add, List.nil_append] at hown1
  obtain ⟨A0, c0, rfl, -, -, -⟩ := own_cells hown1
  have HB1 := hid hb1
  have hs1 := hb1.size
  have hso := HS0.out
  have HW1 := hid (HB0.out.trans (hb1.mono (by omega)))
  have HK := hid (SlE.of_own (E := fun i => W0.heap.size ≤ i ∧ i < w1.heap.size) hown1 (fun g hg => hown1.lt g hg))
  have BR1 := hid (BR.out.below hb1 (by omega))
  clear hown1 hg1 hb1 hat1 hsrc
  obtain ⟨wo, rfl⟩ : ∃ wo : World, wo = w1 := ⟨_, rfl⟩
  have HEE := hid (fun (i : Nat) (h : (R i ∧ i ≠ r) ∨ (W0.heap.size ≤ i ∧ i < wo.heap.size)) => (show i < wo.heap.size from h.elim (fun h => by have := H2.out i h.1; omega) (fun h => h.2)))
  go_wp2
  go_loopw [7, 8, 9] (fun s7 s8 s9 wr => SetRel k c L (fun i => (R i ∧ i ≠ r) ∨ (W0.heap.size ≤ i ∧ i < wo.heap.size)) wo s7 s8 s9 wr) (fun _ _ s9 _ => L.length - (intOf s9).toNat)
  case atStart => exact ⟨0, by omega, rfl, rfl, ⟨[], World.ownsRow_nil _ _ _ _, RowO.nil_ _ _⟩, Below.refl _ _⟩
  case round =>
    obtain ⟨j, hj, rfl, rfl, hout, hbw⟩ := hrel
    have hsw := hbw.size
    have HBW := hid hbw
    have HWW := hid (HW1.out.trans (hbw.mono (by omega)))
    obtain ⟨q0, q1, q2, q3, -, -, -, -⟩ := BR1.out.below hbw (by omega)
    have y2 : wr.cell? ⟨r, 2, none⟩ = _ := cellK HWW.out hrl h6
    have hso2 : wo.heap.size ≤ wr.heap.size := hsw
    obtain ⟨es', hown, hrow⟩ := hout
    have hslen := setGo_len k c (L.take j) (HS.out.sublist (List.take_sublist _ _))
    rw [List.length_take] at hslen
    by_cases hlt : j < L.length
    · obtain ⟨g, cap, K', kc', B1, d1, B2, d2, B3, d3, e, -, hg, -, -, -, g0, g1, g2, g3, g4, s1, s2⟩ := HEL.out j hlt
      injection e with e _ e'
      subst e; subst e'
      have y3 := cellK HWW.out hg g0
      have z1 := cellK HWW.out hg g1; have z2 := cellK HWW.out hg g2; have z3 := cellK HWW.out hg g3; have z4 := cellK HWW.out hg g4
      rw [show j * 5 + 1 + 1 = j * 5 + 2 by omega] at z2
      rw [show j * 5 + 1 + 2 = j * 5 + 3 by omega] at z3
      rw [show j * 5 + 1 + 3 = j * 5 + 4 by omega] at z4
      have hkn := s1.sl.formI
      have HSM := hid (same8_any _ (.slice A0 k.length c0) (L.getD j zK).1 k wr _ _ (s1.sl.below HWW.out) (HK.out.sl.below HBW.out))
      have HLS := hid (fun W (h : Qu wr W) => lessR_any (.slice A0 k.length c0) _ k (L.getD j zK).1 W wo.heap.size (((HK.out.sl.below HBW.out).below (h.below _))) (((s1.sl.below HWW.out).more (by omega)).below (h.below _)))
      have hsrt := HS.out.sublist (List.take_sublist (j + 1) L)
      have hstep := setGo_step (k := k) (c := c) (L := L.take j) (x := L.getD j zK) (by rw [← take_succ_zK hlt]; exact hsrt)
      have hps := putB_snoc k (L.take j) (L.getD j zK)
      have hpso := fun h => putB_sorted (k := k) (L := L.take j) (x := L.getD j zK) (by rw [← take_succ_zK hlt]; exact hsrt) h
      rw [← take_succ_zK hlt] at hstep hps
      have S1 := hid s1; have S2 := hid s2
      generalize L.getD j zK = x at *
      obtain ⟨xk, xc⟩ := x
      simp only at y3 z1 z2 z3 z4 HSM HLS hstep hps hpso S1 S2
      generalize putB k (L.take j) = pb at *
      generalize setGo k c (L.take j) = G at *
      have HST := hid hstep; have HPS := hid hps; have HPO := hid hpso
      have HOW := hid hown; have HRO := hid hrow
      have HX1 := hid ((S1.out.kept (fun i hi => HWW.out.block i (H2.out i hi.1))).mono (E' := fun i => (R i ∧ i ≠ r) ∨ (W0.heap.size ≤ i ∧ i < wo.heap.size)) (fun i hi => .inl hi))
      have HX2 := hid ((S2.out.kept (fun i hi => HWW.out.block i (H2.out i hi.1))).mono (E' := fun i => (R i ∧ i ≠ r) ∨ (W0.heap.size ≤ i ∧ i < wo.heap.size)) (fun i hi => .inl hi))
      have HN1 := hid ((HK.out.kept (fun i hi => HBW.out.block i hi.2)).mono (E' := fun i => (R i ∧ i ≠ r) ∨ (W0.heap.size ≤ i ∧ i < wo.heap.size)) (fun i hi => .inr hi))
      have HN2 := hid ((HX.out.kept (fun i hi => HWW.out.block i (H2.out i hi.1))).mono (E' := fun i => (R i ∧ i ≠ r) ∨ (W0.heap.size ≤ i ∧ i < wo.heap.size)) (fun i hi => .inl hi))
      obtain ⟨sb, hsb⟩ : ∃ b, b = decide (xk = k) := ⟨_, rfl⟩
      obtain ⟨lb, hlb⟩ : ∃ b, b = lexB k xk := ⟨_, rfl⟩
      rw [← hsb] at HSM
      rw [← hlb] at HLS
      have HSB := hid hsb; have HLB := hid hlb
      clear g0 g1 g2 g3 g4 s1 s2 hbw hkn hsrt hstep hps hpso hown hrow hsb hlb
      go_wp2_with fail
      refine HSM.out.mono ?_
      rintro e w2 ⟨rfl, n2, rfl⟩
      go_wp2_with fail
      refine (HLS.out _ ⟨n2, rfl⟩).mono ?_
      rintro e w3 ⟨rfl, n3, rfl⟩
      rw [drewN_add]
      generalize n2 + n3 = nq
      have hq : Qu wr (wr.drewN nq) := ⟨nq, rfl⟩
      have hqs : wr.heap.size = (wr.drewN nq).heap.size := rfl
      generalize wr.drewN nq = wq at *
      have BQ := hid (HBW.out.trans (hq.below _))
      have q0 : wq.cell? _ = _ := (hq.cell _).trans q0
      have q1 : wq.cell? _ = _ := (hq.cell _).trans q1
      have q2 : wq.cell? _ = _ := (hq.cell _).trans q2
      have q3 : wq.cell? _ = _ := (hq.cell _).trans q3
      have y2 : wq.cell? _ = _ := (hq.cell _).trans y2
      have y3 : wq.cell? _ = _ := (hq.cell _).trans y3
      have z1 : wq.cell? _ = _ := (hq.cell _).trans z1
      have z2 : wq.cell? _ = _ := (hq.cell _).trans z2
      have z3 : wq.cell? _ = _ := (hq.cell _).trans z3
      have z4 : wq.cell? _ = _ := (hq.cell _).trans z4
      have HOQ := hid (own_kept HOW.out (fun g hg => (hq.below wr.heap.size).block g (HOW.out.lt g hg).2))
      have hkq : Kept (fun i => (R i ∧ i ≠ r) ∨ (W0.heap.size ≤ i ∧ i < wo.heap.size)) wr wq := fun i hi => (hq.below wr.heap.size).block i (by have := HEE.out i hi; omega)
      have HRQ := hid (HRO.out.kept hkq)
      have HXQ1 := hid (HX1.out.kept hkq); have HXQ2 := hid (HX2.out.kept hkq); have HNQ1 := hid (HN1.out.kept hkq); have HNQ2 := hid (HN2.out.kept hkq)
      have hqw : wo.heap.size ≤ wq.heap.size := by omega
      clear hq hkq HOW HRO HX1 HX2 HN1 HN2 HWW
      cases pb
      · cases sb
        · have hne : xk ≠ k := of_decide_eq_false HSB.out.symm
          cases lb
          · have HG := hid (show setGo k c (L.take (j + 1)) = G ++ [(xk, xc)] by rw [HST.out, if_neg (by decide), if_neg hne, if_neg (by rw [← HLB.out]; decide)])
            have HP := hid (show putB k (L.take (j + 1)) = false by rw [HPS.out, lex_total (fun e => hne e.symm) HLB.out.symm]; rfl)
            clear hne
            go_wp2_with (at_builtin; refine stop_here ?_)
            refine go_on ?_
            refine app_own_at (.tmp 60) (.tmp 68) 64 64 rfl rfl wo.heap.size 105 i1 (.agg #[.slice none 0 0, .int .i64 0, .slice none 0 0, .slice none 0 0, .slice none 0 0]) 5 104 Try.underlying64 hi1 hy0 hy1 hy2 rfl (by decide) _ _ _ rfl (HOQ.out.alloc _) (.slice (some ⟨wq.heap.size, 0, none⟩) 1 1) 1 (e5 (.slice K' xk.length kc', xc.n, .slice B1 xc.s.length d1, .slice B2 xc.lo.length d2, .slice B3 xc.hi.length d3)) rfl (Src.ofSlice _ Try.underlying64 _ 1 1 _ rfl (cells_new_at _ _ _ rfl) e5_one) (by simp only [maxLen]; omega) (by omega) (by simp only [World.size_alloc]; omega) ?_
            intro v4 w4 hown4 hg4 hb4 hat4
            have HO1 := hid (OutR.app (x := (.slice K' xk.length kc', xc.n, .slice B1 xc.s.length d1, .slice B2 xc.lo.length d2, .slice B3 xc.hi.length d3)) (c := (xk, xc)) HOQ.out HRQ.out HXQ1.out HXQ2.out HEE.out hown4 (((Below.refl _ _).alloc hqw _).trans hb4))
            have HB4 := hid (BQ.out.trans (((Below.refl _ _).alloc hqw _).trans hb4))
            clear hown4 hg4 hb4 hat4
            go_wp2
            go_roundw
            case rel => exact ⟨j + 1, by omega, by go_num, by rw [HP.out], by rw [HG.out]; exact HO1.out, HB4.out⟩
            case measure => simp [intOf]; omega
          · have HG := hid (show setGo k c (L.take (j + 1)) = G ++ [(k, c)] ++ [(xk, xc)] by rw [HST.out, if_neg (by decide), if_neg hne, if_pos HLB.out.symm, List.append_assoc]; rfl)
            have HP := hid (show putB k (L.take (j + 1)) = true by rw [HPS.out, lex_asymm HLB.out.symm]; rfl)
            clear hne
            go_wp2_with (at_builtin; refine stop_here ?_)
            refine go_on ?_
            refine app_own_at (.tmp 52) (.tmp 56) 64 64 rfl rfl wo.heap.size 105 i1 (.agg #[.slice none 0 0, .int .i64 0, .slice none 0 0, .slice none 0 0, .slice none 0 0]) 5 104 Try.underlying64 hi1 hy0 hy1 hy2 rfl (by decide) _ _ _ rfl (HOQ.out.alloc _) (.slice (some ⟨wq.heap.size, 0, none⟩) 1 1) 1 (e5 (.slice A0 k.length c0, c.n, .slice A1 c.s.length c1, .slice A2 c.lo.length c2, .slice A3 c.hi.length c3)) rfl (Src.ofSlice _ Try.underlying64 _ 1 1 _ rfl (cells_new_at _ _ _ rfl) e5_one) (by simp only [maxLen]; omega) (by omega) (by simp only [World.size_alloc]; omega) ?_
            intro v4 w4 hown4 hg4 hb4 hat4
            have HO1 := hid (OutR.app (x := (.slice A0 k.length c0, c.n, .slice A1 c.s.length c1, .slice A2 c.lo.length c2, .slice A3 c.hi.length c3)) (c := (k, c)) HOQ.out HRQ.out HNQ1.out HNQ2.out HEE.out hown4 (((Below.refl _ _).alloc hqw _).trans hb4))
            have hb4' : Below wo.heap.size wq w4 := ((Below.refl _ _).alloc hqw _).trans hb4
            have HB4' := hid hb4'
            have HB4 := hid (BQ.out.trans hb4')
            have hs4 := hb4'.size
            have y2 := cellK hb4' (show r < wo.heap.size by omega) y2
            have z0 := cellK hb4' (show g < wo.heap.size by omega) y3
            have z1 := cellK hb4' (show g < wo.heap.size by omega) z1
            have z2 := cellK hb4' (show g < wo.heap.size by omega) z2
            have z3 := cellK hb4' (show g < wo.heap.size by omega) z3
            have z4 := cellK hb4' (show g < wo.heap.size by omega) z4
            have HXQ1' := hid (HXQ1.out.kept (fun i hi => hb4'.block i (HEE.out i hi))); have HXQ2' := hid (HXQ2.out.kept (fun i hi => hb4'.block i (HEE.out i hi)))
            clear hown4 hg4 hb4 hat4 hb4'
            obtain ⟨es4, how4, hro4⟩ := HO1.out
            have hgl : (G ++ [(k, c)]).length = G.length + 1 := by simp
            rw [hgl] at how4
            have hqw4 : wo.heap.size ≤ w4.heap.size := by omega
            have HW4 := hid how4
            clear how4 q0 q1 q2 q3 y3 hgl
            go_wp2_with (at_builtin; refine stop_here ?_)
            refine go_on ?_
            refine app_own_at (.tmp 60) (.tmp 68) 64 64 rfl rfl wo.heap.size 105 i1 (.agg #[.slice none 0 0, .int .i64 0, .slice none 0 0, .slice none 0 0, .slice none 0 0]) 5 104 Try.underlying64 hi1 hy0 hy1 hy2 rfl (by decide) _ _ _ rfl (HW4.out.alloc _) (.slice (some ⟨w4.heap.size, 0, none⟩) 1 1) 1 (e5 (.slice K' xk.length kc', xc.n, .slice B1 xc.s.length d1, .slice B2 xc.lo.length d2, .slice B3 xc.hi.length d3)) rfl (Src.ofSlice _ Try.underlying64 _ 1 1 _ rfl (cells_new_at _ _ _ rfl) e5_one) (by simp only [maxLen]; omega) (by omega) (by simp only [World.size_alloc]; omega) ?_
            intro v5 w5 hown5 hg5 hb5 hat5
            have HO2 := hid (OutR.app (x := (.slice K' xk.length kc', xc.n, .slice B1 xc.s.length d1, .slice B2 xc.lo.length d2, .slice B3 xc.hi.length d3)) (c := (xk, xc)) (L := G ++ [(k, c)]) (by rw [List.length_append, List.length_singleton]; exact HW4.out) hro4 HXQ1'.out HXQ2'.out HEE.out (by rw [List.length_append, List.length_singleton]; exact hown5) (((Below.refl _ _).alloc hqw4 _).trans hb5))
            have HB5 := hid (HB4.out.trans (((Below.refl _ _).alloc hqw4 _).trans hb5))
            clear hown5 hg5 hb5 hat5
            go_wp2
            go_roundw
            case rel => exact ⟨j + 1, by omega, by go_num, by rw [HP.out], by rw [HG.out]; exact HO2.out, HB5.out⟩
            case measure => simp [intOf]; omega
        · have he : xk = k := of_decide_eq_true HSB.out.symm
          have hlk : lexB xk k = false := by rw [he]; exact lex_irrefl k
          have HG := hid (show setGo k c (L.take (j + 1)) = G ++ [(k, c)] by rw [HST.out, if_neg (by decide), if_pos he])
          have HP := hid (show putB k (L.take (j + 1)) = true by rw [HPS.out, hlk]; rfl)
          clear he hlk
          go_wp2_with (at_builtin; refine stop_here ?_)
          refine go_on ?_
          refine app_own_at (.tmp 52) (.tmp 56) 64 64 rfl rfl wo.heap.size 105 i1 (.agg #[.slice none 0 0, .int .i64 0, .slice none 0 0, .slice none 0 0, .slice none 0 0]) 5 104 Try.underlying64 hi1 hy0 hy1 hy2 rfl (by decide) _ _ _ rfl (HOQ.out.alloc _) (.slice (some ⟨wq.heap.size, 0, none⟩) 1 1) 1 (e5 (.slice A0 k.length c0, c.n, .slice A1 c.s.length c1, .slice A2 c.lo.length c2, .slice A3 c.hi.length c3)) rfl (Src.ofSlice _ Try.underlying64 _ 1 1 _ rfl (cells_new_at _ _ _ rfl) e5_one) (by simp only [maxLen]; omega) (by omega) (by simp only [World.size_alloc]; omega) ?_
          intro v4 w4 hown4 hg4 hb4 hat4
          have HO1 := hid (OutR.app (x := (.slice A0 k.length c0, c.n, .slice A1 c.s.length c1, .slice A2 c.lo.length c2, .slice A3 c.hi.length c3)) (c := (k, c)) HOQ.out HRQ.out HNQ1.out HNQ2.out HEE.out hown4 (((Below.refl _ _).alloc hqw _).trans hb4))
          have HB4 := hid (BQ.out.trans (((Below.refl _ _).alloc hqw _).trans hb4))
          clear hown4 hg4 hb4 hat4
          go_wp2
          go_roundw
          case rel => exact ⟨j + 1, by omega, by go_num, by rw [HP.out], by rw [HG.out]; exact HO1.out, HB4.out⟩
          case measure => simp [intOf]; omega
      · have hne : xk ≠ k := HPO.out rfl
        obtain rfl : sb = false := by rw [HSB.out]; exact decide_eq_false hne
        have HG := hid (show setGo k c (L.take (j + 1)) = G ++ [(xk, xc)] by rw [HST.out, if_pos rfl])
        have HP := hid (show putB k (L.take (j + 1)) = true by rw [HPS.out]; rfl)
        clear hne
        go_wp2_with (at_builtin; refine stop_here ?_)
        refine go_on ?_
        refine app_own_at (.tmp 60) (.tmp 68) 64 64 rfl rfl wo.heap.size 105 i1 (.agg #[.slice none 0 0, .int .i64 0, .slice none 0 0, .slice none 0 0, .slice none 0 0]) 5 104 Try.underlying64 hi1 hy0 hy1 hy2 rfl (by decide) _ _ _ rfl (HOQ.out.alloc _) (.slice (some ⟨wq.heap.size, 0, none⟩) 1 1) 1 (e5 (.slice K' xk.length kc', xc.n, .slice B1 xc.s.length d1, .slice B2 xc.lo.length d2, .slice B3 xc.hi.length d3)) rfl (Src.ofSlice _ Try.underlying64 _ 1 1 _ rfl (cells_new_at _ _ _ rfl) e5_one) (by simp only [maxLen]; omega) (by omega) (by simp only [World.size_alloc]; omega) ?_
        intro v4 w4 hown4 hg4 hb4 hat4
        have HO1 := hid (OutR.app (x := (.slice K' xk.length kc', xc.n, .slice B1 xc.s.length d1, .slice B2 xc.lo.length d2, .slice B3 xc.hi.length d3)) (c := (xk, xc)) HOQ.out HRQ.out HXQ1.out HXQ2.out HEE.out hown4 (((Below.refl _ _).alloc hqw _).trans hb4))
        have HB4 := hid (BQ.out.trans (((Below.refl _ _).alloc hqw _).trans hb4))
        clear hown4 hg4 hb4 hat4
        go_wp2
        go_roundw
        case rel => exact ⟨j + 1, by omega, by go_num, by rw [HP.out], by rw [HG.out]; exact HO1.out, HB4.out⟩
        case measure => simp [intOf]; omega
    · obtain rfl : j = L.length := by omega
      have htk : L.take L.length = L := List.take_of_length_le (Nat.le_refl _)
      rw [htk] at hown hrow hslen ⊢
      have hend := setGo_end (k := k) (c := c) L
      generalize putB k L = pb at *
      generalize setGo k c L = G at *
      have HE := hid hend
      have HN1 := hid ((HK.out.kept (fun i hi => HBW.out.block i hi.2)).mono (E' := fun i => (R i ∧ i ≠ r) ∨ (W0.heap.size ≤ i ∧ i < wo.heap.size)) (fun i hi => .inr hi))
      have HN2 := hid ((HX.out.kept (fun i hi => HWW.out.block i (H2.out i hi.1))).mono (E' := fun i => (R i ∧ i ≠ r) ∨ (W0.heap.size ≤ i ∧ i < wo.heap.size)) (fun i hi => .inl hi))
      have HOW := hid hown; have HRO := hid hrow
      have fz := hid (fun i (hi : i < 3) => HWW.out.frozen (p := ⟨r, i, none⟩) hrl |>.trans (H3.out i hi))
      have y2f := fz.out 2 (by omega)
      obtain ⟨Ag, cg, rfl⟩ := own_formN hown
      have hbwq : wo.heap.size ≤ wr.heap.size := hsw
      clear hown hrow hend hbw htk
      cases pb
      · have HG := hid (show setK k c L = G ++ [(k, c)] by rw [HE.out, if_neg (by decide)])
        go_wp2_with (at_builtin; refine stop_here ?_)
        refine go_on ?_
        refine app_own_at (.tmp 72) (.tmp 76) 64 64 rfl rfl wo.heap.size 105 i1 (.agg #[.slice none 0 0, .int .i64 0, .slice none 0 0, .slice none 0 0, .slice none 0 0]) 5 104 Try.underlying64 hi1 hy0 hy1 hy2 rfl (by decide) _ _ _ rfl (HOW.out.alloc _) (.slice (some ⟨wr.heap.size, 0, none⟩) 1 1) 1 (e5 (.slice A0 k.length c0, c.n, .slice A1 c.s.length c1, .slice A2 c.lo.length c2, .slice A3 c.hi.length c3)) rfl (Src.ofSlice _ Try.underlying64 _ 1 1 _ rfl (cells_new_at _ _ _ rfl) e5_one) (by simp only [maxLen]; omega) (by omega) (by simp only [World.size_alloc]; omega) ?_
        intro v4 w4 hown4 hg4 hb4 hat4
        have hb4' : Below wo.heap.size wr w4 := ((Below.refl _ _).alloc hbwq _).trans hb4
        have HO1 := hid (OutR.app (x := (.slice A0 k.length c0, c.n, .slice A1 c.s.length c1, .slice A2 c.lo.length c2, .slice A3 c.hi.length c3)) (c := (k, c)) HOW.out HRO.out HN1.out HN2.out HEE.out hown4 hb4')
        have HW4 := hid (HWW.out.trans (hb4'.mono (by omega)))
        have hs4 := hb4'.size
        have y2 := cellK hb4' (show r < wo.heap.size by omega) y2
        have y2f := frozenK hb4' (show r < wo.heap.size by omega) y2f
        have hgl : (G ++ [(k, c)]).length = G.length + 1 := by simp
        obtain ⟨Ah, ch, rfl⟩ := own_formN hown4
        have HFI := hid (RefC.stored (w := w) (wr := w4) (v := .slice Ah (G.length + 1) ch) (E := fun i => (R i ∧ i ≠ r) ∨ (W0.heap.size ≤ i ∧ i < wo.heap.size)) H1.out H2.out H3.out H4.out H5.out HW4.out y2 (H := wo.heap.size) (by omega) (fun i hi => by
          rcases hi with ⟨h1, h2⟩ | ⟨h1, h2⟩
          · exact .inl ⟨h1, h2⟩
          · exact .inr ⟨by omega, by omega⟩) HO1.out)
        clear hown4 hg4 hb4 hat4 hb4' q0 q1 q2 q3
        go_wp2
        refine bodyPost_end (v := .tuple #[]) (by simp [results, Try.results62, go_sem]; done) rfl ?_
        rw [HG.out]
        exact ⟨_, rfl, HFI.out.1, HFI.out.2.1, HFI.out.2.2⟩
      · have HG := hid (show setK k c L = G by rw [HE.out, if_pos rfl])
        have HFI := hid (RefC.stored (w := w) (wr := wr) (v := .slice Ag G.length cg) (E := fun i => (R i ∧ i ≠ r) ∨ (W0.heap.size ≤ i ∧ i < wo.heap.size)) H1.out H2.out H3.out H4.out H5.out HWW.out y2 (H := wo.heap.size) (by omega) (fun i hi => by
          rcases hi with ⟨h1, h2⟩ | ⟨h1, h2⟩
          · exact .inl ⟨h1, h2⟩
          · exact .inr ⟨by omega, by omega⟩) ⟨es', HOW.out, HRO.out⟩)
        clear q0 q1 q2 q3
        go_wp2
        refine bodyPost_end (v := .tuple #[]) (by simp [results, Try.results62, go_sem]; done) rfl ?_
        rw [HG.out]
        exact ⟨_, rfl, HFI.out.1, HFI.out.2.1, HFI.out.2.2⟩
end Go.Proofs.Ytclhnnidbhchnaa
