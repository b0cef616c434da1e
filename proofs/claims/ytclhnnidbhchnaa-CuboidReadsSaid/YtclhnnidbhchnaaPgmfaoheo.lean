/- 3 texts of this claim, in build order. -/
import Derived.Test.YtclhnnidbhchnaaPebbpdehd
import Derived.Test.YtclhnnidbhchnaaPkihhlpba
import Derived.Test.YtclhnnidbhchnaaPcmmgfeam
import Derived.Test.YtclhnnidbhchnaaPgkjbjnoj
/- The reference's Same of numbers (layer 8), for slices that read as lists. -/
namespace Go.Proofs.Ytclhnnidbhchnaa
open Go.ChangeShapes Go.WideShapes Go.ChangeAt Go.RowKit
set_option linter.unusedVariables false
set_option linter.unusedSimpArgs false

set_option maxRecDepth 100000 in
set_option maxHeartbeats 800000 in
theorem same8_any (v x : Value) (l r : List Int) (w : World) (B B' : Nat) (hv : Sl w B v (ivals l)) (hx : Sl w B' x (ivals r)) :
    Calls Try.prog 59 #[v, x] w (Stays (.bool (decide (l = r))) w) := by
  obtain ⟨A1, c1, rfl, hc1, hm1⟩ := hv.formI
  obtain ⟨A2, c2, rfl, hc2, hm2⟩ := hx.formI
  unfold maxLen at hm1 hm2
  have S1 := hid hv; have S2 := hid hx; clear hv hx
  have hdec : l ≠ r → decide (l = r) = false := fun h => decide_eq_false h
  have hyes : l = r → decide (l = r) = true := fun h => decide_eq_true h
  generalize decide (l = r) = res at *
  have HD := hid hdec; have HY := hid hyes; clear hdec hyes
  go_enter Try.func59, Try.ntmps59
  by_cases hl : l.length = r.length
  · have HL := hid hl
    have u0 : ((l.length : Int) != (r.length : Int)) = false := by simp [hl]
    clear hl
    go_wp2
    go_loopw [5] (fun i wr => EqRel l r w i wr) (fun i _ => l.length - (intOf i).toNat)
    case atStart => exact ⟨0, by omega, rfl, rfl, Qu.refl _⟩
    case round =>
      obtain ⟨k, hk, rfl, hsame, hq⟩ := hrel
      have HS := hid hsame; clear hsame
      by_cases hlt : k < l.length
      · have hlt' : k < r.length := by have := HL.out; omega
        obtain ⟨b1, o1, rfl, hb1, hx1⟩ := S1.out.int hlt
        obtain ⟨b2, o2, rfl, hb2, hx2⟩ := S2.out.int hlt'
        have g1 : wr.cell? ⟨b1, o1 + k, none⟩ = _ := (hq.cell _).trans hx1
        have g2 : wr.cell? ⟨b2, o2 + k, none⟩ = _ := (hq.cell _).trans hx2
        clear hx1 hx2
        have e1 := take_succ_getD l k hlt
        have e2 := take_succ_getD r k hlt'
        have hgn := fun h => @getD_ne l r k h
        generalize l.getD k 0 = p1 at *
        generalize r.getD k 0 = p2 at *
        by_cases he : p1 = p2
        · subst he
          have hs' : l.take (k + 1) = r.take (k + 1) := by rw [e1, e2, HS.out]
          have t2 : (p1 != p1) = false := by simp
          have HS' := hid hs'; clear e1 e2 hs' hgn
          go_wp2
          go_quiet (fail)
          go_wp2
          go_roundw
          case rel => exact ⟨k + 1, by omega, by go_num, HS'.out, hq.drewN _⟩
          case measure => simp [intOf]; omega
        · have hn := HD.out (hgn he)
          have t2 : (p1 != p2) = true := by simpa using he
          have HN := hid hn; clear e1 e2 hgn hn he
          go_wp2
          go_quiet (fail)
          go_wp2
          go_ret
          exact ⟨by rw [HN.out]; rfl, hq.drewN _⟩
      · have he1 : l = r := by
          have := HS.out
          rwa [List.take_of_length_le (by omega), List.take_of_length_le (by have := HL.out; omega)] at this
        have hn := HY.out he1
        have HN := hid hn; clear he1 HS hn
        go_wp2
        go_ret
        exact ⟨by rw [HN.out]; rfl, hq⟩
  · have u0 : ((l.length : Int) != (r.length : Int)) = true := by simp; omega
    have hn := HD.out (fun e => hl (by rw [e]))
    have HN := hid hn
    clear hl hn
    go_wp2
    go_ret
    exact ⟨by rw [HN.out]; rfl, Qu.refl _⟩
end Go.Proofs.Ytclhnnidbhchnaa
/- The reference's cuboid: Is, Get. -/
namespace Go.Proofs.Ytclhnnidbhchnaa
open Go.ChangeShapes Go.WideShapes Go.ChangeAt Go.RowKit
set_option linter.unusedVariables false
set_option linter.unusedSimpArgs false

def IsRel (k : List Int) (w : World) (i : Value) (wr : World) : Prop := ∃ j : Nat, j ≤ k.length ∧ i = .int .i64 j ∧ (∀ x ∈ k.take j, 0 ≤ x ∧ x ≤ 40) ∧ Qu w wr
theorem okB_len {W : Nat} {k : List Int} (h : k.length ≠ W) : okB W k = false := decide_eq_false (fun e => h e.1)
theorem okB_bad {W j : Nat} {k : List Int} (hj : j < k.length) (h : k.getD j 0 < 0 ∨ 40 < k.getD j 0) : okB W k = false := by
  refine decide_eq_false (fun e => ?_)
  have := e.2 _ (List.getElem_mem hj)
  rw [List.getD_eq_getElem?_getD, List.getElem?_eq_getElem hj] at h
  simp only [Option.getD_some] at h
  omega
theorem okB_yes {W : Nat} {k : List Int} (h1 : k.length = W) (h2 : ∀ x ∈ k.take k.length, 0 ≤ x ∧ x ≤ 40) : okB W k = true := by
  rw [List.take_length] at h2
  exact decide_eq_true ⟨h1, h2⟩
theorem okB_step {j : Nat} {k : List Int} (hj : j < k.length) (h1 : ∀ x ∈ k.take j, 0 ≤ x ∧ x ≤ 40) (h2 : 0 ≤ k.getD j 0) (h3 : k.getD j 0 ≤ 40) : ∀ x ∈ k.take (j + 1), 0 ≤ x ∧ x ≤ 40 := by
  rw [take_succ_getD k j hj]
  intro x hx
  rcases List.mem_append.1 hx with hx | hx
  · exact h1 x hx
  · rw [List.mem_singleton] at hx; subst hx; exact ⟨h2, h3⟩
set_option maxRecDepth 100000 in
set_option maxHeartbeats 1600000 in
theorem isR_any (R : Nat → Prop) (r : Nat) (W : Nat) (M : Int) (L : List KC) (v : Value) (k : List Int) (w : World) (B : Nat) (hr : RefC w R r W M L) (hv : Sl w B v (ivals k)) :
    Calls Try.prog 87 #[.pointer (some ⟨r, 0, none⟩), v] w (Stays (.bool (okB W k)) w) := by
  obtain ⟨A1, c1, rfl, hc1, hm1⟩ := hv.formI
  unfold maxLen at hm1
  obtain ⟨-, -, -, h4, -⟩ := hr
  have S1 := hid hv; clear hv
  go_enter Try.func87, Try.ntmps87
  by_cases hl : k.length = W
  · have t0 : ((k.length : Int) != (W : Int)) = false := by simp [hl]
    have t1 : (k.length != W) = false := by simp [hl]
    have HL := hid hl
    clear hl
    go_wp2
    go_loopw [5] (fun i wr => IsRel k w i wr) (fun i _ => k.length - (intOf i).toNat)
    case atStart => exact ⟨0, by omega, rfl, by simp, Qu.refl _⟩
    case round =>
      obtain ⟨j, hj, rfl, hall, hq⟩ := hrel
      by_cases hlt : j < k.length
      · obtain ⟨b1, o1, rfl, hb1, hx1⟩ := S1.out.int hlt
        have g1 : wr.cell? ⟨b1, o1 + j, none⟩ = _ := (hq.cell _).trans hx1
        have HB := hid (fun h => @okB_bad W j k hlt h)
        have HS := hid (fun h2 h3 => okB_step hlt hall h2 h3)
        clear hx1 hall
        generalize k.getD j 0 = p at *
        rcases (show p < 0 ∨ (¬ p < 0 ∧ 40 < p) ∨ (¬ p < 0 ∧ ¬ 40 < p) by omega) with y1 | ⟨y1, y2⟩ | ⟨y1, y2⟩
        · have HT := hid (HB.out (.inl y1))
          go_wp2
          go_ret
          exact ⟨ret_bool HT.out.symm, hq⟩
        · have HT := hid (HB.out (.inr y2))
          go_wp2
          go_ret
          exact ⟨ret_bool HT.out.symm, hq⟩
        · have HT := hid (HS.out (by omega) (by omega))
          go_wp2
          go_roundw
          case rel => exact ⟨j + 1, by omega, by go_num, HT.out, hq⟩
          case measure => simp [intOf]; omega
      · obtain rfl : j = k.length := by omega
        have HT := hid (okB_yes HL.out hall)
        clear hall
        go_wp2
        go_ret
        exact ⟨ret_bool HT.out.symm, hq⟩
  · have t0 : ((k.length : Int) != (W : Int)) = true := by rw [bne_iff_ne]; omega
    have t1 : (k.length != W) = true := by simpa using hl
    have HT := hid (okB_len hl)
    clear hl
    go_wp2
    go_ret
    exact ⟨ret_bool HT.out.symm, Qu.refl _⟩
/-- A cell, written out. -/
theorem CellE.lit {w : World} {E : Nat → Prop} {v : Value} {c : CellM} (h : CellE w E v c) : ∃ A1 c1 A2 c2 A3 c3, v = .agg #[.int .i64 c.n, .slice A1 c.s.length c1, .slice A2 c.lo.length c2, .slice A3 c.hi.length c3] := by
  obtain ⟨v1, v2, v3, e, h1, h2, h3⟩ := h
  obtain ⟨A1, c1, rfl, -, -⟩ := h1.sl.formI
  obtain ⟨A2, c2, rfl, -, -⟩ := h2.sl.formI
  obtain ⟨A3, c3, rfl, -, -⟩ := h3.sl.formI
  exact ⟨A1, c1, A2, c2, A3, c3, e⟩
def getC (L : List KC) (k : List Int) : CellM := (getK L k).getD nilC
def GetRP (E : Nat → Prop) (L : List KC) (k : List Int) (w : World) (e : Ending) (w' : World) : Prop := ∃ v, e = .returned (.tuple #[v, .bool (getK L k).isSome]) ∧ CellE w' E v (getC L k) ∧ Below w.heap.size w w'
theorem getK_at {L : List KC} {k : List Int} {j : Nat} (hj : j < L.length) (h1 : ∀ i, i < j → (L.getD i zK).1 ≠ k) (h2 : (L.getD j zK).1 = k) : getK L k = some (L.getD j zK).2 := by
  induction L generalizing j with
  | nil => simp at hj
  | cons x L ih =>
    rw [getK_cons]
    cases j with
    | zero => rw [if_pos (show x.1 = k from h2)]; rfl
    | succ j =>
      rw [if_neg (show x.1 ≠ k from h1 0 (by omega))]
      exact ih (by simpa using hj) (fun i hi => h1 (i + 1) (by omega)) h2
theorem getK_off {L : List KC} {k : List Int} (h : ∀ i, i < L.length → (L.getD i zK).1 ≠ k) : getK L k = none := by
  rw [getK_none]
  intro x hx e
  obtain ⟨j, hj, rfl⟩ := List.getElem_of_mem hx
  refine h j hj ?_
  rw [List.getD_eq_getElem?_getD, List.getElem?_eq_getElem hj]
  exact e
def GetRel (L : List KC) (k : List Int) (w : World) (i : Value) (wr : World) : Prop := ∃ j : Nat, j ≤ L.length ∧ i = .int .i64 j ∧ (∀ i, i < j → (L.getD i zK).1 ≠ k) ∧ Qu w wr
theorem CellE.nil_ {w : World} {E : Nat → Prop} : CellE w E (.agg #[.int .i64 0, .slice none 0 0, .slice none 0 0, .slice none 0 0]) nilC := by
  have h : SlE w E (.slice none 0 0) (ivals []) := ⟨none, 0, rfl, by simp [ivals], by simp [maxLen], by simp [ivals]⟩
  exact ⟨_, _, _, rfl, h, h, h⟩
set_option maxRecDepth 100000 in
set_option maxHeartbeats 3200000 in
theorem getR_any (R : Nat → Prop) (r : Nat) (W M : Int) (L : List KC) (v : Value) (k : List Int) (w : World) (hr : RefC w R r W M L) (hv : Sl w w.heap.size v (ivals k)) :
    Calls Try.prog 26 #[.pointer (some ⟨r, 0, none⟩), v] w (GetRP R L k w) := by
  obtain ⟨K, kc, rfl, hkc, hkm⟩ := hv.formI
  unfold maxLen at hkm
  have hr0 := hr
  obtain ⟨h1, h2, -, -, -, u, es, h6, h7, h8, h9⟩ := hr
  have hrl := h2 r h1
  obtain ⟨Au, cu, rfl, hcu, hcm⟩ : ∃ A c, u = .slice A L.length c ∧ L.length ≤ c ∧ c ≤ maxLen := by
    rcases h7.2 with ⟨rfl, e⟩ | ⟨g, cap, cur, rfl, -, -, a, b, -⟩
    · exact ⟨none, 0, by rw [e], by omega, by simp [maxLen]⟩
    · exact ⟨_, _, rfl, a, b⟩
  unfold maxLen at hcm
  have HEL := hid (fun j (hj : j < L.length) => RefC.elem h7 h9 hj)
  have H2 := hid h2; have H9 := hid h9
  have SV := hid hv
  clear h7 h8 h9 hv h2 hr0
  go_enter Try.func26, Try.ntmps26
  obtain ⟨W0, hW0⟩ : ∃ W, W = w.alloc (.cells #[.int .i64 0, .slice none 0 0, .slice none 0 0, .slice none 0 0] 25) := ⟨_, rfl⟩
  have hb0 : Below w.heap.size w W0 := by rw [hW0]; exact bl1 _ _
  have hs0 : W0.heap.size = w.heap.size + 1 := by rw [hW0]; simp
  have br : Blk W0 w.heap.size (.int .i64 0) (.slice none 0 0) (.slice none 0 0) (.slice none 0 0) := by rw [hW0]; exact Blk.new _ _ _ _ _ _
  have HB0 := hid hb0; have BR := hid br; have HS0 := hid hs0; have HW0 := hid hW0
  clear hb0 br hs0 hW0
  go_wp2
  rw [← HW0.out]
  go_loopw [6] (fun i wr => GetRel L k W0 i wr) (fun i _ => L.length - (intOf i).toNat)
  case atStart => exact ⟨0, by omega, rfl, fun i hi => by omega, Qu.refl _⟩
  case round =>
    obtain ⟨j, hj, rfl, hall, hq⟩ := hrel
    have HA := hid hall
    have hbw := HB0.out.trans (hq.below w.heap.size)
    have hsw := hbw.size
    have y2 : wr.cell? ⟨r, 2, none⟩ = _ := cellK hbw hrl h6
    have hs0 := HS0.out
    have hqs := hq.size
    have HBL := hid (fun v0 v1 v2 v3 => fin4 (b := w.heap.size) hbw (Nat.le_refl _) (by omega) v0 v1 v2 v3)
    have BRr := hid (BR.out.qu hq)
    have HBW := hid hbw
    have HQ := hid hq
    clear hall hq
    by_cases hlt : j < L.length
    · obtain ⟨g, cap, K', kc', A1, c1, A2, c2, A3, c3, e, -, hg, -, -, -, g0, g1, g2, g3, g4, s1, s2⟩ := HEL.out j hlt
      injection e with e _ e'
      subst e; subst e'
      have G0 := hid (cellK hbw hg g0); have G1 := hid (cellK hbw hg g1); have G2 := hid (cellK hbw hg g2); have G3 := hid (cellK hbw hg g3); have G4 := hid (cellK hbw hg g4)
      have HSM := hid (same8_any _ (.slice K k.length kc) (L.getD j zK).1 k wr _ _ (s1.sl.below hbw) (SV.out.below hbw))
      have HAT := hid (fun h => getK_at hlt HA.out h)
      have HNX := hid (fun h => all_succ (p := fun i => (L.getD i zK).1 ≠ k) HA.out h)
      have HS2 := hid s2
      clear g0 g1 g2 g3 g4 s1 s2 hbw
      generalize L.getD j zK = x at *
      obtain ⟨xk, xc⟩ := x
      simp only at G0 G1 G2 G3 G4 HSM HAT HNX HS2
      have y3 := G0.out
      by_cases hke : xk = k
      · have HS' := hid (show Calls Try.prog 59 #[.slice K' xk.length kc', .slice K k.length kc] wr (Stays (.bool true) wr) by rw [← decide_eq_true hke]; exact HSM.out)
        have HGK := hid (HAT.out hke)
        clear hke
        go_wp2_with fail
        refine HS'.out.mono ?_
        rintro e w1 ⟨rfl, nq, rfl⟩
        have z0 := G1.out; have z1 := G2.out; have z2 := G3.out; have z3 := G4.out
        obtain ⟨r0, r1, r2, r3, f0, f1, f2, f3⟩ := BRr.out
        have HCE := hid (fun v0 v1 v2 v3 => HS2.out.kept (w' := ((((wr.drewN nq).setCell ⟨w.heap.size, 0, none⟩ v0).setCell ⟨w.heap.size, 1, none⟩ v1).setCell ⟨w.heap.size, 2, none⟩ v2).setCell ⟨w.heap.size, 3, none⟩ v3) (fun i hi => (below_drewN HBW.out nq |>.trans ((upd4 w.heap.size (wr.drewN nq) v0 v1 v2 v3).below (Nat.le_refl _) (show w.heap.size < wr.heap.size by omega))).block i (H2.out i hi.1)))
        have HBL' := hid (fun v0 v1 v2 v3 => fin4 (b := w.heap.size) (below_drewN HBW.out nq) (Nat.le_refl _) (show w.heap.size < wr.heap.size by omega) v0 v1 v2 v3)
        go_wp2
        exact bodyPost_ret (v := .tuple #[.agg #[.int .i64 xc.n, .slice A1 xc.s.length c1, .slice A2 xc.lo.length c2, .slice A3 xc.hi.length c3], .bool true]) (by simp [results, Try.results26, go_sem, r0, r1, r2, r3]; done) rfl ⟨_, by rw [HGK.out]; rfl, by unfold getC; rw [HGK.out]; exact (HCE.out _ _ _ _).mono (fun i hi => hi.1), HBL'.out _ _ _ _⟩
      · have HS' := hid (show Calls Try.prog 59 #[.slice K' xk.length kc', .slice K k.length kc] wr (Stays (.bool false) wr) by rw [← decide_eq_false hke]; exact HSM.out)
        have HT := hid (HNX.out hke)
        clear hke
        go_wp2_with fail
        refine HS'.out.mono ?_
        rintro e w1 ⟨rfl, hq1⟩
        go_wp2
        go_roundw
        case rel => exact ⟨j + 1, by omega, by go_num, HT.out, HQ.out.trans hq1⟩
        case measure => simp [intOf]; omega
    · obtain rfl : j = L.length := by omega
      have HGK := hid (getK_off HA.out)
      obtain ⟨r0, r1, r2, r3, f0, f1, f2, f3⟩ := BRr.out
      clear hbw
      go_wp2
      exact bodyPost_ret (v := .tuple #[.agg #[.int .i64 0, .slice none 0 0, .slice none 0 0, .slice none 0 0], .bool false]) (by simp [results, Try.results26, go_sem, r0, r1, r2, r3]; done) rfl ⟨_, by rw [HGK.out]; rfl, by unfold getC; rw [HGK.out]; exact CellE.nil_, HBL.out _ _ _ _⟩
end Go.Proofs.Ytclhnnidbhchnaa
/- The map of a cuboid's cells: look-up and store. -/
namespace Go.Proofs.Ytclhnnidbhchnaa
open Go.ChangeShapes Go.WideShapes Go.ChangeAt Go.RowKit Go.Maps
open Go.ChangeMaps Go.MapKept
set_option linter.unusedVariables false
set_option linter.unusedSimpArgs false

/-- A map's element as it is. -/
def heldR : Value → Option (DataW Value × List MemPlace) := fun v => some (.held v, [])
def keyLk (k : List Int) : Lit := keyL (k.getD 0 0) (k.getD 1 0) (k.getD 2 0)
theorem code_at {W : Nat} {k : List Int} (h : okK W k) (i : Nat) : 0 ≤ k.getD i 0 ∧ k.getD i 0 ≤ 40 := by
  rw [List.getD_eq_getElem?_getD]
  rcases Nat.lt_or_ge i k.length with hi | hi
  · rw [List.getElem?_eq_getElem hi]
    exact h.2 _ (List.getElem_mem hi)
  · rw [List.getElem?_eq_none hi]; simp
theorem key_of_k {W : Nat} {k : List Int} (h : okK W k) : keyOf Try.prog 99 (keyT k) = some (keyLk k) := by
  have h0 := code_at h 0; have h1 := code_at h 1; have h2 := code_at h 2
  exact key_of (by omega) (by omega) (by omega)
theorem keyT_inj {W : Nat} {k k' : List Int} (h : okK W k) (h' : okK W k') (hW : W ≤ 3) (e : keyT k = keyT k') : k = k' := by
  unfold keyT keyV at e
  simp only [Value.agg.injEq, Array.mk.injEq, List.cons.injEq, Value.int.injEq, true_and, and_true] at e
  obtain ⟨e0, e1, e2⟩ := e
  apply List.ext_getElem
  · rw [h.1, h'.1]
  · intro i h1 h2
    have hi : i < 3 := by have := h.1; omega
    have q : k.getD i 0 = k'.getD i 0 := by
      obtain rfl | rfl | rfl : i = 0 ∨ i = 1 ∨ i = 2 := by omega
      · exact e0
      · exact e1
      · exact e2
    rwa [List.getD_eq_getElem?_getD, List.getD_eq_getElem?_getD, List.getElem?_eq_getElem h1, List.getElem?_eq_getElem h2] at q
theorem keyLk_inj {W : Nat} {k k' : List Int} (h : okK W k) (h' : okK W k') (hW : W ≤ 3) (e : keyLk k = keyLk k') : k = k' :=
  keyT_inj h h' hW (key_law.inj (key_of_k h) (by rw [e]; exact key_of_k h'))
theorem keyLk_is {W : Nat} {k : List Int} (h : okK W k) : WideAt.IsKeyLit (keyLk k) := key_law.key (key_of_k h)
theorem zero_cellM (w : World) : (zeroValue 25).run Try.prog w = .ok (.agg #[.int .i64 0, .slice none 0 0, .slice none 0 0, .slice none 0 0]) w := by kernel_rfl
/-- The map holds just the cells of a list; these lie in blocks of E. -/
def MapK (w : World) (E : Nat → Prop) (m W : Nat) (L : List KC) : Prop :=
  ∃ D : DataW Value, w.ownsMap Try.prog 99 heldR m L.length D ∧ Maps.size D = L.length ∧
    (∀ k, okK W k → Maps.has D (keyLk k) = (getK L k).isSome) ∧ (∀ x ∈ L, ∃ v, (∀ z, D.atKey (keyLk x.1) z = .held v) ∧ CellE w E v x.2) ∧ ∀ kl, Maps.has D kl = true → ∃ x ∈ L, kl = keyLk x.1
theorem MapK.kept {w w' : World} {E : Nat → Prop} {m W : Nat} {L : List KC} (h : MapK w E m W L) (hm : w'.heap[m]? = w.heap[m]?) (hk : Kept E w w') : MapK w' E m W L := by
  obtain ⟨D, ⟨es, clock, hb, r⟩, h2, h3, h4, h5⟩ := h
  refine ⟨D, ⟨es, clock, hm.trans hb, r⟩, h2, h3, fun x hx => ?_, h5⟩
  obtain ⟨v, a, b⟩ := h4 x hx
  exact ⟨v, a, b.kept hk⟩
theorem MapK.mono {w : World} {E E' : Nat → Prop} {m W : Nat} {L : List KC} (h : MapK w E m W L) (hE : ∀ i, E i → E' i) : MapK w E' m W L := by
  obtain ⟨D, h1, h2, h3, h4, h5⟩ := h
  refine ⟨D, h1, h2, h3, fun x hx => ?_, h5⟩
  obtain ⟨v, a, b⟩ := h4 x hx
  exact ⟨v, a, b.mono hE⟩
theorem MapK.lt {w : World} {E : Nat → Prop} {m W : Nat} {L : List KC} (h : MapK w E m W L) : m < w.heap.size := by
  obtain ⟨D, h1, -⟩ := h
  exact h1.lt
theorem MapK.new (w : World) (E : Nat → Prop) (W : Nat) : MapK (w.alloc (.map #[] 0)) E w.heap.size W [] :=
  ⟨.map [], World.ownsMap_made _ _ _ _, rfl, (fun k _ => rfl), (fun x hx => (by cases hx)), (fun kl h => (by simp [Maps.has] at h))⟩
/-- `v, ok := m[k]`. -/
theorem MapK.look {w : World} {E : Nat → Prop} {m W : Nat} {L : List KC} (h : MapK w E m W L) {k : List Int} (hk : okK W k) :
    ∃ v, (Instr.lookup 92 (.map (some m)) (keyT k) true).run Try.prog w = .ok (.tuple #[v, .bool (getK L k).isSome]) w ∧ CellE w E v (getC L k) := by
  obtain ⟨D, h1, h2, h3, h4, h5⟩ := h
  obtain ⟨v, ps, hrun, hR⟩ := h1.look_ok key_law Try.underlying92 (zero_cellM w) (show heldR _ = some (.held _, []) from rfl) (key_of_k hk)
  rw [h3 k hk] at hrun
  refine ⟨v, hrun, ?_⟩
  have hv : DataW.held v = D.atKey (keyLk k) (.held (.agg #[.int .i64 0, .slice none 0 0, .slice none 0 0, .slice none 0 0])) := by
    unfold heldR at hR
    simpa using congrArg Prod.fst (Option.some.inj hR)
  cases hg : getK L k with
  | none =>
    rw [Maps.atKey_of_not_has (by rw [h3 k hk, hg]; rfl)] at hv
    injection hv with hv
    subst hv
    unfold getC; rw [hg]; exact CellE.nil_
  | some c =>
    obtain ⟨u, hu, hce⟩ := h4 _ (getK_mem hg)
    rw [hu] at hv
    injection hv with hv
    subst hv
    unfold getC; rw [hg]; exact hce
theorem own_tight {w : World} {m n : Nat} {D : DataW Value} (h : w.ownsMap Try.prog 99 heldR m n D) : w.ownsMap Try.prog 99 heldR m (Maps.size D) D := by
  obtain ⟨es, clock, hb, F, hs, rfl⟩ := h
  exact ⟨es, clock, hb, F, by simp [Maps.size, length_sorted], rfl⟩
theorem turned_upd {w w' : World} {m : Nat} (h : w.mapTurned w' m) : Upd m w w' := h.grown
/-- `m[k] = v`. -/
theorem MapK.store {w : World} {E : Nat → Prop} {m W : Nat} {L : List KC} (h : MapK w E m W L) (hok : ∀ x ∈ L, okK W x.1) (hs : SortK L) (hW : W ≤ 3) (hL : L.length ≤ 1000000) (hm : ¬ E m) {k : List Int} (hk : okK W k) {v : Value} {c : CellM} (hv : CellE w E v c) :
    ∃ w', (Instr.mapUpdate 92 (.map (some m)) (keyT k) v).run Try.prog w = .ok () w' ∧ MapK w' E m W (setK k c L) ∧ Upd m w w' ∧ w'.heap.size = w.heap.size ∧ ∀ a, w'.frozen? a = w.frozen? a := by
  obtain ⟨D, h1, h2, h3, h4, h5⟩ := h
  obtain ⟨w', hrun, ho, ht⟩ := h1.store key_law Try.underlying92 (by unfold maxLen; omega) (key_of_k hk) (show heldR v = some (.held v, []) from rfl)
  have hu := turned_upd ht
  have hkp : Kept E w w' := fun i hi => by
    obtain ⟨es, clock, es', clock', hb, rfl⟩ := ht
    exact heap_setBlock_other hb _ (fun e => hm (e ▸ hi))
  have hsz : Maps.size (D.put (keyLk k) (.held v)) = (setK k c L).length := by
    rw [Maps.size_put (h1.tidy key_law), h3 k hk, h2, setK_len hs]
  have ho' := own_tight ho
  rw [hsz] at ho'
  refine ⟨w', hrun, ⟨D.put (keyLk k) (.held v), ho', hsz, fun k' hk' => ?_, fun x hx => ?_, fun kl hkl => ?_⟩, hu, ?_, fun a => ht.frozen a⟩
  · rw [getK_set hs]
    by_cases e : k = k'
    · subst e
      rw [Maps.has_put_same h1.isMap (keyLk_is hk), if_pos rfl]; rfl
    · rw [Maps.has_put_other (fun e' => e (keyLk_inj hk hk' hW e'.symm)), if_neg e]
      exact h3 k' hk'
  · have hg := getK_of_mem (sortK_set hs k c) hx
    rw [getK_set hs] at hg
    by_cases e : k = x.1
    · rw [if_pos e] at hg
      injection hg with hg
      refine ⟨v, fun z => ?_, ?_⟩
      · rw [← e]; exact Maps.atKey_put_same h1.isMap (keyLk_is hk) _ _
      · rw [← hg]; exact hv.kept hkp
    · rw [if_neg e] at hg
      have hxm := getK_mem hg
      obtain ⟨u, hu', hce⟩ := h4 _ hxm
      exact ⟨u, fun z => by rw [Maps.atKey_put_other (fun e' => e (keyLk_inj hk (hok _ hxm) hW e'.symm))]; exact hu' z, hce.kept hkp⟩
  · by_cases e : kl = keyLk k
    · refine ⟨(k, c), ?_, e⟩
      have := getK_set hs k c k
      rw [if_pos rfl] at this
      exact getK_mem this
    · rw [Maps.has_put_other e] at hkl
      obtain ⟨x, hx, rfl⟩ := h5 kl hkl
      have hne : k ≠ x.1 := fun e' => e (by rw [e'])
      have hg := getK_set hs k c x.1
      rw [if_neg hne, getK_of_mem hs hx] at hg
      exact ⟨x, getK_mem hg, rfl⟩
  · obtain ⟨es, clock, es', clock', hb, rfl⟩ := ht
    simp [setBlock]
end Go.Proofs.Ytclhnnidbhchnaa
