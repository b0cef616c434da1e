/- 1 text of this claim, in build order. -/
import Derived.Test.YtclhnnidbhchnaaPpgbkmnpm
import Derived.Test.YtclhnnidbhchnaaPcmmgfeam
import Derived.Test.YtclhnnidbhchnaaPfoojkoej
import Derived.Deep.RegionLaw
/- The reference's Read: a cuboid is read. -/
namespace Go.Proofs.Ytclhnnidbhchnaa
open Go.ChangeShapes Go.WideShapes Go.ChangeAt Go.RowKit Go.Maps
set_option linter.unusedVariables false
set_option linter.unusedSimpArgs false

/-- An element of the list: rows of the call's own. -/
def EntW (w : World) (H : Nat) (x : E5) (c : KC) : Prop :=
  w.ownsRow H 3 1 x.1 c.1.length (ivals c.1) ∧ x.2.1 = c.2.n ∧ w.ownsRow H 3 1 x.2.2.1 c.2.s.length (ivals c.2.s) ∧ w.ownsRow H 3 1 x.2.2.2.1 c.2.lo.length (ivals c.2.lo) ∧ w.ownsRow H 3 1 x.2.2.2.2 c.2.hi.length (ivals c.2.hi)
theorem EntW.keepT {w w' : World} {H : Nat} {x : E5} {c : KC} (h : EntW w H x c) (k : KeepT 3 H w w') : EntW w' H x c :=
  ⟨own_keepT h.1 k, h.2.1, own_keepT h.2.2.1 k, own_keepT h.2.2.2.1 k, own_keepT h.2.2.2.2 k⟩
def RowW (w : World) (H : Nat) (es : List E5) (L : List KC) : Prop := es.length = L.length ∧ ∀ k, k < L.length → EntW w H (es.getD k z5) (L.getD k zK)
theorem RowW.nil_ (w : World) (H : Nat) : RowW w H [] [] := ⟨rfl, fun k hk => by simp at hk⟩
theorem RowW.keepT {w w' : World} {H : Nat} {es : List E5} {L : List KC} (h : RowW w H es L) (k : KeepT 3 H w w') : RowW w' H es L := ⟨h.1, fun i hi => (h.2 i hi).keepT k⟩
theorem RowW.snoc {w : World} {H : Nat} {es : List E5} {L : List KC} (h : RowW w H es L) {x : E5} {c : KC} (h1 : EntW w H x c) : RowW w H (es ++ [x]) (L ++ [c]) := by
  obtain ⟨hl, hk⟩ := h
  refine ⟨by simp [hl], fun k hk' => ?_⟩
  rw [List.length_append, List.length_singleton] at hk'
  rcases Nat.lt_or_ge k L.length with h' | h'
  · have e1 : (es ++ [x]).getD k z5 = es.getD k z5 := by simp only [List.getD_eq_getElem?_getD]; rw [List.getElem?_append_left (by omega)]
    have e2 : (L ++ [c]).getD k zK = L.getD k zK := by simp only [List.getD_eq_getElem?_getD]; rw [List.getElem?_append_left (by omega)]
    rw [e1, e2]; exact hk k h'
  · obtain rfl : k = L.length := by omega
    have e1 : (es ++ [x]).getD L.length z5 = x := by simp only [List.getD_eq_getElem?_getD]; rw [← hl, List.getElem?_append_right (by omega)]; simp
    have e2 : (L ++ [c]).getD L.length zK = c := by simp only [List.getD_eq_getElem?_getD]; rw [List.getElem?_append_right (by omega)]; simp
    rw [e1, e2]; exact h1
theorem RowW.toO {w : World} {H : Nat} {es : List E5} {L : List KC} (h : RowW w H es L) : RowO w (fun k => H ≤ k ∧ k < w.heap.size) es L :=
  ⟨h.1, fun k hk => by
    obtain ⟨h1, h2, h3, h4, h5⟩ := h.2 k hk
    exact ⟨SlE.of_own h1 (fun g hg => h1.lt g hg), _, _, _, by rw [h2], SlE.of_own h3 (fun g hg => h3.lt g hg), SlE.of_own h4 (fun g hg => h4.lt g hg), SlE.of_own h5 (fun g hg => h5.lt g hg)⟩⟩
theorem OwnC.rows {w : World} {H : Nat} {n : Int} {u1 u2 u3 : Value} {s lo hi : List Int} (h : OwnC w H (.agg #[.int .i64 n, u1, u2, u3]) ⟨n, s, lo, hi⟩) : w.ownsRow H 3 1 u1 s.length (ivals s) ∧ w.ownsRow H 3 1 u2 lo.length (ivals lo) ∧ w.ownsRow H 3 1 u3 hi.length (ivals hi) := by
  obtain ⟨v1, v2, v3, e, h1, h2, h3, -, -⟩ := h
  obtain ⟨rfl, rfl, rfl⟩ : u1 = v1 ∧ u2 = v2 ∧ u3 = v3 := by simpa using e
  exact ⟨h1, h2, h3⟩
theorem stE_err {L : List KC} {K : List Int} {c : CellM} {e : Int} (h : e ≠ 0) : stE L K c e = e := by
  unfold stE badE
  rw [if_neg h]
  split <;> rfl
def ReadRP (W M : Nat) (T : List KC × Nat × Int) (B p : Nat) (l : List UInt8) (w : World) (e : Ending) (w' : World) : Prop :=
  ∃ r, RW w' B p l T.2.1 T.2.2 ∧ Upd p w w' ∧ ((T.2.2 ≠ 0 ∧ e = .returned (.tuple #[.pointer (some ⟨r, 0, none⟩), .bool false])) ∨ (T.2.2 = 0 ∧ e = .returned (.tuple #[.pointer (some ⟨r, 0, none⟩), .bool true]) ∧ ∃ R, RefC w' R r W M T.1 ∧ ∀ k, R k → w.heap.size ≤ k))
def RrRel (l : List UInt8) (B p W M : Nat) (w : World) (n : Nat) (T : List KC × Nat × Int) (i : Value) (wr : World) : Prop :=
  ∃ (j : Nat) (L : List KC) (a : Nat) (e : Int) (v : Value) (es : List E5), j ≤ n ∧ i = .int .i64 j ∧ (j < n → e = 0) ∧ BoxN w wr p w.heap.size [.int .i64 W, .int .i64 M, v] ∧ wr.ownsRow (w.heap.size + 1) 105 5 v L.length (flat5 es) ∧ RowW wr (w.heap.size + 1) es L ∧ OkL W M L ∧ L.length ≤ j ∧ RW wr B p l a e ∧ T = runC l W M (n - j) (L, a, e)
def KeRel (l : List UInt8) (B p W : Nat) (wk : World) (a0 : Nat) (e0 : Int) (kv i : Value) (wq : World) : Prop :=
  ∃ (j : Nat) (K : List Int) (a : Nat) (e : Int), j ≤ W ∧ i = .int .i64 j ∧ codesR l j a0 e0 = (K, a, e) ∧ wq.ownsRow wk.heap.size 3 1 kv j (ivals K) ∧ RW wq B p l a e ∧ Upd p wk wq
set_option maxRecDepth 100000 in
set_option maxHeartbeats 12800000 in
theorem readR_any (B p : Nat) (l : List UInt8) (a : Nat) (W M : Nat) (w : World) (h : RW w B p l a 0) (h1W : 1 ≤ W) (hW : W ≤ 3) (h1M : 1 ≤ M) (hM : M ≤ 2) :
    Calls Try.prog 34 #[.pointer (some ⟨p, 0, none⟩), .int .i64 W, .int .i64 M] w (ReadRP W M (readC l W M a 0) B p l w) := by
  obtain ⟨i1, hi', hz0', hz1', hz2'⟩ := info_parts info_int
  obtain ⟨i2, hi2, hx0, hx1, hx2⟩ := info_parts info_one
  have hp := h.lt
  have hal := h.2.1
  have HRW := hid h
  obtain ⟨-, -, -, -, s0, -, -, pe, -⟩ := h
  obtain ⟨n, a1, e1, hr1, hn3, ha1, hne⟩ := rInt_nat l a 0 64000 hal (by omega)
  obtain ⟨T, hT⟩ : ∃ T, T = readC l W M a 0 := ⟨_, rfl⟩
  have hT2 : T = runC l W M n ([], a1, e1) := by rw [hT]; unfold readC; simp only [hr1, Int.toNat_natCast]
  rw [← hT]
  have HT2 := hid hT2
  obtain ⟨W0, hW0⟩ : ∃ W', W' = w.alloc (.cells #[.int .i64 W, .int .i64 M, .slice none 0 0] 66) := ⟨_, rfl⟩
  have hb0 : Below w.heap.size w W0 := by rw [hW0]; exact bl1 _ _
  have hz0 : W0.heap.size = w.heap.size + 1 := by rw [hW0]; simp
  have pe := cellK hb0 hp pe
  have hbx : BoxN w W0 p w.heap.size [.int .i64 W, .int .i64 M, .slice none 0 0] := by
    refine ⟨by omega, Nat.le_refl _, Upd.of_below hb0, fun i v hv => ?_⟩
    have hi := (List.getElem?_eq_some_iff.1 hv).1
    simp only [List.length_cons, List.length_nil] at hi
    rw [hW0]
    rcases i with _ | _ | _ | i
    · simp at hv; subst hv; simp [go_sem]
    · simp at hv; subst hv; simp [go_sem]
    · simp at hv; subst hv; simp [go_sem]
    · omega
  have HI := hid (refReadInt_any B p l a 0 0 64000 W0 (HRW.out.keep (hb0.mono (by omega))))
  rw [hr1] at HI
  unfold RIntPost at HI
  simp only at HI
  have HBX := hid hbx; have HW0 := hid hW0
  rw [hW0] at pe
  clear hr1 hT hT2 hbx hW0 hb0
  go_enter Try.func34, Try.ntmps34
  go_wp2_with fail
  rw [← HW0.out]
  refine HI.out.mono ?_
  rintro en w3 ⟨rfl, hrw3, hu3⟩
  have B3 := hid (HBX.out.move hp hu3)
  have R3 := hid hrw3
  clear hrw3 hu3 pe
  go_wp2
  go_loopw [10] (fun i wr => RrRel l B p W M w n T i wr) (fun i _ => n - (intOf i).toNat)
  case atStart => exact ⟨0, [], a1, e1, _, [], by omega, rfl, fun h => Decidable.byContradiction (fun he => by have := hne he; omega), B3.out, World.ownsRow_nil _ _ _ _, RowW.nil_ _ _, OkL.nil_ W M, by simp, R3.out, HT2.out⟩
  case round =>
    clear B3 R3 HT2 HBX HI
    obtain ⟨j, L, a2, e2, v, es, hj, rfl, he2, hbx, hol, hrl, hok, hlen, hrw, hT⟩ := hrel
    have hul := hrw.2.1
    have hbu := hbx.upd
    have hsz := hbu.size
    have hnx0 := hbx.lt
    obtain ⟨Av, cv, rfl⟩ := own_formN hol
    by_cases hlt : j < n
    · have he2' := he2 hlt
      subst he2'
      have HBX := hid hbx; have HOL := hid hol; have HRL := hid hrl; have HOK := hid hok; have HT := hid hT; have RK := hid hrw
      clear he2 hbx hol hrl hok hrw hT hbu
      obtain ⟨wk, rfl⟩ : ∃ wk : World, wk = wr := ⟨_, rfl⟩
      go_wp2
      go_loopw [11, 12] (fun kv i wq => KeRel l B p W wk a2 0 kv i wq) (fun _ i _ => W - (intOf i).toNat)
      case atStart => exact ⟨0, [], a2, 0, by omega, rfl, rfl, World.ownsRow_nil _ _ _ _, RK.out, Upd.refl _ _⟩
      case round =>
        clear RK
        obtain ⟨i, K, a3, e3, hi, rfl, hcd, hkr, hrw3, hu3⟩ := hrel
        have hcok := (codesR_ok l a2 0 hul i).1
        rw [hcd] at hcok
        have hKl : K.length = i := hcok.1
        have hal3 := hrw3.2.1
        have hzq := hu3.size
        by_cases hlti : i < W
        · have HI := hid (refReadInt_any B p l a3 e3 0 40 wr hrw3)
          generalize hr : rInt l a3 e3 0 40 = r at HI
          obtain ⟨z, a4, e4⟩ := r
          have HCS := hid (codes_step hcd hr)
          unfold RIntPost at HI
          simp only at HI
          have HKR := hid hkr; have HU3 := hid hu3
          clear hcd hkr hrw3 hu3 hr hcok hKl
          go_wp2_with fail
          refine HI.out.mono ?_
          rintro en w4 ⟨rfl, hrw4, hu4⟩
          have HO4 := hid (own_keepT HKR.out (KeepT.of_upd hu4 (show p < wk.heap.size by omega)))
          have R4 := hid hrw4; have U4 := hid (HU3.out.trans hu4)
          have hz4 := hu4.size
          clear hrw4 hu4
          go_wp2_with (at_builtin; refine stop_here ?_)
          refine go_on ?_
          refine app_own_at (.tmp 55) (.tmp 58) 23 23 rfl rfl wk.heap.size 3 i1 (.int .i64 0) 1 8 Try.underlying23 hi' hz0' hz1' hz2' rfl (by decide) _ _ _ rfl (HO4.out.alloc _) (.slice (some ⟨w4.heap.size, 0, none⟩) 1 1) 1 [.int .i64 z] rfl (Src.ofSlice _ Try.underlying23 _ 1 1 _ rfl (cells_new_at _ _ _ rfl) (by simp; rfl)) (by simp only [maxLen]; omega) (by omega) (by rw [World.size_alloc]; omega) ?_
          intro v8 w8 hown8 hg8 hb8 hat8
          rw [show ivals K ++ [.int .i64 z] = ivals (K ++ [z]) by simp [ivals]] at hown8
          have hb48 : Below wk.heap.size w4 w8 := ((Below.refl _ w4).alloc (by omega) _).trans hb8
          have HNX := hid (show KeRel l B p W wk a2 0 v8 (.int .i64 ((i : Int) + 1)) w8 from ⟨i + 1, _, a4, e4, by omega, by go_num, HCS.out, hown8, R4.out.keep (hb48.mono (by omega)), U4.out.over hb48 (Nat.le_refl _)⟩)
          clear hown8 hg8 hb8 hat8 hb48
          go_wp2
          go_roundw
          case rel => exact HNX.out
          case measure => simp [intOf]; omega
        · obtain rfl : W = i := by omega
          have HI := hid (refReadInt_any B p l a3 e3 1 1099511627776 wr hrw3)
          generalize hr : rInt l a3 e3 1 1099511627776 = r at HI
          obtain ⟨nn, a4, e4⟩ := r
          unfold RIntPost at HI
          simp only at HI
          have hn0 : ∀ e5 : Int, (e5 = 0 → e4 = 0) → e5 = 0 → nn ≠ 0 := fun e5 h1 h2 => by
            have := rInt_good hal3 (show (rInt l a3 e3 1 1099511627776).2.2 = 0 by rw [hr]; exact h1 h2)
            rw [hr] at this
            have := this.2.1
            simp only at this
            omega
          have HN00 := hid hn0
          obtain ⟨Kv, kcap, rfl⟩ := own_formN hkr
          have HR0 := hid hr; have HCD := hid hcd; have HKV := hid hkr; have HUQ := hid hu3; have HKO := hid hcok
          clear hr hcd hkr hrw3 hu3 hcok hKl hn0
          go_wp2_with fail
          refine HI.out.mono ?_
          rintro en w4 ⟨rfl, hrw4, hu4⟩
          obtain ⟨Wj, hWj⟩ : ∃ W', W' = w4.alloc (.cells #[.int .i64 nn, .slice none 0 0, .slice none 0 0, .slice none 0 0] 25) := ⟨_, rfl⟩
          have hbj : Below w4.heap.size w4 Wj := by rw [hWj]; exact bl1 _ _
          have hz4 := hu4.size
          have hz3 := HUQ.out.size
          have CBJ := hid (show CellB Wj w4.heap.size nn [] [] [] by rw [hWj]; exact CellB.start w4 nn rfl)
          have RJ := hid (hrw4.keep (hbj.mono (show p + 1 ≤ w4.heap.size by omega)))
          have UJ := hid (show Upd p w4 Wj from Upd.of_below hbj)
          have HU4 := hid hu4; have HWj := hid hWj
          have hal4 := hrw4.2.1
          clear hrw4 hu4 hWj hbj
          go_wp2
          rw [← HWj.out]
          go_loopw [14] (fun i wq => MeRel l B p M w4 (⟨nn, [], [], []⟩, a4, e4) nn i wq) (fun i _ => M - (intOf i).toNat)
          case atStart => exact ⟨0, [], [], [], a4, e4, by omega, rfl, rfl, rfl, rfl, rfl, CBJ.out, RJ.out, UJ.out⟩
          case round =>
            clear CBJ RJ UJ
            obtain ⟨k, s, lo, hi, a5, e5, hk, rfl, l1, l2, l3, hme, hcb, hrw5, hu5⟩ := hrel
            have HL1 := hid l1; have HL2 := hid l2; have HL3 := hid l3; have HME := hid hme; have CB1 := hid hcb; have R1 := hid hrw5; have U1 := hid hu5
            have zx0 := hu5.size
            have hal5 := hrw5.2.1
            clear l1 l2 l3 hme hcb hrw5 hu5
            by_cases hltk : k < M
            · skip
              obtain ⟨A1, c1, y1, ho1⟩ := CB1.out.get 1 (by omega) (by omega)
              replace y1 : wr.cell? ⟨w4.heap.size, 1, none⟩ = some (.slice A1 k c1) := by
                have e : (fld s lo hi 1).length = k := HL1.out
                rw [e] at y1; exact y1
              replace ho1 : wr.ownsRow (w4.heap.size + 1) 3 1 (.slice A1 k c1) k (ivals s) := by
                have e : (fld s lo hi 1).length = k := HL1.out
                rw [e] at ho1; exact ho1
              have HO1 := hid ho1
              have HCI1 := hid (fun W' (hq : Qu wr W') => refReadInt_any B p l a5 e5 (-4611686018427387904) 4611686018427387904 W' (R1.out.qu hq))
              generalize hr1 : rInt l a5 e5 (-4611686018427387904) 4611686018427387904 = r1 at HCI1
              obtain ⟨z1x, a1x, e1x⟩ := r1
              unfold RIntPost at HCI1
              simp only at HCI1
              have HR1 := hid hr1
              have zw1 := CB1.out.lt
              clear ho1 hr1
              go_upto_region 17 with (fail)
              go_cut [] from 68 to 74 (fun wx => MeS l B p w4 nn (s ++ [z1x]) lo hi a1x e1x wx)
              case first =>
                go_wp2
                go_region_law (first
                  | (refine step_append_lies _ (by rfl) (.tmp 69) (.tmp 72) 23 (by rfl) (w4.heap.size + 1) 3 i1 (.int .i64 0) 1 8 Try.underlying23 hi' hz0' hz1' hz2' rfl (by omega) _ k (ivals s) (by rfl) (O1.out.alloc _) ⟨w5.heap.size, 0, none⟩ 1 1 _ (by rfl) rfl (cell_one_at _ _ _ rfl) (by simp; rfl) (by omega) (by unfold maxLen; omega) (by omega) (by simp; omega) (w5.heap.size + 1) (by simp) ?_; intro g cap w6 ho6 hg6 hat6 hlt6; obtain ⟨n1, n2, n3, n4⟩ := CX1.out.app1 HL1.out m0 ho6 hg6 hat6; have N3 := hid n3; have N4 := hid n4; clear ho6 hg6 hat6 n3 n4)
                  | (go_simp; go_at_call 69; refine (HCI1.out _ ⟨1, rfl⟩).mono ?_; rintro en w5 ⟨rfl, hrw5, hu5⟩; have U5 := hid (show Upd p wr w5 from (Upd.of_below (Below.refl wr.heap.size wr).drew).trans hu5); have CX1 := hid (CB1.out.upd U5.out (by omega)); have R5 := hid hrw5; have O1 := hid (own_keepT HO1.out (KeepT.of_upd U5.out (by omega))); have z5 := U5.out.size; have m0 := U5.out.cellAt (by omega) (by omega) y1; have m4 := cell_alloc (o := .cells #[.int .i64 z1x] 3) (show w4.heap.size < w5.heap.size by omega) m0; clear hu5 hrw5))
                all_goals
                  go_wp2
                  go_meet
                  case rel => exact ⟨N4.out, R5.out.keep (N3.out.mono (by omega)), (U1.out.trans U5.out).over N3.out (Nat.le_refl _)⟩
              case rest =>
              obtain ⟨hcb1, hrw1, huq1⟩ := hcut
              obtain ⟨wA, rfl⟩ : ∃ W', W' = wc := ⟨_, rfl⟩
              have zx1 := huq1.size
              clear y1 HCI1 HO1 CB1 R1 U1
              have CB2 := hid hcb1
              have R2 := hid hrw1
              have U2 := hid huq1
              clear hcb1 hrw1 huq1
              obtain ⟨A2, c2, y2, ho2⟩ := CB2.out.get 2 (by omega) (by omega)
              replace y2 : wA.cell? ⟨w4.heap.size, 2, none⟩ = some (.slice A2 k c2) := by
                have e : (fld (s ++ [z1x]) lo hi 2).length = k := HL2.out
                rw [e] at y2; exact y2
              replace ho2 : wA.ownsRow (w4.heap.size + 1) 3 1 (.slice A2 k c2) k (ivals lo) := by
                have e : (fld (s ++ [z1x]) lo hi 2).length = k := HL2.out
                rw [e] at ho2; exact ho2
              have HO2 := hid ho2
              have HCI2 := hid (fun W' (hq : Qu wA W') => refReadInt_any B p l a1x e1x (-2305843009213693952) 2305843009213693952 W' (R2.out.qu hq))
              generalize hr2 : rInt l a1x e1x (-2305843009213693952) 2305843009213693952 = r2 at HCI2
              obtain ⟨z2x, a2x, e2x⟩ := r2
              unfold RIntPost at HCI2
              simp only at HCI2
              have HR2 := hid hr2
              have zw2 := CB2.out.lt
              clear ho2 hr2
              go_upto_region 18 with (fail)
              go_cut [] from 75 to 81 (fun wx => MeS l B p w4 nn (s ++ [z1x]) (lo ++ [z2x]) hi a2x e2x wx)
              case first =>
                go_wp2
                go_region_law (first
                  | (refine step_append_lies _ (by rfl) (.tmp 76) (.tmp 79) 23 (by rfl) (w4.heap.size + 1) 3 i1 (.int .i64 0) 1 8 Try.underlying23 hi' hz0' hz1' hz2' rfl (by omega) _ k (ivals lo) (by rfl) (O2.out.alloc _) ⟨w5.heap.size, 0, none⟩ 1 1 _ (by rfl) rfl (cell_one_at _ _ _ rfl) (by simp; rfl) (by omega) (by unfold maxLen; omega) (by omega) (by simp; omega) (w5.heap.size + 1) (by simp) ?_; intro g cap w6 ho6 hg6 hat6 hlt6; obtain ⟨n1, n2, n3, n4⟩ := CX2.out.app2 HL2.out m0 ho6 hg6 hat6; have N3 := hid n3; have N4 := hid n4; clear ho6 hg6 hat6 n3 n4)
                  | (go_simp; go_at_call 69; refine (HCI2.out _ ⟨1, rfl⟩).mono ?_; rintro en w5 ⟨rfl, hrw5, hu5⟩; have U5 := hid (show Upd p wA w5 from (Upd.of_below (Below.refl wA.heap.size wA).drew).trans hu5); have CX2 := hid (CB2.out.upd U5.out (by omega)); have R5 := hid hrw5; have O2 := hid (own_keepT HO2.out (KeepT.of_upd U5.out (by omega))); have z5 := U5.out.size; have m0 := U5.out.cellAt (by omega) (by omega) y2; have m4 := cell_alloc (o := .cells #[.int .i64 z2x] 3) (show w4.heap.size < w5.heap.size by omega) m0; clear hu5 hrw5))
                all_goals
                  go_wp2
                  go_meet
                  case rel => exact ⟨N4.out, R5.out.keep (N3.out.mono (by omega)), (U2.out.trans U5.out).over N3.out (Nat.le_refl _)⟩
              case rest =>
              obtain ⟨hcb2, hrw2, huq2⟩ := hcut
              obtain ⟨wB, rfl⟩ : ∃ W', W' = wc := ⟨_, rfl⟩
              have zx2 := huq2.size
              clear y2 HCI2 HO2 CB2 R2 U2
              have CB3 := hid hcb2
              have R3 := hid hrw2
              have U3 := hid huq2
              clear hcb2 hrw2 huq2
              obtain ⟨A3, c3, y3, ho3⟩ := CB3.out.get 3 (by omega) (by omega)
              replace y3 : wB.cell? ⟨w4.heap.size, 3, none⟩ = some (.slice A3 k c3) := by
                have e : (fld (s ++ [z1x]) (lo ++ [z2x]) hi 3).length = k := HL3.out
                rw [e] at y3; exact y3
              replace ho3 : wB.ownsRow (w4.heap.size + 1) 3 1 (.slice A3 k c3) k (ivals hi) := by
                have e : (fld (s ++ [z1x]) (lo ++ [z2x]) hi 3).length = k := HL3.out
                rw [e] at ho3; exact ho3
              have HO3 := hid ho3
              have HCI3 := hid (fun W' (hq : Qu wB W') => refReadInt_any B p l a2x e2x (-2305843009213693952) 2305843009213693952 W' (R3.out.qu hq))
              generalize hr3 : rInt l a2x e2x (-2305843009213693952) 2305843009213693952 = r3 at HCI3
              obtain ⟨z3x, a3x, e3x⟩ := r3
              unfold RIntPost at HCI3
              simp only at HCI3
              have HR3 := hid hr3
              have zw3 := CB3.out.lt
              clear ho3 hr3
              go_wp2
              go_region_law (first
                | (refine step_append_lies _ (by rfl) (.tmp 83) (.tmp 86) 23 (by rfl) (w4.heap.size + 1) 3 i1 (.int .i64 0) 1 8 Try.underlying23 hi' hz0' hz1' hz2' rfl (by omega) _ k (ivals hi) (by rfl) (O3.out.alloc _) ⟨w5.heap.size, 0, none⟩ 1 1 _ (by rfl) rfl (cell_one_at _ _ _ rfl) (by simp; rfl) (by omega) (by unfold maxLen; omega) (by omega) (by simp; omega) (w5.heap.size + 1) (by simp) ?_; intro g cap w6 ho6 hg6 hat6 hlt6; obtain ⟨n1, n2, n3, n4⟩ := CX3.out.app3 HL3.out m0 ho6 hg6 hat6; have N3 := hid n3; have N4 := hid n4; clear ho6 hg6 hat6 n3 n4)
                | (go_simp; go_at_call 69; refine (HCI3.out _ ⟨1, rfl⟩).mono ?_; rintro en w5 ⟨rfl, hrw5, hu5⟩; have U5 := hid (show Upd p wB w5 from (Upd.of_below (Below.refl wB.heap.size wB).drew).trans hu5); have CX3 := hid (CB3.out.upd U5.out (by omega)); have R5 := hid hrw5; have O3 := hid (own_keepT HO3.out (KeepT.of_upd U5.out (by omega))); have z5 := U5.out.size; have m0 := U5.out.cellAt (by omega) (by omega) y3; have m4 := cell_alloc (o := .cells #[.int .i64 z3x] 3) (show w4.heap.size < w5.heap.size by omega) m0; clear hu5 hrw5))
              all_goals
                have hnx : MeRel l B p M w4 (⟨nn, [], [], []⟩, a4, e4) nn (.int .i64 ((k : Int) + 1)) (w6.setCell ⟨w4.heap.size, 3, none⟩ (.slice (some ⟨g, 0, none⟩) (k + 1) cap)) :=
                  ⟨k + 1, s ++ [z1x], lo ++ [z2x], hi ++ [z3x], a3x, e3x, by omega, by go_num, by rw [List.length_append, HL1.out]; rfl, by rw [List.length_append, HL2.out]; rfl, by rw [List.length_append, HL3.out]; rfl, meas_step HME.out HR1.out HR2.out HR3.out, N4.out, R5.out.keep (N3.out.mono (by omega)), (U3.out.trans U5.out).over N3.out (Nat.le_refl _)⟩
                have HNX := hid hnx
                clear hnx
                go_wp2
                go_roundw
                case rel => exact HNX.out
                case measure => simp [intOf]; omega
            · obtain rfl : M = k := by omega
              clear hltk
              have HN0 := hid (HN00.out e5 (fun h => by have := (measR_ok l (⟨nn, [], [], []⟩, a4, e4) hal4 M).2.2.1; rw [HME.out] at this; exact this h))
              have hent := ent_of HCD.out HR0.out HME.out
              have HT2 := hid (show T = runC l W M (n - (j + 1)) (stepC l W M (L, a2, 0)) by rw [HT.out, show n - j = (n - (j + 1)) + 1 by omega, runC_go rfl])
              have HST := hid (stepC_E (L := L) hent)
              have HUK := hid ((HUQ.out.trans HU4.out).trans U1.out)
              have HUJ := hid (HU4.out.trans U1.out)
              have HBX5 := hid (HBX.out.move hp HUK.out)
              have HOL5 := hid (own_keepT HOL.out (KeepT.of_upd HUK.out (show p < w.heap.size + 1 by omega)))
              have HRL5 := hid (HRL.out.keepT (KeepT.of_upd HUK.out (show p < w.heap.size + 1 by omega)))
              have HKR := hid (own_keepT HKV.out (KeepT.of_upd HUJ.out (show p < wk.heap.size by omega)))
              have hcK : w4.heap.size < wr.heap.size := CB1.out.lt
              obtain ⟨A1, c1, A2, c2, A3, c3, x0, x1, x2, x3, hown⟩ := CB1.out.cells
              obtain ⟨-, -, -, -, s5, -, -, r2, -⟩ := R1.out
              have HOWN := hid hown
              have HMY := hid (refMay_any (.agg #[.int .i64 nn, .slice A1 s.length c1, .slice A2 lo.length c2, .slice A3 hi.length c3]) ⟨nn, s, lo, hi⟩ wr hown.read)
              have g0 := (HBX5.out.c 2 _ rfl).1
              have hnb := HBX5.out.lt
              clear hent hown
              by_cases he : e5 = 0
              · have t1 : (e5 != 0) = false := by simp [he]
                obtain ⟨mv, hmv⟩ : ∃ mv, mv = mayC ⟨nn, s, lo, hi⟩ := ⟨_, rfl⟩
                rw [← hmv] at HMY
                have HMV := hid hmv
                obtain ⟨rv, hrv⟩ : ∃ rv, rv = risesB L K := ⟨_, rfl⟩
                have HRV := hid hrv
                obtain ⟨e9, he9⟩ : ∃ e9, e9 = stE L K ⟨nn, s, lo, hi⟩ e5 := ⟨_, rfl⟩
                have HE9 := hid he9
                have hcs : (mv = true ∧ rv = true ∧ e9 = e5) ∨ (mv = true ∧ rv = false ∧ e9 = badE e5) ∨ (mv = false ∧ e9 = badE e5) := by
                  rw [hmv, hrv, he9]
                  unfold stE
                  cases h1 : mayC ⟨nn, s, lo, hi⟩
                  · exact .inr (.inr ⟨rfl, by rw [if_neg (by simp)]⟩)
                  · cases h2 : risesB L K
                    · exact .inr (.inl ⟨rfl, rfl, by rw [if_neg (by simp)]⟩)
                    · exact .inl ⟨rfl, rfl, by rw [if_pos ⟨rfl, rfl⟩]⟩
                have HCS := hid hcs
                clear hmv hrv he9 hcs
                go_wp2_with fail
                refine HMY.out.mono ?_
                rintro en w5 ⟨rfl, hb5⟩
                have z5 := hb5.size
                have g0 := cellK hb5 hnb g0
                have HB5 := hid hb5
                clear hb5 r2
                rcases HCS.out with ⟨rfl, rfl, he9⟩ | ⟨rfl, rfl, he9⟩ | ⟨rfl, he9⟩
                · by_cases hL0 : L.length = 0
                  · have tl : ((L.length : Int) == 0) = true := by simp [hL0]
                    have hrt : risesB L K = true := by
                      have : L = [] := List.length_eq_zero_iff.1 hL0
                      rw [this]; rfl
                    clear hL0
                    go_upto_region 26 with (fail)
                    obtain ⟨w6, hw6⟩ : ∃ w', w' = w5 := ⟨_, rfl⟩
                    rw [← hw6]
                    have HB6 := hid (show Below wr.heap.size wr w6 by rw [hw6]; exact HB5.out)
                    clear hw6
                    have hz := stE_zero (show stE L K ⟨nn, s, lo, hi⟩ e5 = 0 by rw [← HE9.out, he9]; exact he)
                    have hmay := mayC_iff.1 hz.1
                    have hris := hz.2.1
                    have hst := HST.out
                    rw [← HE9.out, he9, if_pos he] at hst
                    have hT3 : T = runC l W M (n - (j + 1)) (L ++ [(K, ⟨nn, s, lo, hi⟩)], a5, 0) := by rw [HT2.out, hst]
                    have hn0 : nn ≠ 0 := HN0.out hz.2.2
                    have hz6 := HB6.out.size
                    have hbx6 := HBX5.out.over hp (HB6.out.mono (show w.heap.size + 1 ≤ wr.heap.size by omega))
                    have hol6 := own_kept HOL5.out (fun g hg => HB6.out.block g (HOL5.out.lt g hg).2)
                    have hbd : Below w6.heap.size w6 w6.drew := (Below.refl _ _).drew
                    have hold : w6.drew.ownsRow (w.heap.size + 1) 105 5 (.slice Av L.length cv) L.length (flat5 es) := own_kept hol6 (fun g hg => hbd.block g (hol6.lt g hg).2)
                    have x0 := cellK HB6.out (by omega) x0
                    have x1 := cellK HB6.out (by omega) x1
                    have x2 := cellK HB6.out (by omega) x2
                    have x3 := cellK HB6.out (by omega) x3
                    have g0 := (hbx6.c 2 _ rfl).1
                    have hn6 := hbx6.lt
                    have m4 : (w6.drew.alloc (.cells #[.slice Kv W kcap, .int .i64 nn, .slice A1 s.length c1, .slice A2 lo.length c2, .slice A3 hi.length c3] 105)).cell? ⟨w.heap.size, 2, none⟩ = some (.slice Av L.length cv) := cell_alloc (by exact hn6) g0
                    have HNA := hid (show ∀ j u, (Go.Proofs.Ytclhnnidbhchnaa.e5 (.slice Kv W kcap, nn, .slice A1 s.length c1, .slice A2 lo.length c2, .slice A3 hi.length c3))[j]? = some u → (w6.drew.alloc (.cells #[.slice Kv W kcap, .int .i64 nn, .slice A1 s.length c1, .slice A2 lo.length c2, .slice A3 hi.length c3] 105)).cell? ((⟨w6.heap.size, 0, none⟩ : Addr).add j) = some u from cells_new_at w6.drew _ _ rfl)
                    have HOLD := hid hold
                    have HNX := hid (fun (g cap : Nat) (w7 : World) (ho7 : w7.ownsRow (w.heap.size + 1) 105 5 (.slice (some ⟨g, 0, none⟩) (L.length + 1) cap) (L.length + 1) (flat5 es ++ Go.Proofs.Ytclhnnidbhchnaa.e5 (.slice Kv W kcap, nn, .slice A1 s.length c1, .slice A2 lo.length c2, .slice A3 hi.length c3))) (hg7 : (w6.drew.alloc (.cells #[.slice Kv W kcap, .int .i64 nn, .slice A1 s.length c1, .slice A2 lo.length c2, .slice A3 hi.length c3] 105)).grownBy w7 (Value.slice Av L.length cv).ownBlock) => show (w7.cell? ⟨w.heap.size, 2, none⟩ = some (.slice Av L.length cv) ∧ w7.frozen? ⟨w.heap.size, 2, none⟩ = false) ∧ RrRel l B p W M w n T (.int .i64 ((j : Int) + 1)) (w7.setCell ⟨w.heap.size, 2, none⟩ (.slice (some ⟨g, 0, none⟩) (L.length + 1) cap)) by
                      have hba : Below w6.heap.size w6 (w6.drew.alloc (.cells #[.slice Kv W kcap, .int .i64 nn, .slice A1 s.length c1, .slice A2 lo.length c2, .slice A3 hi.length c3] 105)) := hbd.alloc (Nat.le_refl _) _
                      have hola := hold.alloc (.cells #[.slice Kv W kcap, .int .i64 nn, .slice A1 s.length c1, .slice A2 lo.length c2, .slice A3 hi.length c3] 105)
                      have hsa := hba.size
                      have b7 : Below (w.heap.size + 1) w6 w7 := (hba.mono (by omega)).trans ((Below.refl _ _).grown hg7 (by omega) (fun j hj => (hola.lt j hj).1))
                      have hbx7 := hbx6.over hp b7
                      have hkt : KeepT 3 (w.heap.size + 1) wr w7 := ((KeepT.of_below HB6.out).trans (KeepT.of_below hba)).trans (KeepT.of_grown hg7 hola (by decide))
                      have hkt := hkt.trans (keepT_set (b := w.heap.size) (k := 2) (v := .slice (some ⟨g, 0, none⟩) (L.length + 1) cap) (Nat.lt_succ_self _))
                      obtain ⟨o1, o2, o3⟩ := HOWN.out.rows
                      refine ⟨hbx7.c 2 _ rfl, j + 1, L ++ [(K, ⟨nn, s, lo, hi⟩)], a5, 0, _, es ++ [(.slice Kv W kcap, nn, .slice A1 s.length c1, .slice A2 lo.length c2, .slice A3 hi.length c3)], by omega, by go_num, fun _ => rfl, hbx7.set 2 (by simp) _, ?_, (HRL5.out.keepT hkt).snoc ⟨?_, rfl, own_keepT (own_base o1 (by omega)) hkt, own_keepT (own_base o2 (by omega)) hkt, own_keepT (own_base o3 (by omega)) hkt⟩, HOK.out.snoc HKO.out hmay hn0 HL1.out hris, by rw [List.length_append, List.length_singleton]; omega, ?_, hT3⟩
                      · rw [List.length_append, List.length_singleton, flat5_snoc]
                        exact own_keepT ho7 (keepT_set (Nat.lt_succ_self _))
                      · have hkk := own_keepT (own_base HKR.out (show w.heap.size + 1 ≤ wk.heap.size by omega)) hkt
                        rw [show (K, (⟨nn, s, lo, hi⟩ : CellM)).1.length = W from HKO.out.1]
                        exact hkk
                      · have := ((R1.out.keep (HB6.out.mono (show p + 1 ≤ wr.heap.size by omega))).keep (b7.mono (show p + 1 ≤ w.heap.size + 1 by omega))).set (N := w.heap.size) (i := 2) hp (.slice (some ⟨g, 0, none⟩) (L.length + 1) cap)
                        rw [he] at this
                        exact this)
                    clear hz hmay hris hst hT3 hn0 hbx6 hol6 hbd hold HMY HME HR0 HCD HE9 HMV HRV HCS
                    go_wp2
                    go_region_law (first
                      | (refine step_append_lies _ (by rfl) (.tmp 133) (.tmp 137) 64 (by rfl) (w.heap.size + 1) 105 i2 (.agg #[.slice none 0 0, .int .i64 0, .slice none 0 0, .slice none 0 0, .slice none 0 0]) 5 104 Try.underlying64 hi2 hx0 hx1 hx2 rfl (by omega) _ L.length (flat5 es) (by rfl) (HOLD.out.alloc _) ⟨w6.heap.size, 0, none⟩ 1 1 (Go.Proofs.Ytclhnnidbhchnaa.e5 (.slice Kv W kcap, nn, .slice A1 s.length c1, .slice A2 lo.length c2, .slice A3 hi.length c3)) (by rfl) rfl HNA.out e5_one (by omega) (by unfold maxLen; omega) (by omega) (by simp; omega) (w6.heap.size + 1) (by simp) ?_; intro g cap w7 ho7 hg7 hat7 hlt7; obtain ⟨⟨m5, m6⟩, hnx7⟩ := HNX.out g cap w7 ho7 hg7; have HN7 := hid hnx7; clear ho7 hg7 hat7 hlt7 hnx7))
                    all_goals
                      go_wp2
                      go_roundw
                      case rel => exact HN7.out
                      case measure => simp [intOf]; omega
                  · have tl : ((L.length : Int) == 0) = false := by simpa using hL0
                    obtain ⟨m, hm⟩ : ∃ m, m = L.length - 1 := ⟨_, rfl⟩
                    have hmL : m < L.length := by omega
                    have hwm : IntKind.i64.wrap ((L.length : Int) - 1) = (m : Int) := by
                      rw [IntWalk.i64_in _ (by omega)]; omega
                    have hrm : true = lexB (L.getD m zK).1 K := by
                      rw [HRV.out, hm]
                      unfold risesB
                      have : L.isEmpty = false := by
                        cases L with
                        | nil => exact absurd rfl hL0
                        | cons x L => rfl
                      rw [this]; rfl
                    obtain ⟨gq, cap, K', kc', -, -, -, -, -, -, hv, hgb, hgl, -, -, -, q0, -, -, -, -, s1, -⟩ := RefC.elem HOL5.out HRL5.out.toO hmL
                    injection hv with hv1 _ hv3
                    subst hv1; subst hv3
                    have hkl : (L.getD m zK).1.length ≤ 3 := by
                      have : L.getD m zK ∈ L := by rw [List.getD_eq_getElem?_getD, List.getElem?_eq_getElem hmL]; exact List.getElem_mem hmL
                      have := (HOK.out.key _ this).1
                      omega
                    generalize (L.getD m zK).1 = lk at *
                    have q0 := cellK HB5.out hgl q0
                    have HLS := hid (fun W' (hq : Qu w5 W') => lessR_any (.slice K' lk.length kc') (.slice Kv W kcap) lk K W' w5.heap.size (((s1.sl.below HB5.out).more z5).qu' hq) ((((Sl.of_own HKR.out).below HB5.out).more z5).qu' hq))
                    rw [← hrm] at HLS
                    clear hL0 hm hrm s1
                    go_wp2
                    go_quiet (first | (go_at_call 70; exact Calls.quiet_of (HLS.out _ ⟨_, rfl⟩)))
                    go_upto_region 26 with (fail)
                    obtain ⟨w6, hw6⟩ : ∃ w', w' = w5.drewN nq := ⟨_, rfl⟩
                    rw [← hw6]
                    have HB6 := hid (show Below wr.heap.size wr w6 by rw [hw6]; exact below_drewN HB5.out _)
                    clear hw6 q0
                    have hz := stE_zero (show stE L K ⟨nn, s, lo, hi⟩ e5 = 0 by rw [← HE9.out, he9]; exact he)
                    have hmay := mayC_iff.1 hz.1
                    have hris := hz.2.1
                    have hst := HST.out
                    rw [← HE9.out, he9, if_pos he] at hst
                    have hT3 : T = runC l W M (n - (j + 1)) (L ++ [(K, ⟨nn, s, lo, hi⟩)], a5, 0) := by rw [HT2.out, hst]
                    have hn0 : nn ≠ 0 := HN0.out hz.2.2
                    have hz6 := HB6.out.size
                    have hbx6 := HBX5.out.over hp (HB6.out.mono (show w.heap.size + 1 ≤ wr.heap.size by omega))
                    have hol6 := own_kept HOL5.out (fun g hg => HB6.out.block g (HOL5.out.lt g hg).2)
                    have hbd : Below w6.heap.size w6 w6.drew := (Below.refl _ _).drew
                    have hold : w6.drew.ownsRow (w.heap.size + 1) 105 5 (.slice (some ⟨gq, 0, none⟩) L.length cv) L.length (flat5 es) := own_kept hol6 (fun g hg => hbd.block g (hol6.lt g hg).2)
                    have x0 := cellK HB6.out (by omega) x0
                    have x1 := cellK HB6.out (by omega) x1
                    have x2 := cellK HB6.out (by omega) x2
                    have x3 := cellK HB6.out (by omega) x3
                    have g0 := (hbx6.c 2 _ rfl).1
                    have hn6 := hbx6.lt
                    have m4 : (w6.drew.alloc (.cells #[.slice Kv W kcap, .int .i64 nn, .slice A1 s.length c1, .slice A2 lo.length c2, .slice A3 hi.length c3] 105)).cell? ⟨w.heap.size, 2, none⟩ = some (.slice (some ⟨gq, 0, none⟩) L.length cv) := cell_alloc (by exact hn6) g0
                    have HNA := hid (show ∀ j u, (Go.Proofs.Ytclhnnidbhchnaa.e5 (.slice Kv W kcap, nn, .slice A1 s.length c1, .slice A2 lo.length c2, .slice A3 hi.length c3))[j]? = some u → (w6.drew.alloc (.cells #[.slice Kv W kcap, .int .i64 nn, .slice A1 s.length c1, .slice A2 lo.length c2, .slice A3 hi.length c3] 105)).cell? ((⟨w6.heap.size, 0, none⟩ : Addr).add j) = some u from cells_new_at w6.drew _ _ rfl)
                    have HOLD := hid hold
                    have HNX := hid (fun (g cap : Nat) (w7 : World) (ho7 : w7.ownsRow (w.heap.size + 1) 105 5 (.slice (some ⟨g, 0, none⟩) (L.length + 1) cap) (L.length + 1) (flat5 es ++ Go.Proofs.Ytclhnnidbhchnaa.e5 (.slice Kv W kcap, nn, .slice A1 s.length c1, .slice A2 lo.length c2, .slice A3 hi.length c3))) (hg7 : (w6.drew.alloc (.cells #[.slice Kv W kcap, .int .i64 nn, .slice A1 s.length c1, .slice A2 lo.length c2, .slice A3 hi.length c3] 105)).grownBy w7 (Value.slice (some ⟨gq, 0, none⟩) L.length cv).ownBlock) => show (w7.cell? ⟨w.heap.size, 2, none⟩ = some (.slice (some ⟨gq, 0, none⟩) L.length cv) ∧ w7.frozen? ⟨w.heap.size, 2, none⟩ = false) ∧ RrRel l B p W M w n T (.int .i64 ((j : Int) + 1)) (w7.setCell ⟨w.heap.size, 2, none⟩ (.slice (some ⟨g, 0, none⟩) (L.length + 1) cap)) by
                      have hba : Below w6.heap.size w6 (w6.drew.alloc (.cells #[.slice Kv W kcap, .int .i64 nn, .slice A1 s.length c1, .slice A2 lo.length c2, .slice A3 hi.length c3] 105)) := hbd.alloc (Nat.le_refl _) _
                      have hola := hold.alloc (.cells #[.slice Kv W kcap, .int .i64 nn, .slice A1 s.length c1, .slice A2 lo.length c2, .slice A3 hi.length c3] 105)
                      have hsa := hba.size
                      have b7 : Below (w.heap.size + 1) w6 w7 := (hba.mono (by omega)).trans ((Below.refl _ _).grown hg7 (by omega) (fun j hj => (hola.lt j hj).1))
                      have hbx7 := hbx6.over hp b7
                      have hkt : KeepT 3 (w.heap.size + 1) wr w7 := ((KeepT.of_below HB6.out).trans (KeepT.of_below hba)).trans (KeepT.of_grown hg7 hola (by decide))
                      have hkt := hkt.trans (keepT_set (b := w.heap.size) (k := 2) (v := .slice (some ⟨g, 0, none⟩) (L.length + 1) cap) (Nat.lt_succ_self _))
                      obtain ⟨o1, o2, o3⟩ := HOWN.out.rows
                      refine ⟨hbx7.c 2 _ rfl, j + 1, L ++ [(K, ⟨nn, s, lo, hi⟩)], a5, 0, _, es ++ [(.slice Kv W kcap, nn, .slice A1 s.length c1, .slice A2 lo.length c2, .slice A3 hi.length c3)], by omega, by go_num, fun _ => rfl, hbx7.set 2 (by simp) _, ?_, (HRL5.out.keepT hkt).snoc ⟨?_, rfl, own_keepT (own_base o1 (by omega)) hkt, own_keepT (own_base o2 (by omega)) hkt, own_keepT (own_base o3 (by omega)) hkt⟩, HOK.out.snoc HKO.out hmay hn0 HL1.out hris, by rw [List.length_append, List.length_singleton]; omega, ?_, hT3⟩
                      · rw [List.length_append, List.length_singleton, flat5_snoc]
                        exact own_keepT ho7 (keepT_set (Nat.lt_succ_self _))
                      · have hkk := own_keepT (own_base HKR.out (show w.heap.size + 1 ≤ wk.heap.size by omega)) hkt
                        rw [show (K, (⟨nn, s, lo, hi⟩ : CellM)).1.length = W from HKO.out.1]
                        exact hkk
                      · have := ((R1.out.keep (HB6.out.mono (show p + 1 ≤ wr.heap.size by omega))).keep (b7.mono (show p + 1 ≤ w.heap.size + 1 by omega))).set (N := w.heap.size) (i := 2) hp (.slice (some ⟨g, 0, none⟩) (L.length + 1) cap)
                        rw [he] at this
                        exact this)
                    clear hz hmay hris hst hT3 hn0 hbx6 hol6 hbd hold HMY HLS HME HR0 HCD HE9 HMV HRV HCS
                    go_wp2
                    go_region_law (first
                      | (refine step_append_lies _ (by rfl) (.tmp 133) (.tmp 137) 64 (by rfl) (w.heap.size + 1) 105 i2 (.agg #[.slice none 0 0, .int .i64 0, .slice none 0 0, .slice none 0 0, .slice none 0 0]) 5 104 Try.underlying64 hi2 hx0 hx1 hx2 rfl (by omega) _ L.length (flat5 es) (by rfl) (HOLD.out.alloc _) ⟨w6.heap.size, 0, none⟩ 1 1 (Go.Proofs.Ytclhnnidbhchnaa.e5 (.slice Kv W kcap, nn, .slice A1 s.length c1, .slice A2 lo.length c2, .slice A3 hi.length c3)) (by rfl) rfl HNA.out e5_one (by omega) (by unfold maxLen; omega) (by omega) (by simp; omega) (w6.heap.size + 1) (by simp) ?_; intro g cap w7 ho7 hg7 hat7 hlt7; obtain ⟨⟨m5, m6⟩, hnx7⟩ := HNX.out g cap w7 ho7 hg7; have HN7 := hid hnx7; clear ho7 hg7 hat7 hlt7 hnx7))
                    all_goals
                      go_wp2
                      go_roundw
                      case rel => exact HN7.out
                      case measure => simp [intOf]; omega
                · by_cases hL0 : L.length = 0
                  · have tl : ((L.length : Int) == 0) = true := by simp [hL0]
                    have hrt : risesB L K = true := by
                      have : L = [] := List.length_eq_zero_iff.1 hL0
                      rw [this]; rfl
                    clear hL0
                    go_upto_region 26 with (fail)
                    obtain ⟨w6, hw6⟩ : ∃ w', w' = w5 := ⟨_, rfl⟩
                    rw [← hw6]
                    have HB6 := hid (show Below wr.heap.size wr w6 by rw [hw6]; exact HB5.out)
                    clear hw6
                    have hff := HRV.out
                    rw [hrt] at hff
                    cases hff
                  · have tl : ((L.length : Int) == 0) = false := by simpa using hL0
                    obtain ⟨m, hm⟩ : ∃ m, m = L.length - 1 := ⟨_, rfl⟩
                    have hmL : m < L.length := by omega
                    have hwm : IntKind.i64.wrap ((L.length : Int) - 1) = (m : Int) := by
                      rw [IntWalk.i64_in _ (by omega)]; omega
                    have hrm : false = lexB (L.getD m zK).1 K := by
                      rw [HRV.out, hm]
                      unfold risesB
                      have : L.isEmpty = false := by
                        cases L with
                        | nil => exact absurd rfl hL0
                        | cons x L => rfl
                      rw [this]; rfl
                    obtain ⟨gq, cap, K', kc', -, -, -, -, -, -, hv, hgb, hgl, -, -, -, q0, -, -, -, -, s1, -⟩ := RefC.elem HOL5.out HRL5.out.toO hmL
                    injection hv with hv1 _ hv3
                    subst hv1; subst hv3
                    have hkl : (L.getD m zK).1.length ≤ 3 := by
                      have : L.getD m zK ∈ L := by rw [List.getD_eq_getElem?_getD, List.getElem?_eq_getElem hmL]; exact List.getElem_mem hmL
                      have := (HOK.out.key _ this).1
                      omega
                    generalize (L.getD m zK).1 = lk at *
                    have q0 := cellK HB5.out hgl q0
                    have HLS := hid (fun W' (hq : Qu w5 W') => lessR_any (.slice K' lk.length kc') (.slice Kv W kcap) lk K W' w5.heap.size (((s1.sl.below HB5.out).more z5).qu' hq) ((((Sl.of_own HKR.out).below HB5.out).more z5).qu' hq))
                    rw [← hrm] at HLS
                    clear hL0 hm hrm s1
                    go_wp2
                    go_quiet (first | (go_at_call 70; exact Calls.quiet_of (HLS.out _ ⟨_, rfl⟩)))
                    go_upto_region 26 with (fail)
                    obtain ⟨w6, hw6⟩ : ∃ w', w' = w5.drewN nq := ⟨_, rfl⟩
                    rw [← hw6]
                    have HB6 := hid (show Below wr.heap.size wr w6 by rw [hw6]; exact below_drewN HB5.out _)
                    clear hw6 q0
                    have HBD := hid (refReadBad_any B p l a5 e5 w6 (R1.out.keep (HB6.out.mono (show p + 1 ≤ wr.heap.size by omega))))
                    go_wp2_with fail
                    refine HBD.out.mono ?_
                    rintro en w7 ⟨rfl, hrw7, hu7⟩
                    have HP := hid (show ReadRP W M T B p l w (.returned (.tuple #[.pointer (some ⟨w.heap.size, 0, none⟩), .bool false])) w7 by
                      have hst := HST.out
                      rw [← HE9.out, he9, if_neg (by rw [he]; decide)] at hst
                      have hT3 : T = (L, a5, badE e5) := by rw [HT2.out, hst]; exact runC_err (by show badE e5 ≠ 0; rw [he]; decide) _
                      rw [hT3]
                      exact ⟨_, hrw7, ((HBX5.out.upd.trans (Upd.of_below HB6.out)).trans hu7), .inl ⟨by show badE e5 ≠ 0; rw [he]; decide, rfl⟩⟩)
                    clear hrw7 hu7
                    go_wp2
                    go_ret2
                    exact HP.out
                · by_cases hL0 : L.length = 0
                  · have tl : ((L.length : Int) == 0) = true := by simp [hL0]
                    have hrt : risesB L K = true := by
                      have : L = [] := List.length_eq_zero_iff.1 hL0
                      rw [this]; rfl
                    clear hL0
                    go_upto_region 26 with (fail)
                    obtain ⟨w6, hw6⟩ : ∃ w', w' = w5 := ⟨_, rfl⟩
                    rw [← hw6]
                    have HB6 := hid (show Below wr.heap.size wr w6 by rw [hw6]; exact HB5.out)
                    clear hw6
                    have HBD := hid (refReadBad_any B p l a5 e5 w6 (R1.out.keep (HB6.out.mono (show p + 1 ≤ wr.heap.size by omega))))
                    go_wp2_with fail
                    refine HBD.out.mono ?_
                    rintro en w7 ⟨rfl, hrw7, hu7⟩
                    have HP := hid (show ReadRP W M T B p l w (.returned (.tuple #[.pointer (some ⟨w.heap.size, 0, none⟩), .bool false])) w7 by
                      have hst := HST.out
                      rw [← HE9.out, he9, if_neg (by rw [he]; decide)] at hst
                      have hT3 : T = (L, a5, badE e5) := by rw [HT2.out, hst]; exact runC_err (by show badE e5 ≠ 0; rw [he]; decide) _
                      rw [hT3]
                      exact ⟨_, hrw7, ((HBX5.out.upd.trans (Upd.of_below HB6.out)).trans hu7), .inl ⟨by show badE e5 ≠ 0; rw [he]; decide, rfl⟩⟩)
                    clear hrw7 hu7
                    go_wp2
                    go_ret2
                    exact HP.out
                  · have tl : ((L.length : Int) == 0) = false := by simpa using hL0
                    obtain ⟨m, hm⟩ : ∃ m, m = L.length - 1 := ⟨_, rfl⟩
                    have hmL : m < L.length := by omega
                    have hwm : IntKind.i64.wrap ((L.length : Int) - 1) = (m : Int) := by
                      rw [IntWalk.i64_in _ (by omega)]; omega
                    have hrm : rv = lexB (L.getD m zK).1 K := by
                      rw [HRV.out, hm]
                      unfold risesB
                      have : L.isEmpty = false := by
                        cases L with
                        | nil => exact absurd rfl hL0
                        | cons x L => rfl
                      rw [this]; rfl
                    obtain ⟨gq, cap, K', kc', -, -, -, -, -, -, hv, hgb, hgl, -, -, -, q0, -, -, -, -, s1, -⟩ := RefC.elem HOL5.out HRL5.out.toO hmL
                    injection hv with hv1 _ hv3
                    subst hv1; subst hv3
                    have hkl : (L.getD m zK).1.length ≤ 3 := by
                      have : L.getD m zK ∈ L := by rw [List.getD_eq_getElem?_getD, List.getElem?_eq_getElem hmL]; exact List.getElem_mem hmL
                      have := (HOK.out.key _ this).1
                      omega
                    generalize (L.getD m zK).1 = lk at *
                    have q0 := cellK HB5.out hgl q0
                    have HLS := hid (fun W' (hq : Qu w5 W') => lessR_any (.slice K' lk.length kc') (.slice Kv W kcap) lk K W' w5.heap.size (((s1.sl.below HB5.out).more z5).qu' hq) ((((Sl.of_own HKR.out).below HB5.out).more z5).qu' hq))
                    rw [← hrm] at HLS
                    clear hL0 hm hrm s1
                    go_wp2
                    go_quiet (first | (go_at_call 70; exact Calls.quiet_of (HLS.out _ ⟨_, rfl⟩)))
                    go_upto_region 26 with (fail)
                    obtain ⟨w6, hw6⟩ : ∃ w', w' = w5.drewN nq := ⟨_, rfl⟩
                    rw [← hw6]
                    have HB6 := hid (show Below wr.heap.size wr w6 by rw [hw6]; exact below_drewN HB5.out _)
                    clear hw6 q0
                    have HBD := hid (refReadBad_any B p l a5 e5 w6 (R1.out.keep (HB6.out.mono (show p + 1 ≤ wr.heap.size by omega))))
                    go_wp2_with fail
                    refine HBD.out.mono ?_
                    rintro en w7 ⟨rfl, hrw7, hu7⟩
                    have HP := hid (show ReadRP W M T B p l w (.returned (.tuple #[.pointer (some ⟨w.heap.size, 0, none⟩), .bool false])) w7 by
                      have hst := HST.out
                      rw [← HE9.out, he9, if_neg (by rw [he]; decide)] at hst
                      have hT3 : T = (L, a5, badE e5) := by rw [HT2.out, hst]; exact runC_err (by show badE e5 ≠ 0; rw [he]; decide) _
                      rw [hT3]
                      exact ⟨_, hrw7, ((HBX5.out.upd.trans (Upd.of_below HB6.out)).trans hu7), .inl ⟨by show badE e5 ≠ 0; rw [he]; decide, rfl⟩⟩)
                    clear hrw7 hu7
                    go_wp2
                    go_ret2
                    exact HP.out
              · have t1 : (e5 != 0) = true := by simpa using he
                have HP := hid (show ReadRP W M T B p l w (.returned (.tuple #[.pointer (some ⟨w.heap.size, 0, none⟩), .bool false])) wr by
                  have hst := HST.out
                  rw [stE_err he, if_neg he] at hst
                  have hT3 : T = (L, a5, e5) := by rw [HT2.out, hst]; exact runC_err he _
                  rw [hT3]
                  exact ⟨_, R1.out, HBX5.out.upd, .inl ⟨he, rfl⟩⟩)
                go_wp2
                go_ret2
                exact HP.out
    · obtain rfl : n = j := by omega
      have hTe : T = (L, a2, e2) := by rw [hT, Nat.sub_self]; rfl
      obtain ⟨-, -, -, -, s5, -, -, r2, -⟩ := id hrw
      have hrc : RefC wr (fun k => w.heap.size ≤ k ∧ k < wr.heap.size) w.heap.size W M L := by
        refine ⟨⟨Nat.le_refl _, hnx0⟩, fun k hk => hk.2, fun i hi => ?_, (hbx.c 0 _ rfl).1, (hbx.c 1 _ rfl).1, _, es, (hbx.c 2 _ rfl).1, own_base hol (Nat.zero_le _), fun g hg => ?_, hrl.toO.mono (fun i hi => ⟨⟨by omega, hi.2⟩, by omega⟩)⟩
        · rcases i with _ | _ | _ | i
          · exact (hbx.c 0 _ rfl).2
          · exact (hbx.c 1 _ rfl).2
          · exact (hbx.c 2 _ rfl).2
          · omega
        · have := hol.lt g hg
          exact ⟨⟨by omega, this.2⟩, by omega⟩
      have HRC := hid hrc; have HTE := hid hTe; have HRW2 := hid hrw; have HBU := hid hbu
      clear he2 hbx hol hrl hok hrw hT hbu hTe hrc
      by_cases he : e2 = 0
      · have t1 : (e2 == 0) = true := by simp [he]
        have HP := hid (fun nq => show ReadRP W M T B p l w (.returned (.tuple #[.pointer (some ⟨w.heap.size, 0, none⟩), .bool true])) (wr.drewN nq) by
          rw [HTE.out]
          exact ⟨_, HRW2.out.qu ⟨_, rfl⟩, HBU.out.trans (Upd.of_below (below_drewN (Below.refl _ _) _)), .inr ⟨he, rfl, _, HRC.out.qu ⟨_, rfl⟩, fun k hk => hk.1⟩⟩)
        go_wp2
        go_quiet (fail)
        go_wp2
        go_ret2
        exact HP.out _
      · have t1 : (e2 == 0) = false := by simpa using he
        have HP := hid (fun nq => show ReadRP W M T B p l w (.returned (.tuple #[.pointer (some ⟨w.heap.size, 0, none⟩), .bool false])) (wr.drewN nq) by
          rw [HTE.out]
          exact ⟨_, HRW2.out.qu ⟨_, rfl⟩, HBU.out.trans (Upd.of_below (below_drewN (Below.refl _ _) _)), .inl ⟨he, rfl⟩⟩)
        go_wp2
        go_quiet (fail)
        go_wp2
        go_ret2
        exact HP.out _
end Go.Proofs.Ytclhnnidbhchnaa
