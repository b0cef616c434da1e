/- 1 text of this claim, in build order. -/
import Derived.Test.YtclhnnidbhchnaaPpgbkmnpm
import Derived.Test.YtclhnnidbhchnaaPkbnfocpb
import Derived.Test.YtclhnnidbhchnaaPannjhgde
import Derived.Test.YtclhnnidbhchnaaPighbanon
import Derived.Deep.RegionLaw
/- cuboid.Read: a cuboid is read. -/
namespace Go.Proofs.Ytclhnnidbhchnaa
open Go.ChangeShapes Go.WideShapes Go.ChangeAt Go.RowKit Go.Maps Go.Sort
set_option linter.unusedVariables false
set_option linter.unusedSimpArgs false

theorem below_growK {W w' : World} (h : ∃ q os', w' = grow (W.drewN q) os') : Below W.heap.size W w' := by
  obtain ⟨q, os', rfl⟩ := h
  refine ⟨rfl, rfl, rfl, ?_, fun g hg => ?_⟩
  · show W.heap.size ≤ (W.heap ++ os').size
    rw [Array.size_append]; omega
  · show (W.heap ++ os')[g]? = W.heap[g]?
    rw [Array.getElem?_append_left hg]
theorem OwnC.onD {w w' : World} {H : Nat} {v : Value} {c : CellM} (h : OwnC w H v c) (hb : Below w.heap.size w w') : OwnC w' H v c := by
  obtain ⟨v1, v2, v3, e, h1, h2, h3, h4⟩ := h
  exact ⟨v1, v2, v3, e, own_kept h1 (fun g hg => hb.block g (h1.lt g hg).2), own_kept h2 (fun g hg => hb.block g (h2.lt g hg).2), own_kept h3 (fun g hg => hb.block g (h3.lt g hg).2), h4⟩
def ReadCP (W M : Nat) (T : List KC × Nat × Int) (B p : Nat) (l : List UInt8) (w : World) (e : Ending) (w' : World) : Prop :=
  RW w' B p l T.2.1 T.2.2 ∧ Upd p w w' ∧ ((T.2.2 ≠ 0 ∧ e = .returned (.pointer none)) ∨ (T.2.2 = 0 ∧ ∃ pc mc D, e = .returned (.pointer (some ⟨pc, 0, none⟩)) ∧ CubW w' D pc mc W M T.1 ∧ ∀ k, D k → w.heap.size ≤ k))
def RdRel (l : List UInt8) (B p W M pc mc N0 : Nat) (w : World) (n : Nat) (T : List KC × Nat × Int) (i : Value) (wr : World) : Prop :=
  ∃ (j : Nat) (L : List KC) (a : Nat) (e : Int) (D : Nat → Prop), j ≤ n ∧ i = .int .i64 j ∧ (j < n → e = 0) ∧ CubW wr D pc mc W M L ∧ OkL W M L ∧ L.length ≤ j ∧ (∀ k, D k → w.heap.size ≤ k ∧ k ≠ N0) ∧ BoxN w wr p N0 (k3 (lastT L)) ∧ RW wr B p l a e ∧ T = runC l W M (n - j) (L, a, e)
def CoRel (l : List UInt8) (B p W : Nat) (w wk : World) (a0 : Nat) (e0 : Int) (i : Value) (wq : World) : Prop :=
  ∃ (j : Nat) (K : List Int) (a : Nat) (e : Int), j ≤ W ∧ i = .int .i64 j ∧ codesR l j a0 e0 = (K, a, e) ∧ BoxN w wq p wk.heap.size (k3 (t3 K)) ∧ RW wq B p l a e ∧ Upd p wk wq
set_option maxRecDepth 100000 in
set_option maxHeartbeats 12800000 in
theorem readC_any (B p : Nat) (l : List UInt8) (a : Nat) (e : Int) (W M : Nat) (w : World) (h : RW w B p l a e) (h1W : 1 ≤ W) (hW : W ≤ 3) (h1M : 1 ≤ M) (hM : M ≤ 2) :
    Calls Try.prog 32 #[.pointer (some ⟨p, 0, none⟩), .int .i64 W, .int .i64 M] w (ReadCP W M (readC l W M a e) B p l w) := by
  obtain ⟨i1, hi', hz0', hz1', hz2'⟩ := info_parts info_int
  have hp := h.lt
  have hBp := h.1
  have hal := h.2.1
  have HNW := hid (newC_yes W M w h1W hW h1M hM)
  have HRW := hid h
  obtain ⟨n, a1, e1, hr1, hn3, ha1, hne⟩ := rInt_nat l a e 64000 hal (by omega)
  obtain ⟨T, hT⟩ : ∃ T, T = readC l W M a e := ⟨_, rfl⟩
  have hT2 : T = runC l W M n ([], a1, e1) := by rw [hT]; unfold readC; simp only [hr1, Int.toNat_natCast]
  rw [← hT]
  have HT2 := hid hT2
  have HI := hid (fun W' (hb : Below w.heap.size w W') => readInt_any B p l a e 0 64000 W' (HRW.out.keep (hb.mono (by omega))))
  rw [hr1] at HI
  unfold RIntPost at HI
  simp only at HI
  clear h hr1 hT hT2
  go_enter Try.func32, Try.ntmps32
  go_wp2_with fail
  refine HNW.out.mono ?_
  rintro en w1 ⟨pc, mc, D0, rfl, hc1, hd1, hb1⟩
  have hz1 := hb1.size
  obtain ⟨W2, hW2⟩ : ∃ W', W' = w1.alloc (.cells #[.int .i64 (-1), .int .i64 0, .int .i64 0] 99) := ⟨_, rfl⟩
  have hb2 : Below w1.heap.size w1 W2 := by rw [hW2]; exact bl1 _ _
  have hz2 : W2.heap.size = w1.heap.size + 1 := by rw [hW2]; simp
  have hbw2 := hb1.trans (hb2.mono hz1)
  have hbx : BoxN w W2 p w1.heap.size (k3 (lastT [])) := by
    refine ⟨by omega, hz1, Upd.of_below hbw2, fun i v hv => ?_⟩
    rw [show k3 (lastT []) = [.int .i64 (-1), .int .i64 0, .int .i64 0] from rfl] at hv
    have hi := (List.getElem?_eq_some_iff.1 hv).1
    simp only [List.length_cons, List.length_nil] at hi
    rw [hW2]
    rcases i with _ | _ | _ | i
    · simp at hv; subst hv; simp [go_sem]
    · simp at hv; subst hv; simp [go_sem]
    · simp at hv; subst hv; simp [go_sem]
    · omega
  have hd0 : ∀ k, D0 k → w.heap.size ≤ k ∧ k ≠ w1.heap.size := fun k hk => ⟨hd1 k hk, fun e => by have := hc1.2.2.2.1 k hk; omega⟩
  have HBX := hid hbx; have HD0 := hid hd0; have HC2 := hid (hc1.below hb2); have HW2 := hid hW2; have HBW2 := hid hbw2; have HI2 := hid (HI.out W2 hbw2)
  clear hbx hd0 hd1 hc1 hb1 hb2 hW2 hbw2 HI HNW
  go_wp2_with fail
  rw [← HW2.out]
  refine HI2.out.mono ?_
  rintro en w3 ⟨rfl, hrw3, hu3⟩
  have B3 := hid (HBX.out.move hp hu3)
  have C3 := hid (HC2.out.updP hu3 (fun k hk => by have := (HD0.out k hk).1; omega))
  have R3 := hid hrw3
  clear hrw3 hu3
  go_wp2
  go_loopw [24] (fun i wr => RdRel l B p W M pc mc w1.heap.size w n T i wr) (fun i _ => n - (intOf i).toNat)
  case atStart => exact ⟨0, [], a1, e1, D0, by omega, rfl, fun h => Decidable.byContradiction (fun he => by have := hne he; omega), C3.out, OkL.nil_ W M, by simp, HD0.out, B3.out, R3.out, HT2.out⟩
  case round =>
    clear B3 C3 R3 HT2 HD0 HBX HC2 HI2
    obtain ⟨j, L, a2, e2, D, hj, rfl, he2, hc, hok, hlen, hd, hbx, hrw, hT⟩ := hrel
    have hul := hrw.2.1
    have hbu := hbx.upd
    have hsz := hbu.size
    have hnx0 := hbx.lt
    by_cases hlt : j < n
    · have he2' := he2 hlt
      subst he2'
      obtain ⟨Wk, hWk⟩ : ∃ W', W' = wr.alloc (.cells #[.int .i64 0, .int .i64 0, .int .i64 0] 99) := ⟨_, rfl⟩
      have hbk : Below wr.heap.size wr Wk := by rw [hWk]; exact bl1 _ _
      have hzk : Wk.heap.size = wr.heap.size + 1 := by rw [hWk]; simp
      have hbxk : BoxN w Wk p wr.heap.size (k3 (t3 [])) := by
        refine ⟨by omega, hsz, hbu.over hbk hsz, fun i v hv => ?_⟩
        rw [show k3 (t3 []) = [.int .i64 0, .int .i64 0, .int .i64 0] from rfl] at hv
        have hi := (List.getElem?_eq_some_iff.1 hv).1
        simp only [List.length_cons, List.length_nil] at hi
        rw [hWk]
        rcases i with _ | _ | _ | i
        · simp at hv; subst hv; simp [go_sem]
        · simp at hv; subst hv; simp [go_sem]
        · simp at hv; subst hv; simp [go_sem]
        · omega
      have hdw : ∀ i, D i → i < wr.heap.size := hc.2.2.2.1
      have hrwk := hrw.keep (hbk.mono (show p + 1 ≤ wr.heap.size by omega))
      have HC := hid hc; have HOK := hid hok; have HD := hid hd; have HBX := hid hbx; have HT := hid hT; have HWk := hid hWk; have BK := hid hbxk; have RK := hid hrwk; have UK := hid (show Upd p wr Wk from Upd.of_below hbk); have HDWk := hid hdw
      clear he2 hc hok hd hbx hrw hT hbu hWk hbk hbxk hrwk hdw
      obtain ⟨wk, rfl⟩ : ∃ wk : World, wk = wr := ⟨_, rfl⟩
      go_wp2
      rw [← HWk.out]
      go_loopw [27] (fun i wq => CoRel l B p W w wk a2 0 i wq) (fun i _ => W - (intOf i).toNat)
      case atStart => exact ⟨0, [], a2, 0, by omega, rfl, rfl, BK.out, RK.out, UK.out⟩
      case round =>
        clear BK RK UK HWk
        obtain ⟨i, K, a3, e3, hi, rfl, hcd, hbk3, hrw3, hu3⟩ := hrel
        have hcok := (codesR_ok l a2 0 hul i).1
        rw [hcd] at hcok
        have hKl : K.length = i := hcok.1
        have hal3 := hrw3.2.1
        have hnk3 := hbk3.lt
        by_cases hlti : i < W
        · have HI := hid (readInt_any B p l a3 e3 0 40 wr hrw3)
          generalize hr : rInt l a3 e3 0 40 = r at HI
          obtain ⟨z, a4, e4⟩ := r
          have HCS := hid (codes_step hcd hr)
          unfold RIntPost at HI
          simp only at HI
          have HBK := hid hbk3; have HU3 := hid hu3; have HKL := hid hKl
          have hi3 : i < 3 := by omega
          clear hcd hbk3 hrw3 hu3 hr hcok hKl
          go_wp2_with fail
          refine HI.out.mono ?_
          rintro en w4 ⟨rfl, hrw4, hu4⟩
          have hb4 := HBK.out.move hp hu4
          obtain ⟨v0, hv0⟩ : ∃ v0, (k3 (t3 K))[i]? = some v0 := ⟨_, List.getElem?_eq_getElem (show i < (k3 (t3 K)).length from hi3)⟩
          have y0 := (hb4.c i _ hv0).1
          have y1 := (hb4.c i _ hv0).2
          have hnx : CoRel l B p W w wk a2 0 (.int .i64 ((i : Int) + 1)) (w4.setCell ⟨wk.heap.size, i, none⟩ (.int .i64 z)) :=
            ⟨i + 1, _, a4, e4, by omega, by go_num, HCS.out, by rw [k3_snoc z (by rw [HKL.out]; exact hi3), HKL.out]; exact hb4.set i hi3 _, hrw4.set (by omega) _, (HU3.out.trans hu4).over (Below.setCell (Below.refl wk.heap.size w4) (Nat.le_refl _) _) (Nat.le_refl _)⟩
          have HNX := hid hnx
          clear hb4 hrw4 hu4 hv0 hnx
          go_wp2
          go_roundw
          case rel => exact HNX.out
          case measure => simp [intOf]; omega
        · obtain rfl : W = i := by omega
          have HI := hid (readInt_any B p l a3 e3 1 1099511627776 wr hrw3)
          generalize hr : rInt l a3 e3 1 1099511627776 = r at HI
          obtain ⟨nn, a4, e4⟩ := r
          unfold RIntPost at HI
          simp only at HI
          have hn0 : ∀ e5 : Int, (e5 = 0 → e4 = 0) → e5 = 0 → nn ≠ 0 := fun e5 h1 h2 => by
            have := rInt_good hal3 (show (rInt l a3 e3 1 1099511627776).2.2 = 0 by rw [hr]; exact h1 h2)
            rw [hr] at this
            have := this.2.1
            simp only at this
            omega
          have HN00 := hid hn0
          have HR0 := hid hr; have HCD := hid hcd; have HBK := hid hbk3; have HUQ := hid hu3; have HKO := hid hcok
          clear hr hcd hbk3 hrw3 hu3 hcok hKl hn0
          go_wp2_with fail
          refine HI.out.mono ?_
          rintro en w4 ⟨rfl, hrw4, hu4⟩
          obtain ⟨Wj, hWj⟩ : ∃ W', W' = w4.alloc (.cells #[.int .i64 nn, .slice none 0 0, .slice none 0 0, .slice none 0 0] 25) := ⟨_, rfl⟩
          have hbj : Below w4.heap.size w4 Wj := by rw [hWj]; exact bl1 _ _
          have hz4 := hu4.size
          have hz3 := HUQ.out.size
          have CBJ := hid (show CellB Wj w4.heap.size nn [] [] [] by rw [hWj]; exact CellB.start w4 nn rfl)
          have RJ := hid (hrw4.keep (hbj.mono (show p + 1 ≤ w4.heap.size by omega)))
          have UJ := hid (show Upd p w4 Wj from Upd.of_below hbj)
          have HU4 := hid hu4; have HWj := hid hWj
          have hal4 := hrw4.2.1
          have HDW := hid (fun i (hi : D i) => show i < w4.heap.size by have := HDWk.out i hi; omega)
          clear hrw4 hu4 hWj hbj
          go_wp2
          rw [← HWj.out]
          go_loopw [39] (fun i wq => MeRel l B p M w4 (⟨nn, [], [], []⟩, a4, e4) nn i wq) (fun i _ => M - (intOf i).toNat)
          case atStart => exact ⟨0, [], [], [], a4, e4, by omega, rfl, rfl, rfl, rfl, rfl, CBJ.out, RJ.out, UJ.out⟩
          case round =>
            clear CBJ RJ UJ
            obtain ⟨k, s, lo, hi, a5, e5, hk, rfl, l1, l2, l3, hme, hcb, hrw5, hu5⟩ := hrel
            have HL1 := hid l1; have HL2 := hid l2; have HL3 := hid l3; have HME := hid hme; have CB1 := hid hcb; have R1 := hid hrw5; have U1 := hid hu5
            have zx0 := hu5.size
            have hal5 := hrw5.2.1
            clear l1 l2 l3 hme hcb hrw5 hu5
            by_cases hltk : k < M
            · skip
              obtain ⟨A1, c1, y1, ho1⟩ := CB1.out.get 1 (by omega) (by omega)
              replace y1 : wr.cell? ⟨w4.heap.size, 1, none⟩ = some (.slice A1 k c1) := by
                have e : (fld s lo hi 1).length = k := HL1.out
                rw [e] at y1; exact y1
              replace ho1 : wr.ownsRow (w4.heap.size + 1) 3 1 (.slice A1 k c1) k (ivals s) := by
                have e : (fld s lo hi 1).length = k := HL1.out
                rw [e] at ho1; exact ho1
              have HO1 := hid ho1
              have HCI1 := hid (fun W' (hq : Qu wr W') => readInt_any B p l a5 e5 (-4611686018427387904) 4611686018427387904 W' (R1.out.qu hq))
              generalize hr1 : rInt l a5 e5 (-4611686018427387904) 4611686018427387904 = r1 at HCI1
              obtain ⟨z1x, a1x, e1x⟩ := r1
              unfold RIntPost at HCI1
              simp only at HCI1
              have HR1 := hid hr1
              have zw1 := CB1.out.lt
              clear ho1 hr1
              go_upto_region 16 with (fail)
              go_cut [] from 41 to 47 (fun wx => MeS l B p w4 nn (s ++ [z1x]) lo hi a1x e1x wx)
              case first =>
                go_wp2
                go_region_law (first
                  | (refine step_append_lies _ (by rfl) (.tmp 42) (.tmp 45) 23 (by rfl) (w4.heap.size + 1) 3 i1 (.int .i64 0) 1 8 Try.underlying23 hi' hz0' hz1' hz2' rfl (by omega) _ k (ivals s) (by rfl) (O1.out.alloc _) ⟨w5.heap.size, 0, none⟩ 1 1 _ (by rfl) rfl (cell_one_at _ _ _ rfl) (by simp; rfl) (by omega) (by unfold maxLen; omega) (by omega) (by simp; omega) (w5.heap.size + 1) (by simp) ?_; intro g cap w6 ho6 hg6 hat6 hlt6; obtain ⟨n1, n2, n3, n4⟩ := CX1.out.app1 HL1.out m0 ho6 hg6 hat6; have N3 := hid n3; have N4 := hid n4; clear ho6 hg6 hat6 n3 n4)
                  | (go_simp; go_at_call 65; refine (HCI1.out _ ⟨1, rfl⟩).mono ?_; rintro en w5 ⟨rfl, hrw5, hu5⟩; have U5 := hid (show Upd p wr w5 from (Upd.of_below (Below.refl wr.heap.size wr).drew).trans hu5); have CX1 := hid (CB1.out.upd U5.out (by omega)); have R5 := hid hrw5; have O1 := hid (own_keepT HO1.out (KeepT.of_upd U5.out (by omega))); have z5 := U5.out.size; have m0 := U5.out.cellAt (by omega) (by omega) y1; have m4 := cell_alloc (o := .cells #[.int .i64 z1x] 3) (show w4.heap.size < w5.heap.size by omega) m0; clear hu5 hrw5))
                all_goals
                  go_wp2
                  go_meet
                  case rel => exact ⟨N4.out, R5.out.keep (N3.out.mono (by omega)), (U1.out.trans U5.out).over N3.out (Nat.le_refl _)⟩
              case rest =>
              obtain ⟨hcb1, hrw1, huq1⟩ := hcut
              obtain ⟨wA, rfl⟩ : ∃ W', W' = wc := ⟨_, rfl⟩
              have zx1 := huq1.size
              clear y1 HCI1 HO1 CB1 R1 U1
              have CB2 := hid hcb1
              have R2 := hid hrw1
              have U2 := hid huq1
              clear hcb1 hrw1 huq1
              obtain ⟨A2, c2, y2, ho2⟩ := CB2.out.get 2 (by omega) (by omega)
              replace y2 : wA.cell? ⟨w4.heap.size, 2, none⟩ = some (.slice A2 k c2) := by
                have e : (fld (s ++ [z1x]) lo hi 2).length = k := HL2.out
                rw [e] at y2; exact y2
              replace ho2 : wA.ownsRow (w4.heap.size + 1) 3 1 (.slice A2 k c2) k (ivals lo) := by
                have e : (fld (s ++ [z1x]) lo hi 2).length = k := HL2.out
                rw [e] at ho2; exact ho2
              have HO2 := hid ho2
              have HCI2 := hid (fun W' (hq : Qu wA W') => readInt_any B p l a1x e1x (-2305843009213693952) 2305843009213693952 W' (R2.out.qu hq))
              generalize hr2 : rInt l a1x e1x (-2305843009213693952) 2305843009213693952 = r2 at HCI2
              obtain ⟨z2x, a2x, e2x⟩ := r2
              unfold RIntPost at HCI2
              simp only at HCI2
              have HR2 := hid hr2
              have zw2 := CB2.out.lt
              clear ho2 hr2
              go_upto_region 17 with (fail)
              go_cut [] from 48 to 54 (fun wx => MeS l B p w4 nn (s ++ [z1x]) (lo ++ [z2x]) hi a2x e2x wx)
              case first =>
                go_wp2
                go_region_law (first
                  | (refine step_append_lies _ (by rfl) (.tmp 49) (.tmp 52) 23 (by rfl) (w4.heap.size + 1) 3 i1 (.int .i64 0) 1 8 Try.underlying23 hi' hz0' hz1' hz2' rfl (by omega) _ k (ivals lo) (by rfl) (O2.out.alloc _) ⟨w5.heap.size, 0, none⟩ 1 1 _ (by rfl) rfl (cell_one_at _ _ _ rfl) (by simp; rfl) (by omega) (by unfold maxLen; omega) (by omega) (by simp; omega) (w5.heap.size + 1) (by simp) ?_; intro g cap w6 ho6 hg6 hat6 hlt6; obtain ⟨n1, n2, n3, n4⟩ := CX2.out.app2 HL2.out m0 ho6 hg6 hat6; have N3 := hid n3; have N4 := hid n4; clear ho6 hg6 hat6 n3 n4)
                  | (go_simp; go_at_call 65; refine (HCI2.out _ ⟨1, rfl⟩).mono ?_; rintro en w5 ⟨rfl, hrw5, hu5⟩; have U5 := hid (show Upd p wA w5 from (Upd.of_below (Below.refl wA.heap.size wA).drew).trans hu5); have CX2 := hid (CB2.out.upd U5.out (by omega)); have R5 := hid hrw5; have O2 := hid (own_keepT HO2.out (KeepT.of_upd U5.out (by omega))); have z5 := U5.out.size; have m0 := U5.out.cellAt (by omega) (by omega) y2; have m4 := cell_alloc (o := .cells #[.int .i64 z2x] 3) (show w4.heap.size < w5.heap.size by omega) m0; clear hu5 hrw5))
                all_goals
                  go_wp2
                  go_meet
                  case rel => exact ⟨N4.out, R5.out.keep (N3.out.mono (by omega)), (U2.out.trans U5.out).over N3.out (Nat.le_refl _)⟩
              case rest =>
              obtain ⟨hcb2, hrw2, huq2⟩ := hcut
              obtain ⟨wB, rfl⟩ : ∃ W', W' = wc := ⟨_, rfl⟩
              have zx2 := huq2.size
              clear y2 HCI2 HO2 CB2 R2 U2
              have CB3 := hid hcb2
              have R3 := hid hrw2
              have U3 := hid huq2
              clear hcb2 hrw2 huq2
              obtain ⟨A3, c3, y3, ho3⟩ := CB3.out.get 3 (by omega) (by omega)
              replace y3 : wB.cell? ⟨w4.heap.size, 3, none⟩ = some (.slice A3 k c3) := by
                have e : (fld (s ++ [z1x]) (lo ++ [z2x]) hi 3).length = k := HL3.out
                rw [e] at y3; exact y3
              replace ho3 : wB.ownsRow (w4.heap.size + 1) 3 1 (.slice A3 k c3) k (ivals hi) := by
                have e : (fld (s ++ [z1x]) (lo ++ [z2x]) hi 3).length = k := HL3.out
                rw [e] at ho3; exact ho3
              have HO3 := hid ho3
              have HCI3 := hid (fun W' (hq : Qu wB W') => readInt_any B p l a2x e2x (-2305843009213693952) 2305843009213693952 W' (R3.out.qu hq))
              generalize hr3 : rInt l a2x e2x (-2305843009213693952) 2305843009213693952 = r3 at HCI3
              obtain ⟨z3x, a3x, e3x⟩ := r3
              unfold RIntPost at HCI3
              simp only at HCI3
              have HR3 := hid hr3
              have zw3 := CB3.out.lt
              clear ho3 hr3
              go_wp2
              go_region_law (first
                | (refine step_append_lies _ (by rfl) (.tmp 56) (.tmp 59) 23 (by rfl) (w4.heap.size + 1) 3 i1 (.int .i64 0) 1 8 Try.underlying23 hi' hz0' hz1' hz2' rfl (by omega) _ k (ivals hi) (by rfl) (O3.out.alloc _) ⟨w5.heap.size, 0, none⟩ 1 1 _ (by rfl) rfl (cell_one_at _ _ _ rfl) (by simp; rfl) (by omega) (by unfold maxLen; omega) (by omega) (by simp; omega) (w5.heap.size + 1) (by simp) ?_; intro g cap w6 ho6 hg6 hat6 hlt6; obtain ⟨n1, n2, n3, n4⟩ := CX3.out.app3 HL3.out m0 ho6 hg6 hat6; have N3 := hid n3; have N4 := hid n4; clear ho6 hg6 hat6 n3 n4)
                | (go_simp; go_at_call 65; refine (HCI3.out _ ⟨1, rfl⟩).mono ?_; rintro en w5 ⟨rfl, hrw5, hu5⟩; have U5 := hid (show Upd p wB w5 from (Upd.of_below (Below.refl wB.heap.size wB).drew).trans hu5); have CX3 := hid (CB3.out.upd U5.out (by omega)); have R5 := hid hrw5; have O3 := hid (own_keepT HO3.out (KeepT.of_upd U5.out (by omega))); have z5 := U5.out.size; have m0 := U5.out.cellAt (by omega) (by omega) y3; have m4 := cell_alloc (o := .cells #[.int .i64 z3x] 3) (show w4.heap.size < w5.heap.size by omega) m0; clear hu5 hrw5))
              all_goals
                have hnx : MeRel l B p M w4 (⟨nn, [], [], []⟩, a4, e4) nn (.int .i64 ((k : Int) + 1)) (w6.setCell ⟨w4.heap.size, 3, none⟩ (.slice (some ⟨g, 0, none⟩) (k + 1) cap)) :=
                  ⟨k + 1, s ++ [z1x], lo ++ [z2x], hi ++ [z3x], a3x, e3x, by omega, by go_num, by rw [List.length_append, HL1.out]; rfl, by rw [List.length_append, HL2.out]; rfl, by rw [List.length_append, HL3.out]; rfl, meas_step HME.out HR1.out HR2.out HR3.out, N4.out, R5.out.keep (N3.out.mono (by omega)), (U3.out.trans U5.out).over N3.out (Nat.le_refl _)⟩
                have HNX := hid hnx
                clear hnx
                go_wp2
                go_roundw
                case rel => exact HNX.out
                case measure => simp [intOf]; omega
            · obtain rfl : M = k := by omega
              clear hltk
              have HN0 := hid (HN00.out e5 (fun h => by have := (measR_ok l (⟨nn, [], [], []⟩, a4, e4) hal4 M).2.2.1; rw [HME.out] at this; exact this h))
              have hent := ent_of HCD.out HR0.out HME.out
              have HT2 := hid (show T = runC l W M (n - (j + 1)) (stepC l W M (L, a2, 0)) by rw [HT.out, show n - j = (n - (j + 1)) + 1 by omega, runC_go rfl])
              have HST := hid (stepC_E (L := L) hent)
              have HUK := hid ((HUQ.out.trans HU4.out).trans U1.out)
              have hbk := (HBK.out.move hp HU4.out).move hp U1.out
              have hbx := HBX.out.move hp HUK.out
              have hcc := HC.out.updP HUK.out (fun i hi => by have := (HD.out i hi).1; omega)
              have hcK : w4.heap.size < wr.heap.size := CB1.out.lt
              obtain ⟨A1, c1, A2, c2, A3, c3, x0, x1, x2, x3, hown⟩ := CB1.out.cells
              obtain ⟨⟨y1, y2, y3⟩, hty⟩ : ∃ y, y = t3 K := ⟨_, rfl⟩
              obtain ⟨⟨b1, b2, b3⟩, htb⟩ : ∃ y, y = lastT L := ⟨_, rfl⟩
              have hrc := rises_cmp HOK.out HKO.out hW
              rw [← hty] at hbk
              rw [← htb] at hbx
              rw [← hty, ← htb] at hrc
              have u0 := (hbk.c 0 _ rfl).1; have u1 := (hbk.c 1 _ rfl).1; have u2 := (hbk.c 2 _ rfl).1
              have v0 := (hbx.c 0 _ rfl).1; have v1 := (hbx.c 1 _ rfl).1; have v2 := (hbx.c 2 _ rfl).1
              have hnk := hbk.lt; have hnx := hbx.lt
              have HMY := hid (may_any (.agg #[.int .i64 nn, .slice A1 s.length c1, .slice A2 lo.length c2, .slice A3 hi.length c3]) ⟨nn, s, lo, hi⟩ wr hown.read)
              have HCM := hid (fun W' => cmpK_any (y1, y2, y3) (b1, b2, b3) W')
              unfold keyV at HCM
              simp only at HCM
              have HTY := hid hty; have HTB := hid htb; have HRC := hid hrc; have HBK2 := hid hbk; have HBX2 := hid hbx; have HCC := hid hcc; have HOWN := hid hown
              have hml : (⟨nn, s, lo, hi⟩ : CellM).s.length = M := HL1.out
              have HML := hid hml
              generalize hcm : cmp3 (y1, y2, y3) (b1, b2, b3) = cm at *
              obtain ⟨mv, hmv⟩ : ∃ mv, mv = mayC ⟨nn, s, lo, hi⟩ := ⟨_, rfl⟩
              rw [← hmv] at HMY
              have HMV := hid hmv
              obtain ⟨rv, hrv⟩ : ∃ rv, rv = risesB L K := ⟨_, rfl⟩
              rw [← hrv] at HRC
              have HRV := hid hrv
              obtain ⟨e9, he9⟩ : ∃ e9, e9 = stE L K ⟨nn, s, lo, hi⟩ e5 := ⟨_, rfl⟩
              have HE9 := hid he9
              have hcs : (mv = true ∧ rv = true ∧ e9 = e5) ∨ (mv = true ∧ rv = false ∧ e9 = badE e5) ∨ (mv = false ∧ e9 = badE e5) := by
                rw [hmv, hrv, he9]
                unfold stE
                cases h1 : mayC ⟨nn, s, lo, hi⟩
                · exact .inr (.inr ⟨rfl, by rw [if_neg (by simp)]⟩)
                · cases h2 : risesB L K
                  · exact .inr (.inl ⟨rfl, rfl, by rw [if_neg (by simp)]⟩)
                  · exact .inl ⟨rfl, rfl, by rw [if_pos ⟨rfl, rfl⟩]⟩
              have hcmr : (decide (cm ≤ 0)) = !rv := HRC.out
              have HCS := hid hcs; have HCMR := hid hcmr
              clear hent hbk hbx hcc hown hty htb hrc hml hmv hrv he9 hcs hcm hcmr HME HCD HR0 HBK HBX HC HU4 HUQ HT
              go_wp2_with fail
              refine HMY.out.mono ?_
              rintro en w5 ⟨rfl, hb5⟩
              have u0 := cellK hb5 hnk u0; have u1 := cellK hb5 hnk u1; have u2 := cellK hb5 hnk u2
              have v0 := cellK hb5 hnx v0; have v1 := cellK hb5 hnx v1; have v2 := cellK hb5 hnx v2
              have z5 := hb5.size
              have HB5 := hid hb5; have R5 := hid (R1.out.keep (hb5.mono (show p + 1 ≤ wr.heap.size by omega)))
              clear hb5
              rcases HCS.out with ⟨rfl, rfl, he9⟩ | ⟨rfl, rfl, he9⟩ | ⟨rfl, he9⟩
              case' inl =>
                have hcm0 : ¬ cm ≤ 0 := of_decide_eq_false HCMR.out
                go_wp2_with fail
                refine (HCM.out w5).mono ?_
                rintro en w7 ⟨rfl, hgr⟩
                have hb7 := HB5.out.trans ((below_growK hgr).mono z5)
                have z7 := hb7.size
                have R7 := hid (show RW w7 B p l a5 e9 by rw [he9]; exact R1.out.keep (hb7.mono (by omega)))
                have U7 := hid (show Upd p wr w7 from Upd.of_below hb7)
                clear hgr hb7 he9
              case' inr.inl =>
                have hcm0 : cm ≤ 0 := of_decide_eq_true HCMR.out
                go_wp2_with fail
                refine (HCM.out w5).mono ?_
                rintro en w6 ⟨rfl, hgr⟩
                have hb6 := HB5.out.trans ((below_growK hgr).mono z5)
                have HBD := hid (readBad_any B p l a5 e5 w6 (R1.out.keep (hb6.mono (by omega))))
                have HB6 := hid hb6
                clear hgr hb6
                go_wp2_with fail
                refine HBD.out.mono ?_
                rintro en w7 ⟨rfl, hrw7, hu7⟩
                have R7 := hid (show RW w7 B p l a5 e9 by rw [he9]; exact hrw7)
                have U7 := hid (show Upd p wr w7 from (Upd.of_below HB6.out).trans hu7)
                clear hrw7 hu7 he9 hcm0
              case' inr.inr =>
                have HBD := hid (readBad_any B p l a5 e5 w5 R5.out)
                go_wp2_with fail
                refine HBD.out.mono ?_
                rintro en w7 ⟨rfl, hrw7, hu7⟩
                have R7 := hid (show RW w7 B p l a5 e9 by rw [he9]; exact hrw7)
                have U7 := hid (show Upd p wr w7 from (Upd.of_below HB5.out).trans hu7)
                clear hrw7 hu7 he9
              all_goals
                have HFA := hid (readFailed_any B p l a5 e9 w7 R7.out)
                go_wp2_with fail
                refine HFA.out.mono ?_
                rintro en w8 ⟨rfl, hq8⟩
                have R8 := hid (R7.out.qu hq8)
                have U8 := hid (U7.out.trans (Upd.of_below (hq8.below w7.heap.size)))
                clear hq8 u0 u1 u2 v0 v1 v2 x0 x1 x2 x3
                by_cases he : e9 = 0
                · have t1 : (e9 != 0) = false := by simp [he]
                  have hz := stE_zero (show stE L K ⟨nn, s, lo, hi⟩ e5 = 0 by rw [← HE9.out]; exact he)
                  have hmay := mayC_iff.1 hz.1
                  have hris := hz.2.1
                  have hst := HST.out
                  rw [← HE9.out, if_pos he] at hst
                  have hT3 : T = runC l W M (n - (j + 1)) (L ++ [(K, ⟨nn, s, lo, hi⟩)], a5, 0) := by rw [HT2.out, hst]
                  have hn0 : nn ≠ 0 := HN0.out hz.2.2
                  have hbk := HBK2.out.move hp U8.out
                  have hbx := HBX2.out.move hp U8.out
                  have hcc := HCC.out.updP U8.out (fun i hi => by have := (HD.out i hi).1; omega)
                  have hz8 := U8.out.size
                  have hcK8 := (CB1.out.upd U8.out (by omega))
                  obtain ⟨D1, d1, D2, d2, D3, d3, x0, x1, x2, x3, hown⟩ := hcK8.cells
                  have u0 := (hbk.c 0 _ rfl).1; have u1 := (hbk.c 1 _ rfl).1; have u2 := (hbk.c 2 _ rfl).1
                  have hnk := hbk.lt; have hnx := hbx.lt
                  have hml := HML.out
                  obtain ⟨w9, hrun, hc9, hu9⟩ := (hcc.qu (w' := w8.drew) ⟨1, rfl⟩).store2 (H := w4.heap.size + 1) HOK.out hW (by omega) HKO.out (hown.onD ((Below.refl w8.heap.size w8).drew)) (fun i hi => by have := HDW.out i hi; omega)
                  rw [set_last HOK.out hris] at hc9
                  unfold keyT keyV at hrun
                  have h33 := HTY.out
                  unfold t3 at h33
                  simp only [Prod.mk.injEq] at h33
                  rw [← h33.1, ← h33.2.1, ← h33.2.2] at hrun
                  have hmc1 := (HD.out mc hcc.2.1).1
                  have hmcs := HDW.out mc hcc.2.1
                  have hmck := HDWk.out mc hcc.2.1
                  have hmN := (HD.out mc hcc.2.1).2
                  have hpc2 := hcc.2.2.2.2.2.2.1
                  have hpcs := hcc.2.2.2.1 pc hcc.1
                  have hu9' : Upd mc w8 w9 := (Upd.of_below (Below.refl w8.heap.size w8).drew).trans hu9
                  have hz9 := hu9'.size
                  have bk9 := hbk.other hu9' hmc1 (by omega)
                  have bx9 := hbx.other hu9' hmc1 (fun e => hmN e.symm)
                  have g0 := (bk9.c 0 _ rfl).1; have g1 := (bk9.c 1 _ rfl).1; have g2 := (bk9.c 2 _ rfl).1
                  have f0 := (bx9.c 0 _ rfl).1; have f1 := (bx9.c 1 _ rfl).1; have f2 := (bx9.c 2 _ rfl).1
                  have q0 := (bx9.c 0 _ rfl).2; have q1 := (bx9.c 1 _ rfl).2; have q2 := (bx9.c 2 _ rfl).2
                  have bx10 := ((bx9.set 0 (by simp [k3]) (.int .i64 y1)).set 1 (by simp [k3]) (.int .i64 y2)).set 2 (by simp [k3]) (.int .i64 y3)
                  have rw10 := ((((R8.out.far hu9' (by omega) (by omega)).set (i := 0) (show p < w1.heap.size by omega) (.int .i64 y1)).set (i := 1) (show p < w1.heap.size by omega) (.int .i64 y2)).set (i := 2) (show p < w1.heap.size by omega) (.int .i64 y3))
                  have hcK4 : w1.heap.size < w4.heap.size := by omega
                  have hc10 : CubW (((w9.setCell ⟨w1.heap.size, 0, none⟩ (.int .i64 y1)).setCell ⟨w1.heap.size, 1, none⟩ (.int .i64 y2)).setCell ⟨w1.heap.size, 2, none⟩ (.int .i64 y3)) (fun i => D i ∨ (w4.heap.size + 1 ≤ i ∧ i < w8.drew.heap.size)) pc mc W M (L ++ [(K, ⟨nn, s, lo, hi⟩)]) := by
                    refine hc9.kept (fun k hk => ?_) (by simp [World.setCell])
                    have hne : k ≠ w1.heap.size := by
                      rcases hk with hk | hk
                      · exact (HD.out k hk).2
                      · omega
                    rw [Below.heap_setCell _ _ _ k (by simpa using hne), Below.heap_setCell _ _ _ k (by simpa using hne), Below.heap_setCell _ _ _ k (by simpa using hne)]
                  have hnx2 : RdRel l B p W M pc mc w1.heap.size w n T (.int .i64 ((j : Int) + 1)) (((w9.setCell ⟨w1.heap.size, 0, none⟩ (.int .i64 y1)).setCell ⟨w1.heap.size, 1, none⟩ (.int .i64 y2)).setCell ⟨w1.heap.size, 2, none⟩ (.int .i64 y3)) := by
                    refine ⟨j + 1, _, a5, 0, _, by omega, by go_num, fun _ => rfl, hc10, HOK.out.snoc HKO.out hmay hn0 hml hris, by rw [List.length_append, List.length_singleton]; omega, fun i hi => ?_, ?_, ?_, hT3⟩
                    · rcases hi with hi | hi
                      · exact HD.out i hi
                      · omega
                    · rw [lastT_snoc, ← HTY.out]; exact bx10
                    · rw [he] at rw10; exact rw10
                  have HNX := hid hnx2
                  clear hbk hbx hcc hcK8 hown hc9 hu9 hu9' h33 bk9 bx9 bx10 rw10 hc10 hnx2 hst hT3 hmay hris hz hml hn0 HMY HCM HFA HMV HRV HE9
                  go_wp2
                  go_region
                  all_goals
                    go_wp2
                    go_roundw
                    case rel => exact HNX.out
                    case measure => simp [intOf]; omega
                · have t1 : (e9 != 0) = true := by simpa using he
                  have hst := HST.out
                  rw [← HE9.out, if_neg he] at hst
                  have hT3 : T = (L, a5, e9) := by rw [HT2.out, hst]; exact runC_err he _
                  have HP := hid (show ReadCP W M T B p l w (.returned (.pointer none)) w8 by
                    rw [hT3]
                    exact ⟨R8.out, (HBX2.out.move hp U8.out).upd, .inl ⟨he, rfl⟩⟩)
                  clear hst hT3
                  go_wp2
                  go_ret
                  exact HP.out
    · obtain rfl : n = j := by omega
      have hTe : T = (L, a2, e2) := by rw [hT, Nat.sub_self]; rfl
      have HFA := hid (readFailed_any B p l a2 e2 wr hrw)
      have HTE := hid hTe; have HC := hid hc; have HD := hid hd; have HBX := hid hbx; have HRW2 := hid hrw
      clear he2 hc hok hd hbx hrw hT hbu hTe
      go_wp2_with fail
      refine HFA.out.mono ?_
      rintro en w2 ⟨rfl, hq2⟩
      have hb2 := hq2.below wr.heap.size
      have U2 := hid (HBX.out.upd.trans (Upd.of_below hb2))
      by_cases he : e2 = 0
      · have t1 : (e2 != 0) = false := by simp [he]
        have HP := hid (show ReadCP W M T B p l w (.returned (.pointer (some ⟨pc, 0, none⟩))) w2 by
          rw [HTE.out]
          exact ⟨HRW2.out.qu hq2, U2.out, .inr ⟨he, pc, mc, D, rfl, HC.out.below hb2, fun k hk => (HD.out k hk).1⟩⟩)
        clear hq2 hb2
        go_wp2
        go_ret
        exact HP.out
      · have t1 : (e2 != 0) = true := by simpa using he
        have HP := hid (show ReadCP W M T B p l w (.returned (.pointer none)) w2 by
          rw [HTE.out]
          exact ⟨HRW2.out.qu hq2, U2.out, .inl ⟨he, rfl⟩⟩)
        clear hq2 hb2
        go_wp2
        go_ret
        exact HP.out
end Go.Proofs.Ytclhnnidbhchnaa
