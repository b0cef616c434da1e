/- 2 texts of this claim, in build order. -/
import Derived.Test.YtkgifbnkkmeoiaaGreatDoorPmmiadcoi
import Derived.Test.YtkgifbnkkmeoiaaGreatDoorPpkiibnek
import Derived.Test.YtkgifbnkkmeoiaaGreatDoorPdhonageh
import Derived.Test.YtkgifbnkkmeoiaaGreatDoorPbdcknajg
import Derived.Lib.SlBytesConst
import Derived.Test.YtkgifbnkkmeoiaaGreatDoorPcononjpe
import Derived.OwnWalk
/- The law's example: lives. -/
namespace Go.Proofs.YtkgifbnkkmeoiaaGreatDoor
open Go.ChangeShapes Go.WideShapes Go.ChangeAt Go.RowKit
set_option linter.unusedVariables false
set_option linter.unusedSimpArgs false

theorem own_chg {D : Nat → Prop} {w w' : World} {base : Nat} {e : TypeId} {sz : Nat} {v : Value} {n : Nat} {xs : List Value} (h : w.ownsRow base e sz v n xs) (hc : Chg D w w') (hd : ∀ g, v.ownBlock = some g → ¬ D g) : w'.ownsRow base e sz v n xs :=
  own_kept h (fun g hg => hc.block g (h.lt g hg).2 (hd g hg))
theorem RowsI2.chg {D : Nat → Prop} {w w' : World} {H : Nat} {us : List Value} {ks : List (List Int)} (h : RowsI2 w H us ks) (hc : Chg D w w') (hd : ∀ g, D g → g < H) : RowsI2 w' H us ks :=
  h.kept fun i hi g hg => hc.block g ((h.2 i hi).lt g hg).2 (fun h' => by have := hd g h'; have := ((h.2 i hi).lt g hg).1; omega)
def L0 : List PK := [(1, 2, [97]), (3, 2, [98]), (1, 2, [99])]
def SendL (L : List PK) (n B0 : Nat) (w : World) (e : Ending) (w' : World) : Prop := e = .returned (.int .i64 0) ∧ ∃ D', NetP w' D' n L ∧ (∀ k, D' k → B0 ≤ k) ∧ Below B0 w w' ∧ w.heap.size ≤ w'.heap.size
theorem send_lit (D : Nat → Prop) (n : Nat) (L L' : List PK) (f t : Int) (c : UInt8) (w : World) (B0 : Nat) (h : NetP w D n L) (hL : L.length ≤ 150) (hB : B0 ≤ w.heap.size) (hD : ∀ k, D k → B0 ≤ k) (hs : sendN L f t [c] = (L', 0)) :
    Calls Tryz.prog 34 #[.pointer (some ⟨n, 0, none⟩), .int .i64 f, .int .i64 t, .slice (some ⟨w.heap.size, 0, none⟩) 1 1] (w.alloc (.cells #[.int .u8 c.toNat] 5 (1, 2))) (SendL L' n B0 w) := by
  have hb : Below w.heap.size w (w.alloc (.cells #[.int .u8 c.toNat] 5 (1, 2))) := bl1 _ _
  have hsl : Sl (w.alloc (.cells #[.int .u8 c.toNat] 5 (1, 2))) (w.alloc (.cells #[.int .u8 c.toNat] 5 (1, 2))).heap.size (.slice (some ⟨w.heap.size, 0, none⟩) 1 1) (bvals [c]) := by
    refine ⟨some ⟨w.heap.size, 0, none⟩, 1, rfl, Nat.le_refl _, by simp [maxLen], fun _ => ⟨w.heap.size, 0, rfl, by simp, fun j u hu => ?_⟩⟩
    have hj : j = 0 := by have := (List.getElem?_eq_some_iff.1 hu).1; simp [bvals] at this; omega
    subst hj
    simp only [bvals, List.map_cons, List.map_nil, List.getElem?_cons_zero, Option.some.injEq] at hu
    rw [← hu, World.cell?_alloc_mark]; rfl
  refine (sendP_any D n L f t _ [c] _ (h.below hb) (by omega) hsl (by simp)).mono ?_
  rintro e w' ⟨rfl, D', h1, h2, h3⟩
  rw [hs] at h1 ⊢
  have hz : (w.alloc (.cells #[.int .u8 c.toNat] 5 (1, 2))).heap.size = w.heap.size + 1 := by simp
  refine ⟨rfl, D', h1, fun k hk => ?_, (hb.mono hB).trans (h3.below (by omega) hD), by have := h3.size; omega⟩
  rcases h2.2 k hk with h4 | h4
  · exact hD k h4
  · omega
theorem way0 : wayN L0 1 2 = [0, 2] := by decide +kernel
theorem busy0 : (busyS L0).map rowS = [[1, 2], [3, 2]] := by decide +kernel
theorem look0 : lookN L0 1 = ((3, 2, [98]), 0) := by decide +kernel
theorem drop0 : dropN L0 0 = [(3, 2, [98]), (1, 2, [99])] ∧ (lookN L0 0).2 = 0 := by decide +kernel
theorem way1 : wayN [(3, 2, [98]), (1, 2, [99])] 1 2 = [1] := by decide +kernel
theorem ok0 : ∀ p ∈ L0, okP p := by unfold L0 okP; simp
theorem len0 : ∀ p ∈ L0, p.2.2.length ≤ 1000 := by unfold L0; simp
def liveF : List UInt8 := frameB 1 [2, 4, 2, 0, 0, 0, 0, 0, 0, 0, 0, 0]
theorem liveF_len : liveF.length = 21 := by unfold liveF; rw [frameB_len]; rfl
theorem liveF_at : liveF[4]? = some 1 ∧ liveF[5]? = some 2 ∧ liveF[6]? = some 4 ∧ liveF[7]? = some 2 := by
  have h : ∀ k, k < 17 → liveF[k]? = (frameH 1 [2, 4, 2, 0, 0, 0, 0, 0, 0, 0, 0, 0])[k]? := fun k hk => by
    unfold liveF frameB
    rw [List.getElem?_append_left (by rw [frameH_len]; exact hk)]
  rw [h 4 (by omega), h 5 (by omega), h 6 (by omega), h 7 (by omega)]
  exact ⟨rfl, rfl, rfl, rfl⟩
set_option maxRecDepth 100000 in
set_option maxHeartbeats 3200000 in
theorem lives_any (w : World) : Calls Tryz.prog 12 #[] w (Gives (.bool true) w) := by
  have HP := hid (putLive_any w)
  have kc : ∀ (W : World) (z : Int), (convert 23 23 (.slice (some ⟨W.heap.size, 0, none⟩) 1 1)).run Tryz.prog (W.alloc (.cells #[.int .u8 z] 5)) = .ok (.slice (some ⟨W.heap.size, 0, none⟩) 1 1) (W.alloc (.cells #[.int .u8 z] 5 (1, 2))) := fun W z => Lib.run_convert_bytes_const W 23 5 #[.int .u8 z] 1 1 Tryz.underlying23 Tryz.underlying5
  go_enter Tryz.func12, Tryz.ntmps12
  go_wp2_with fail
  refine HP.out.mono ?_
  rintro e w1 ⟨vb, rfl, hob, hb1⟩
  have hob : Own8 w1 w.heap.size vb liveF := hob
  obtain ⟨B, cb, rfl⟩ := hob.form
  have hfl := liveF_len
  obtain ⟨hf4, hf5, hf6, hf7⟩ := liveF_at
  unfold Own8 at hob
  rw [hfl] at hob ⊢
  generalize liveF = F at *
  have HOB := hid hob; have HB1 := hid hb1
  have HF4 := hid hf4; have HF5 := hid hf5; have HF6 := hid hf6; have HF7 := hid hf7
  clear hob hb1 hf4 hf5 hf6 hf7 hfl HP
  go_wp2_with fail
  refine (newN_any w1).mono ?_
  rintro e w2 ⟨n, rfl, hn2, hge, hb2⟩
  have hz2 := hb2.size
  have HS1 := hid (send_lit _ n [] [(1, 2, [97])] 1 2 97 w2 w1.heap.size hn2 (by simp) hz2 (fun k hk => by rw [hk]; exact hge) (by decide +kernel))
  have HB2 := hid hb2
  clear hb2 hn2
  go_wp2_with fail
  refine HS1.out.mono ?_
  rintro e w3 ⟨rfl, D3, hn3, hd3, hb3, hz3⟩
  have HS2 := hid (send_lit _ n [(1, 2, [97])] [(1, 2, [97]), (3, 2, [98])] 3 2 98 w3 w1.heap.size hn3 (by simp) (by omega) hd3 (by decide +kernel))
  have HB3 := hid (HB2.out.trans hb3)
  clear hb3 hn3 HS1 HB2
  go_wp2_with fail
  refine HS2.out.mono ?_
  rintro e w4 ⟨rfl, D4, hn4, hd4, hb4, hz4⟩
  have HS3 := hid (send_lit _ n [(1, 2, [97]), (3, 2, [98])] L0 1 2 99 w4 w1.heap.size hn4 (by simp) (by omega) hd4 (by decide +kernel))
  have HB4 := hid (HB3.out.trans hb4)
  clear hb4 hn4 HS2 HB3
  go_wp2_with fail
  refine HS3.out.mono ?_
  rintro e w5 ⟨rfl, D5, hn5, hd5, hb5, hz5⟩
  have HB5 := hid (HB4.out.trans hb5); have HN5 := hid hn5; have HD5 := hid hd5
  have hw6 := wayP_any D5 n L0 1 2 w5 hn5 (by unfold L0; simp)
  rw [way0] at hw6
  have HW6 := hid hw6
  clear hb5 hn5 hd5 HS3 HB4 hw6 hd3 hd4
  go_wp2_with fail
  refine HW6.out.mono ?_
  rintro e w6 ⟨vw, rfl, how, hb6⟩
  obtain ⟨WA, wc, rfl⟩ := own_formN how
  have HOW := hid how; have HB6 := hid hb6; have HN6 := hid (HN5.out.below hb6)
  have hz6 := hb6.size
  have hw7 := busyP_any D5 n L0 w6 HN6.out (by unfold L0; simp) ok0
  rw [busy0] at hw7
  have HW7 := hid hw7
  clear how hb6 hw7 HW6
  go_wp2_with fail
  refine HW7.out.mono ?_
  rintro e w7 ⟨vl, us, rfl, hol, hrl, hb7⟩
  obtain ⟨LA, lc, rfl⟩ := own_formN hol
  have HOL := hid hol; have HRL := hid hrl; have HB7 := hid hb7; have HN7 := hid (HN6.out.below hb7); have HOW7 := hid (own_kept HOW.out (fun g hg => hb7.block g (HOW.out.lt g hg).2))
  have hz7 := hb7.size
  have hw8 := takeP_any D5 n L0 1 true w7 HN7.out len0 (by unfold L0; simp)
  unfold TakeP at hw8
  rw [look0, if_pos rfl] at hw8
  have HW8 := hid hw8
  clear hol hrl hb7 hw8 HW7 HN6
  go_wp2_with fail
  refine HW8.out.mono ?_
  rintro e w8 ⟨vx, D8, rfl, hox, hn8, hg8, hc8, hd8⟩
  obtain ⟨XA, xc, rfl⟩ := hox.form
  have hz8 := hc8.size
  have HOX := hid hox; have HG8 := hid hg8; have HC8 := hid hc8; have HD8 := hid hd8
  have hw9 := dropP_any D8 n L0 0 w8 hn8 len0 (by unfold L0; simp)
  rw [drop0.1, drop0.2] at hw9
  have HW9 := hid hw9
  clear hox hn8 hg8 hc8 hd8 hw9 HW8
  go_wp2_with fail
  refine HW9.out.mono ?_
  rintro e w9 ⟨rfl, D9, hn9, hg9, hc9⟩
  have hz9 := hc9.size
  have HC79 := hid (HC8.out.trans hc9 HG8.out.2)
  have HOX9 := hid (own_chg HOX.out hc9 HD8.out)
  have HN9 := hid hn9
  have hw10 := wayP_any D9 n _ 1 2 w9 hn9 (by simp)
  rw [way1] at hw10
  have HW10 := hid hw10
  clear hn9 hg9 hc9 hw10 HW9
  go_wp2_with fail
  refine HW10.out.mono ?_
  rintro e w10 ⟨vv, rfl, hov, hb10⟩
  obtain ⟨VA, vc, rfl⟩ := own_formN hov
  have hz10 := hb10.size
  have HTOT := hid ((HB5.out.trans (HB6.out.mono (by omega))).trans ((HB7.out.mono (by omega)).trans ((HC79.out.below (by omega) HD5.out).trans (hb10.mono (by omega)))))
  have hd5 : ∀ g, D5 g → g < w5.heap.size := HN5.out.2.1
  obtain ⟨gb, ob, pb, e1, -, hgb, hpb, -, hcb⟩ := (RowA.of_own HOB.out).elem (by omega)
  injection e1 with e1 _ e3
  subst e1; subst e3
  have b4 := cellK HTOT.out hgb ((hcb 4 (by omega)).trans (by unfold bvals; rw [List.getElem?_map, HF4.out]; rfl : (bvals F)[4]? = some (.int .u8 1)))
  have b5 := cellK HTOT.out hgb ((hcb 5 (by omega)).trans (by unfold bvals; rw [List.getElem?_map, HF5.out]; rfl : (bvals F)[5]? = some (.int .u8 2)))
  have b6 := cellK HTOT.out hgb ((hcb 6 (by omega)).trans (by unfold bvals; rw [List.getElem?_map, HF6.out]; rfl : (bvals F)[6]? = some (.int .u8 4)))
  have b7 := cellK HTOT.out hgb ((hcb 7 (by omega)).trans (by unfold bvals; rw [List.getElem?_map, HF7.out]; rfl : (bvals F)[7]? = some (.int .u8 2)))
  have how10 := own_kept (own_chg HOW7.out HC79.out (fun g hg hd => by have := (HOW7.out.lt g hg).1; have := hd5 g hd; omega)) (fun g hg => hb10.block g ((own_chg HOW7.out HC79.out (fun g hg hd => by have := (HOW7.out.lt g hg).1; have := hd5 g hd; omega)).lt g hg).2)
  obtain ⟨gw, ow, pw, e1, -, -, hpw, -, hcw⟩ := (RowA.of_own how10).elem (by simp)
  injection e1 with e1 _ e3
  subst e1; subst e3
  have c1 : w10.cell? ⟨gw, ow + 1, none⟩ = some (.int .i64 2) := hcw 1 (by simp)
  have hol9 := own_chg HOL.out HC79.out (fun g hg hd => by have := (HOL.out.lt g hg).1; have := hd5 g hd; omega)
  have hol10 := own_kept hol9 (fun g hg => hb10.block g (hol9.lt g hg).2)
  have hrl10 := (HRL.out.chg HC79.out (fun g hg => by have := hd5 g hg; omega)).below hb10
  obtain ⟨gl, ol, pl, e1, -, -, hpl, -, hcl⟩ := (RowA.of_own hol10).elem (by simp)
  injection e1 with e1 _ e3
  subst e1; subst e3
  have hu2 : us.length = 2 := hrl10.1
  have l1 : w10.cell? ⟨gl, ol + 1, none⟩ = some (us.getD 1 undef) := by
    rw [hcl 1 (by simp), List.getD_eq_getElem?_getD, List.getElem?_eq_getElem (by omega)]; rfl
  have hr1 := hrl10.2 1 (by simp)
  generalize us.getD 1 undef = u1 at *
  obtain ⟨gr, or', pr, rfl, -, -, hpr, -, hcr⟩ := (RowA.of_own hr1).elem (by simp)
  have r0 : w10.cell? ⟨gr, or', none⟩ = some (.int .i64 3) := hcr 0 (by simp)
  have r1 : w10.cell? ⟨gr, or' + 1, none⟩ = some (.int .i64 2) := hcr 1 (by simp)
  obtain ⟨gv, ov, pv, e1, -, -, hpv, -, hcv⟩ := (RowA.of_own hov).elem (by simp)
  injection e1 with e1 _ e3
  subst e1; subst e3
  have v0 : w10.cell? ⟨gv, ov, none⟩ = some (.int .i64 1) := hcv 0 (by simp)
  have hox10 := own_kept HOX9.out (fun g hg => hb10.block g (HOX9.out.lt g hg).2)
  have hx : (convert 23 9 (.slice XA 1 xc)).run Tryz.prog w10 = .ok (.string { data := #[98] }) w10 := text_sl (l := [98]) (Sl.of_own hox10)
  have HLEN := hid (lenN_any D9 n _ w10 (HN9.out.below hb10))
  have HEND := hid (HB1.out.trans (HTOT.out.mono HB1.out.size))
  clear hb10 how10 hol9 hol10 hrl10 hr1 hov hox10 hcb hcw hcl hcr hcv HTOT HOB HOW HOW7 HOL HRL HOX HOX9
  go_wp2_with fail
  refine HLEN.out.mono ?_
  rintro e w11 ⟨rfl, hq11⟩
  have HQ := hid hq11
  clear hq11
  go_wp2
  go_ret
  exact ⟨rfl, HEND.out.trans (HQ.out.below _)⟩
end Go.Proofs.YtkgifbnkkmeoiaaGreatDoor
/- pick, the laws' helper of layer 22. -/
namespace Go.Proofs.YtkgifbnkkmeoiaaGreatDoor
open Go.ChangeShapes Go.WideShapes Go.ChangeAt Go.RowKit
set_option linter.unusedVariables false
set_option linter.unusedSimpArgs false

def pickN (c n : Int) : Int := (if c < 0 then -(c + 1) else c) % n
theorem pickN_in (c n : Int) (hn : 0 < n) : 0 ≤ pickN c n ∧ pickN c n < n := ⟨Int.emod_nonneg _ (by omega), Int.emod_lt_of_pos _ hn⟩
theorem pick_any (c n : Int) (w : World) (hc : InI64 c) (hn : 0 < n) (hn2 : n ≤ 9223372036854775807) : Calls Tryz.prog 15 #[.int .i64 c, .int .i64 n] w fun e w' => e = .returned (.int .i64 (pickN c n)) ∧ w = w' := by
  obtain ⟨hc1, hc2⟩ := hc
  have hp : pickN c n = (if c < 0 then -(c + 1) else c) % n := rfl
  by_cases h0 : c < 0
  · rw [if_pos h0] at hp
    rw [hp]; clear hp
    have h1 := Int.tmod_eq_emod_of_nonneg (a := -(c + 1)) (b := n) (by omega)
    have h2 := Int.emod_nonneg (-(c + 1)) (show n ≠ 0 by omega)
    have h3 := Int.emod_lt_of_pos (-(c + 1)) hn
    go_enter Tryz.func15, Tryz.ntmps15
    go_wp2
    go_ret
    exact ⟨rfl, rfl⟩
  · rw [if_neg h0] at hp
    rw [hp]; clear hp
    have h1 := Int.tmod_eq_emod_of_nonneg (a := c) (b := n) (by omega)
    have h2 := Int.emod_nonneg c (show n ≠ 0 by omega)
    have h3 := Int.emod_lt_of_pos c hn
    go_enter Tryz.func15, Tryz.ntmps15
    go_wp2
    go_ret
    exact ⟨rfl, rfl⟩
end Go.Proofs.YtkgifbnkkmeoiaaGreatDoor
