/- 4 texts of this claim, in build order. -/
import Derived.Test.YteebgmhdikcnnaaPpelljcpi
import Derived.Test.YteebgmhdikcnnaaPiomplnab
import Derived.Lib.SlBytesConst
import Derived.Test.YteebgmhdikcnnaaPhoobkdlg
import Derived.Test.YteebgmhdikcnnaaPcfpofkdm
/- The law's example: lives. -/
namespace Go.Proofs.Yteebgmhdikcnnaa
open Go.ChangeShapes Go.WideShapes Go.ChangeAt Go.RowKit
set_option linter.unusedVariables false
set_option linter.unusedSimpArgs false

theorem own_chg {D : Nat → Prop} {w w' : World} {base : Nat} {e : TypeId} {sz : Nat} {v : Value} {n : Nat} {xs : List Value} (h : w.ownsRow base e sz v n xs) (hc : Chg D w w') (hd : ∀ g, v.ownBlock = some g → ¬ D g) : w'.ownsRow base e sz v n xs :=
  own_kept h (fun g hg => hc.block g (h.lt g hg).2 (hd g hg))
theorem RowsI2.chg {D : Nat → Prop} {w w' : World} {H : Nat} {us : List Value} {ks : List (List Int)} (h : RowsI2 w H us ks) (hc : Chg D w w') (hd : ∀ g, D g → g < H) : RowsI2 w' H us ks :=
  h.kept fun i hi g hg => hc.block g ((h.2 i hi).lt g hg).2 (fun h' => by have := hd g h'; have := ((h.2 i hi).lt g hg).1; omega)
def L0 : List PK := [(1, 2, [97]), (3, 2, [98]), (1, 2, [99])]
def SendL (L : List PK) (n B0 : Nat) (w : World) (e : Ending) (w' : World) : Prop := e = .returned (.int .i64 0) ∧ ∃ D', NetP w' D' n L ∧ (∀ k, D' k → B0 ≤ k) ∧ Below B0 w w' ∧ w.heap.size ≤ w'.heap.size
theorem send_lit (D : Nat → Prop) (n : Nat) (L L' : List PK) (f t : Int) (c : UInt8) (w : World) (B0 : Nat) (h : NetP w D n L) (hL : L.length ≤ 150) (hB : B0 ≤ w.heap.size) (hD : ∀ k, D k → B0 ≤ k) (hs : sendN L f t [c] = (L', 0)) :
    Calls Try.prog 16 #[.pointer (some ⟨n, 0, none⟩), .int .i64 f, .int .i64 t, .slice (some ⟨w.heap.size, 0, none⟩) 1 1] (w.alloc (.cells #[.int .u8 c.toNat] 5 (1, 2))) (SendL L' n B0 w) := by
  have hb : Below w.heap.size w (w.alloc (.cells #[.int .u8 c.toNat] 5 (1, 2))) := bl1 _ _
  have hsl : Sl (w.alloc (.cells #[.int .u8 c.toNat] 5 (1, 2))) (w.alloc (.cells #[.int .u8 c.toNat] 5 (1, 2))).heap.size (.slice (some ⟨w.heap.size, 0, none⟩) 1 1) (bvals [c]) := by
    refine ⟨some ⟨w.heap.size, 0, none⟩, 1, rfl, Nat.le_refl _, by simp [maxLen], fun _ => ⟨w.heap.size, 0, rfl, by simp, fun j u hu => ?_⟩⟩
    have hj : j = 0 := by have := (List.getElem?_eq_some_iff.1 hu).1; simp [bvals] at this; omega
    subst hj
    simp only [bvals, List.map_cons, List.map_nil, List.getElem?_cons_zero, Option.some.injEq] at hu
    rw [← hu, World.cell?_alloc_mark]; rfl
  refine (sendP_any D n L f t _ [c] _ (h.below hb) (by omega) hsl (by simp)).mono ?_
  rintro e w' ⟨rfl, D', h1, h2, h3⟩
  rw [hs] at h1 ⊢
  have hz : (w.alloc (.cells #[.int .u8 c.toNat] 5 (1, 2))).heap.size = w.heap.size + 1 := by simp
  refine ⟨rfl, D', h1, fun k hk => ?_, (hb.mono hB).trans (h3.below (by omega) hD), by have := h3.size; omega⟩
  rcases h2.2 k hk with h4 | h4
  · exact hD k h4
  · omega
theorem way0 : wayN L0 1 2 = [0, 2] := by decide +kernel
theorem busy0 : (busyS L0).map rowS = [[1, 2], [3, 2]] := by decide +kernel
theorem look0 : lookN L0 1 = ((3, 2, [98]), 0) := by decide +kernel
theorem drop0 : dropN L0 0 = [(3, 2, [98]), (1, 2, [99])] ∧ (lookN L0 0).2 = 0 := by decide +kernel
theorem way1 : wayN [(3, 2, [98]), (1, 2, [99])] 1 2 = [1] := by decide +kernel
theorem ok0 : ∀ p ∈ L0, okP p := by unfold L0 okP; simp
theorem len0 : ∀ p ∈ L0, p.2.2.length ≤ 1000 := by unfold L0; simp
def liveF : List UInt8 := frameB 1 [2, 4, 2, 0, 0, 0, 0, 0, 0, 0, 0, 0]
theorem liveF_len : liveF.length = 21 := by unfold liveF; rw [frameB_len]; rfl
theorem liveF_at : liveF[4]? = some 1 ∧ liveF[5]? = some 2 ∧ liveF[6]? = some 4 ∧ liveF[7]? = some 2 := by
  have h : ∀ k, k < 17 → liveF[k]? = (frameH 1 [2, 4, 2, 0, 0, 0, 0, 0, 0, 0, 0, 0])[k]? := fun k hk => by
    unfold liveF frameB
    rw [List.getElem?_append_left (by rw [frameH_len]; exact hk)]
  rw [h 4 (by omega), h 5 (by omega), h 6 (by omega), h 7 (by omega)]
  exact ⟨rfl, rfl, rfl, rfl⟩
set_option maxRecDepth 100000 in
set_option maxHeartbeats 3200000 in
theorem lives_any (w : World) : Calls Try.prog 9 #[] w (Gives (.bool true) w) := by
  have HP := hid (putLive_any w)
  have kc : ∀ (W : World) (z : Int), (convert 30 30 (.slice (some ⟨W.heap.size, 0, none⟩) 1 1)).run Try.prog (W.alloc (.cells #[.int .u8 z] 5)) = .ok (.slice (some ⟨W.heap.size, 0, none⟩) 1 1) (W.alloc (.cells #[.int .u8 z] 5 (1, 2))) := fun W z => Lib.run_convert_bytes_const W 30 5 #[.int .u8 z] 1 1 Try.underlying30 Try.underlying5
  go_enter Try.func9, Try.ntmps9
  go_wp2_with fail
  refine HP.out.mono ?_
  rintro e w1 ⟨vb, rfl, hob, hb1⟩
  have hob : Own8 w1 w.heap.size vb liveF := hob
  obtain ⟨B, cb, rfl⟩ := hob.form
  have hfl := liveF_len
  obtain ⟨hf4, hf5, hf6, hf7⟩ := liveF_at
  unfold Own8 at hob
  rw [hfl] at hob ⊢
  generalize liveF = F at *
  have HOB := hid hob; have HB1 := hid hb1
  have HF4 := hid hf4; have HF5 := hid hf5; have HF6 := hid hf6; have HF7 := hid hf7
  clear hob hb1 hf4 hf5 hf6 hf7 hfl HP
  go_wp2_with fail
  refine (newN_any w1).mono ?_
  rintro e w2 ⟨n, rfl, hn2, hge, hb2⟩
  have hz2 := hb2.size
  have HS1 := hid (send_lit _ n [] [(1, 2, [97])] 1 2 97 w2 w1.heap.size hn2 (by simp) hz2 (fun k hk => by rw [hk]; exact hge) (by decide +kernel))
  have HB2 := hid hb2
  clear hb2 hn2
  go_wp2_with fail
  refine HS1.out.mono ?_
  rintro e w3 ⟨rfl, D3, hn3, hd3, hb3, hz3⟩
  have HS2 := hid (send_lit _ n [(1, 2, [97])] [(1, 2, [97]), (3, 2, [98])] 3 2 98 w3 w1.heap.size hn3 (by simp) (by omega) hd3 (by decide +kernel))
  have HB3 := hid (HB2.out.trans hb3)
  clear hb3 hn3 HS1 HB2
  go_wp2_with fail
  refine HS2.out.mono ?_
  rintro e w4 ⟨rfl, D4, hn4, hd4, hb4, hz4⟩
  have HS3 := hid (send_lit _ n [(1, 2, [97]), (3, 2, [98])] L0 1 2 99 w4 w1.heap.size hn4 (by simp) (by omega) hd4 (by decide +kernel))
  have HB4 := hid (HB3.out.trans hb4)
  clear hb4 hn4 HS2 HB3
  go_wp2_with fail
  refine HS3.out.mono ?_
  rintro e w5 ⟨rfl, D5, hn5, hd5, hb5, hz5⟩
  have HB5 := hid (HB4.out.trans hb5); have HN5 := hid hn5; have HD5 := hid hd5
  have hw6 := wayP_any D5 n L0 1 2 w5 hn5 (by unfold L0; simp)
  rw [way0] at hw6
  have HW6 := hid hw6
  clear hb5 hn5 hd5 HS3 HB4 hw6 hd3 hd4
  go_wp2_with fail
  refine HW6.out.mono ?_
  rintro e w6 ⟨vw, rfl, how, hb6⟩
  obtain ⟨WA, wc, rfl⟩ := own_formN how
  have HOW := hid how; have HB6 := hid hb6; have HN6 := hid (HN5.out.below hb6)
  have hz6 := hb6.size
  have hw7 := busyP_any D5 n L0 w6 HN6.out (by unfold L0; simp) ok0
  rw [busy0] at hw7
  have HW7 := hid hw7
  clear how hb6 hw7 HW6
  go_wp2_with fail
  refine HW7.out.mono ?_
  rintro e w7 ⟨vl, us, rfl, hol, hrl, hb7⟩
  obtain ⟨LA, lc, rfl⟩ := own_formN hol
  have HOL := hid hol; have HRL := hid hrl; have HB7 := hid hb7; have HN7 := hid (HN6.out.below hb7); have HOW7 := hid (own_kept HOW.out (fun g hg => hb7.block g (HOW.out.lt g hg).2))
  have hz7 := hb7.size
  have hw8 := takeP_any D5 n L0 1 true w7 HN7.out len0 (by unfold L0; simp)
  unfold TakeP at hw8
  rw [look0, if_pos rfl] at hw8
  have HW8 := hid hw8
  clear hol hrl hb7 hw8 HW7 HN6
  go_wp2_with fail
  refine HW8.out.mono ?_
  rintro e w8 ⟨vx, D8, rfl, hox, hn8, hg8, hc8, hd8⟩
  obtain ⟨XA, xc, rfl⟩ := hox.form
  have hz8 := hc8.size
  have HOX := hid hox; have HG8 := hid hg8; have HC8 := hid hc8; have HD8 := hid hd8
  have hw9 := dropP_any D8 n L0 0 w8 hn8 len0 (by unfold L0; simp)
  rw [drop0.1, drop0.2] at hw9
  have HW9 := hid hw9
  clear hox hn8 hg8 hc8 hd8 hw9 HW8
  go_wp2_with fail
  refine HW9.out.mono ?_
  rintro e w9 ⟨rfl, D9, hn9, hg9, hc9⟩
  have hz9 := hc9.size
  have HC79 := hid (HC8.out.trans hc9 HG8.out.2)
  have HOX9 := hid (own_chg HOX.out hc9 HD8.out)
  have HN9 := hid hn9
  have hw10 := wayP_any D9 n _ 1 2 w9 hn9 (by simp)
  rw [way1] at hw10
  have HW10 := hid hw10
  clear hn9 hg9 hc9 hw10 HW9
  go_wp2_with fail
  refine HW10.out.mono ?_
  rintro e w10 ⟨vv, rfl, hov, hb10⟩
  obtain ⟨VA, vc, rfl⟩ := own_formN hov
  have hz10 := hb10.size
  have HTOT := hid ((HB5.out.trans (HB6.out.mono (by omega))).trans ((HB7.out.mono (by omega)).trans ((HC79.out.below (by omega) HD5.out).trans (hb10.mono (by omega)))))
  have hd5 : ∀ g, D5 g → g < w5.heap.size := HN5.out.2.1
  obtain ⟨gb, ob, pb, e1, -, hgb, hpb, -, hcb⟩ := (RowA.of_own HOB.out).elem (by omega)
  injection e1 with e1 _ e3
  subst e1; subst e3
  have b4 := cellK HTOT.out hgb ((hcb 4 (by omega)).trans (by unfold bvals; rw [List.getElem?_map, HF4.out]; rfl : (bvals F)[4]? = some (.int .u8 1)))
  have b5 := cellK HTOT.out hgb ((hcb 5 (by omega)).trans (by unfold bvals; rw [List.getElem?_map, HF5.out]; rfl : (bvals F)[5]? = some (.int .u8 2)))
  have b6 := cellK HTOT.out hgb ((hcb 6 (by omega)).trans (by unfold bvals; rw [List.getElem?_map, HF6.out]; rfl : (bvals F)[6]? = some (.int .u8 4)))
  have b7 := cellK HTOT.out hgb ((hcb 7 (by omega)).trans (by unfold bvals; rw [List.getElem?_map, HF7.out]; rfl : (bvals F)[7]? = some (.int .u8 2)))
  have how10 := own_kept (own_chg HOW7.out HC79.out (fun g hg hd => by have := (HOW7.out.lt g hg).1; have := hd5 g hd; omega)) (fun g hg => hb10.block g ((own_chg HOW7.out HC79.out (fun g hg hd => by have := (HOW7.out.lt g hg).1; have := hd5 g hd; omega)).lt g hg).2)
  obtain ⟨gw, ow, pw, e1, -, -, hpw, -, hcw⟩ := (RowA.of_own how10).elem (by simp)
  injection e1 with e1 _ e3
  subst e1; subst e3
  have c1 : w10.cell? ⟨gw, ow + 1, none⟩ = some (.int .i64 2) := hcw 1 (by simp)
  have hol9 := own_chg HOL.out HC79.out (fun g hg hd => by have := (HOL.out.lt g hg).1; have := hd5 g hd; omega)
  have hol10 := own_kept hol9 (fun g hg => hb10.block g (hol9.lt g hg).2)
  have hrl10 := (HRL.out.chg HC79.out (fun g hg => by have := hd5 g hg; omega)).below hb10
  obtain ⟨gl, ol, pl, e1, -, -, hpl, -, hcl⟩ := (RowA.of_own hol10).elem (by simp)
  injection e1 with e1 _ e3
  subst e1; subst e3
  have hu2 : us.length = 2 := hrl10.1
  have l1 : w10.cell? ⟨gl, ol + 1, none⟩ = some (us.getD 1 undef) := by
    rw [hcl 1 (by simp), List.getD_eq_getElem?_getD, List.getElem?_eq_getElem (by omega)]; rfl
  have hr1 := hrl10.2 1 (by simp)
  generalize us.getD 1 undef = u1 at *
  obtain ⟨gr, or', pr, rfl, -, -, hpr, -, hcr⟩ := (RowA.of_own hr1).elem (by simp)
  have r0 : w10.cell? ⟨gr, or', none⟩ = some (.int .i64 3) := hcr 0 (by simp)
  have r1 : w10.cell? ⟨gr, or' + 1, none⟩ = some (.int .i64 2) := hcr 1 (by simp)
  obtain ⟨gv, ov, pv, e1, -, -, hpv, -, hcv⟩ := (RowA.of_own hov).elem (by simp)
  injection e1 with e1 _ e3
  subst e1; subst e3
  have v0 : w10.cell? ⟨gv, ov, none⟩ = some (.int .i64 1) := hcv 0 (by simp)
  have hox10 := own_kept HOX9.out (fun g hg => hb10.block g (HOX9.out.lt g hg).2)
  have hx : (convert 30 9 (.slice XA 1 xc)).run Try.prog w10 = .ok (.string { data := #[98] }) w10 := text_sl (l := [98]) (Sl.of_own hox10)
  have HLEN := hid (lenN_any D9 n _ w10 (HN9.out.below hb10))
  have HEND := hid (HB1.out.trans (HTOT.out.mono HB1.out.size))
  clear hb10 how10 hol9 hol10 hrl10 hr1 hov hox10 hcb hcw hcl hcr hcv HTOT HOB HOW HOW7 HOL HRL HOX HOX9
  go_wp2_with fail
  refine HLEN.out.mono ?_
  rintro e w11 ⟨rfl, hq11⟩
  have HQ := hid hq11
  clear hq11
  go_wp2
  go_ret
  exact ⟨rfl, HEND.out.trans (HQ.out.below _)⟩
end Go.Proofs.Yteebgmhdikcnnaa
/- Deeds handed in (layer 22). -/
namespace Go.Proofs.Yteebgmhdikcnnaa
open Go.ChangeShapes Go.WideShapes Go.ChangeAt Go.RowKit
set_option linter.unusedVariables false
set_option linter.unusedSimpArgs false

abbrev DeedN := Int × Int × Int × Int × Bool × List UInt8
def zDeed : DeedN := (0, 0, 0, 0, false, [])
def rdDeedN : Rd DeedN := rdPair 1 rdInt (rdPair 1 rdInt (rdPair 1 rdInt (rdPair 1 rdInt (rdPair 1 rdBool (rdSlice 1 rdByte)))))
theorem good_deedN : Good rdDeedN := good_pair good_int (good_pair good_int (good_pair good_int (good_pair good_int (good_pair good_bool (good_slice good_byte)))))
theorem opens_intN : Opens Try.prog 3 1 rdInt := opens_int Try.underlying3 (by kernel_rfl)
theorem opens_boolN : Opens Try.prog 4 1 rdBool := opens_bool Try.underlying4 (by kernel_rfl)
theorem opens_bytesN : Opens Try.prog 30 1 (rdSlice 1 rdByte) := opens_slice (e := 5) good_byte Try.underlying30 (opens_byte Try.underlying5 (by kernel_rfl)) (by kernel_rfl) (by omega)
theorem opens_deedN : Opens Try.prog 32 6 rdDeedN := by
  refine opens_struct (k := 6) Try.underlying32 (by kernel_rfl) ?_
  exact opensF_cons (k2 := 5) (by rfl) opens_intN (opensF_cons (k2 := 4) (by rfl) opens_intN (opensF_cons (k2 := 3) (by rfl) opens_intN (opensF_cons (k2 := 2) (by rfl) opens_intN (opensF_cons (k2 := 1) (by rfl) opens_boolN (opensF_one (by rfl) opens_bytesN)))))
theorem opens_deedsN : Opens Try.prog 22 1 (rdSlice 6 rdDeedN) := opens_slice (e := 32) good_deedN Try.underlying22 opens_deedN (by kernel_rfl) (by omega)
/-- A deed's six cells. -/
theorem deed_at {w : World} {B n c : Nat} {A : Option Addr} {l : List DeedN} (h : rdSlice 6 rdDeedN w B [.slice A n c] l) {i : Nat} (hi : i < l.length) :
    ∃ b off k f t p s d K kc, A = some ⟨b, off, none⟩ ∧ b < B ∧ InI64 k ∧
      w.cell? ⟨b, off + i * 6, none⟩ = some (.int .i64 k) ∧ w.cell? ⟨b, off + i * 6 + 1, none⟩ = some (.int .i64 f) ∧ w.cell? ⟨b, off + i * 6 + 2, none⟩ = some (.int .i64 t) ∧
      w.cell? ⟨b, off + i * 6 + 3, none⟩ = some (.int .i64 p) ∧ w.cell? ⟨b, off + i * 6 + 4, none⟩ = some (.bool s) ∧ w.cell? ⟨b, off + i * 6 + 5, none⟩ = some (.slice K d.length kc) ∧ Sl w B (.slice K (d : List UInt8).length kc) (bvals d) := by
  obtain ⟨b, off, e, hb, es, hl, hc, h⟩ := h.at_ hi
  obtain ⟨-, h1, -, h2, -, h3, -, h4, -, h5, h6⟩ := h
  match es, hl with
  | [x0, x1, x2, x3, x4, x5], _ =>
    simp only [List.take_succ_cons, List.take_zero, List.drop_succ_cons, List.drop_zero] at h1 h2 h3 h4 h5 h6
    obtain ⟨h1, hk⟩ := h1
    obtain ⟨h2, -⟩ := h2
    obtain ⟨h3, -⟩ := h3
    obtain ⟨h4, -⟩ := h4
    have h5 : [x4] = [_] := h5
    injection h1 with h1 _
    injection h2 with h2 _
    injection h3 with h3 _
    injection h4 with h4 _
    injection h5 with h5 _
    obtain ⟨K, kc, h7, -, -⟩ := rdSlice.form (v := x5) h6
    have hs : Sl w B x5 (bvals _) := rdSlice.sl (R := rdByte) (v := x5) (fun c : UInt8 => Value.int .u8 (c.toNat : Int)) (fun es x hx => hx) h6
    subst h1; subst h2; subst h3; subst h4; subst h5; subst h7
    exact ⟨b, off, _, _, _, _, _, _, K, kc, e, hb, hk, hc 0 _ rfl, hc 1 _ rfl, hc 2 _ rfl, hc 3 _ rfl, hc 4 _ rfl, hc 5 _ rfl, hs⟩
theorem Sl.slE {w : World} {B : Nat} {v : Value} {xs : List Value} (h : Sl w B v xs) : SlE w (fun k => k < B) v xs := h
/-- Both nets, new. -/
theorem both_new {w w1 W2 : World} {n : Nat} (h : NetP w1 (fun k => k = n) n []) (hn : w.heap.size ≤ n) (hb : Below w.heap.size w w1) (hW : W2 = w1.alloc (.cells #[.slice none 0 0] 28)) : BothE W2 (fun k => k < w.heap.size) n w1.heap.size [] [] := by
  have hnl := h.2.1 n rfl
  have hb2 : Below w1.heap.size w1 W2 := by rw [hW]; exact bl1 _ _
  have hz := hb.size
  refine ⟨fun k => k = n, fun k => k = w1.heap.size, h.below hb2, ⟨rfl, fun k hk => by rw [hk, hW]; simp, by rw [hW]; simp [go_sem], .slice none 0 0, [], by rw [hW]; simp [go_sem], RowA.nil_ _ _ _ _, fun g hg => (by cases hg), RowPk.nil_ _ _⟩, fun k h1 h2 => by omega, fun k h1 h2 => by omega, fun k h1 h2 => by omega, fun k h1 => by have := hb2.size; omega⟩
def PyRel (m n r N : Nat) (w : World) (i : Value) (wr : World) : Prop := ∃ (k : Nat) (L : List PK), k ≤ m ∧ k ≤ N ∧ i = .int .i64 k ∧ OkN L ∧ BothE wr (fun k => k < w.heap.size) n r L L ∧ Below w.heap.size w wr
end Go.Proofs.Yteebgmhdikcnnaa
/- The walk of LinksPlays. -/
namespace Go.Proofs.Yteebgmhdikcnnaa
open Go.ChangeShapes Go.WideShapes Go.ChangeAt Go.RowKit
set_option linter.unusedVariables false
set_option linter.unusedSimpArgs false

set_option maxRecDepth 100000 in
set_option maxHeartbeats 3200000 in
theorem walk_LinksPlays (w : World) (v : Value) (l : List DeedN) (hv : rdSlice 6 rdDeedN w w.heap.size [v] l) : Calls Try.prog 3 #[v] w (Gives (.bool true) w) := by
  obtain ⟨A, c, rfl, hlc, hcm⟩ := hv.form
  have HV := hid (fun (k : Nat) (hk : k < l.length) => deed_at hv hk)
  unfold maxLen at hcm
  clear hv
  go_enter Try.func3, Try.ntmps3
  go_wp2_with fail
  refine (newN_any w).mono ?_
  rintro e w1 ⟨n, rfl, hn1, hge, hb1⟩
  obtain ⟨W2, hW2⟩ : ∃ W2, W2 = w1.alloc (.cells #[.slice none 0 0] 28) := ⟨_, rfl⟩
  have HBE := hid (both_new hn1 hge hb1 hW2)
  have hz1 := hb1.size
  have HB2 := hid (show Below w.heap.size w W2 by rw [hW2]; exact hb1.trans ((bl1 w1 _).mono hz1))
  have HW2 := hid hW2
  obtain ⟨r, hr⟩ : ∃ r, r = w1.heap.size := ⟨_, rfl⟩
  rw [← hr] at HBE
  clear hn1 hge hb1 hW2
  go_upto_region 3 with (fail)
  rw [← HW2.out, ← hr]
  clear hr
  go_wp2
  go_loopw [5] (fun i wr => PyRel l.length n r 250 w i wr) (fun i _ => l.length - (intOf i).toNat)
  case atStart => exact ⟨0, [], by omega, by omega, rfl, OkN.nil_, HBE.out, HB2.out⟩
  case round =>
    clear HBE HB2 HW2
    obtain ⟨k, L, hk, h250, rfl, hok, hbe, hb⟩ := hrel
    by_cases hlt : k < l.length ∧ k < 250
    · obtain ⟨hlt, hlt2⟩ := hlt
      obtain ⟨b, off, kk, f, t, p, s, d, K, kc, rfl, hbl, hki, q0, q1, q2, q3, q4, q5, hsl⟩ := HV.out k hlt
      have q0 := cellK hb hbl q0
      have q1 := cellK hb hbl q1
      have q2 := cellK hb hbl q2
      have q3 := cellK hb hbl q3
      have q4 := cellK hb hbl q4
      have q5 := cellK hb hbl q5
      have HDO := hid (does_any (fun k => k < w.heap.size) n r L kk f t p s K kc d wr hbe hok hki (hsl.below hb).slE)
      have HOK := hid (hok.does kk f t p s d)
      have HB := hid hb
      clear hok hbe hb hsl
      generalize doesN L kk f t p s d = L' at *
      go_wp2_with fail
      refine HDO.out.mono ?_
      rintro e w3 ⟨rfl, hbe3, hf3⟩
      have HBE := hid hbe3
      have HB3 := hid (HB.out.trans (hf3.below HB.out.size (fun k hk => by omega)))
      clear hbe3 hf3
      go_wp2
      go_roundw
      case rel => exact ⟨k + 1, L', by omega, by omega, by go_num, HOK.out, HBE.out, HB3.out⟩
      case measure => simp [intOf]; omega
    · have hlk : ∃ D R : Nat → Prop, NetP wr D n L ∧ NetR wr R r L := by
        obtain ⟨D, R, h1, h2, -⟩ := hbe
        exact ⟨D, R, h1, h2⟩
      obtain ⟨D, R, h1, h2⟩ := hlk
      have HLK := hid (like_any D R n r L wr h1 h2 hok)
      have HB := hid hb
      have hex : (k < l.length ∧ k = 250) ∨ k = l.length := by omega
      clear hok hbe hb h1 h2 hlt
      rcases hex with ⟨hlt, rfl⟩ | rfl
      all_goals
        go_wp2_with fail
        refine HLK.out.mono ?_
        rintro e w2 ⟨rfl, hb2⟩
        have HB2 := hid (HB.out.trans (hb2.mono HB.out.size))
        clear hb2
        go_wp2_with fail
        refine (lives_any w2).mono ?_
        rintro e w3 ⟨rfl, hb3⟩
        have HB3 := hid (HB2.out.trans (hb3.mono HB2.out.size))
        clear hb3
        go_wp2
        go_ret
        exact ⟨rfl, HB3.out⟩
end Go.Proofs.Yteebgmhdikcnnaa
/- The statement LinksPlays: from the walk of the law's function (it returns true, and nothing that was there has turned) to the given row. No condition. -/
namespace Go.Proofs.Yteebgmhdikcnnaa.linksPlays
open Go.ChangeShapes Go.WideShapes Go.ChangeAt Go.RowKit Go.WideMaps Go.WideElems Go.Joins
open Go.ChangeMaps (open_string shut_string)
set_option linter.unusedVariables false

set_option maxRecDepth 100000 in
theorem lifted (os : Os) (started : os.Started) (H : Type) (enc : TypeId × Value → H) :
    ReturnsInHanded {} Try.checked os 3 .any (Rows.linksPlaysSpec.pre6 enc Try.prog Try.f3 Rows.linksPlaysRow.domain false) (Rows.linksPlaysSpec.post enc Try.prog Try.f3 false true false false) := by
  refine returnsInHanded_of_change (C := Try.checked) own started (by kernel_rfl) Try.func3
    (ChangeSpec.witness6 (enc := enc) (C := Try.checked) false ⟨#[], #[.slice none 0 0], []⟩ 8 (by kernel_rfl) (by kernel_rfl) (by kernel_rfl) (by kernel_rfl)) ?_
  intro W base args ds gs before hval0 hW hcnd _
  have hval : ∀ (j : Nat) t v, Try.f3.params[j]? = some t → args[j]? = some v → Value.okWide Try.prog W .any base t v := hval0
  have hW' := hW
  obtain ⟨p, q, hA0, hV, rfl, hfz, hnd⟩ := hW
  have hA : DataW.TrodAll enc Try.prog W 0 (fun _ => true) true Try.f3.params.toList args.toList ds p := hA0
  rw [Try.params3] at hA hval
  obtain ⟨v0, vs0, d0, ds0, p0, q0, hargs, rfl, rfl, h0, r0⟩ := trodAll_cons hA
  obtain ⟨rfl, rfl, rfl⟩ := trodAll_nil r0
  obtain rfl : args = #[v0] := by cases args; simp_all
  obtain ⟨rfl, rfl⟩ := trodVars_none hV
  obtain ⟨l0, s0⟩ := open_read_slice Try.underlying22 opens_deedsN (hval 0 22 v0 rfl rfl) h0
  clear hval0
  refine (walk_LinksPlays W v0 l0 s0).mono fun e W' ⟨he, hb⟩ => ?_
  subst he
  exact ⟨_, rfl, post_of_below hW' (fun _ _ _ => (trodAll_cons_mk (shut_bool Try.underlying4 _) trodAll_mk0)) (fun sp hs => trodAll_stays laidOut hb (by kernel_rfl) hA0 (fun x hx => hW'.lt x (List.mem_append_left _ hx)) (fun x hx => hs x (List.mem_append_left _ hx)))
    (fun _ _ => rfl) rfl hb (ok_one (by kernel_rfl) rfl (okWide_bool_mk Try.underlying4 _))⟩

theorem over : Rows.linksPlaysRow.holds Try.pinned (OpenSpec.ofChange Rows.linksPlaysSpec) :=
  OpenClaim.holds_of_wide 3 Try.f3 rfl rfl rfl rfl rfl rfl rfl ⟨rfl, rfl, rfl, rfl, rfl⟩ rfl rfl rfl rfl rfl (by kernel_rfl) Try.func3 (by kernel_rfl)
    (of_decide_eq_true (by kernel_rfl)) (by unfold Func.isWrapper; first | (rw [if_pos (by decide +kernel)]; kernel_rfl) | (rw [if_neg (by decide +kernel)]; exact ⟨rfl, rfl⟩))
    (fun os started H enc _ => lifted os started H enc)

theorem proved : Rows.LinksPlaysSaid :=
  over
#print axioms proved
end Go.Proofs.Yteebgmhdikcnnaa.linksPlays
