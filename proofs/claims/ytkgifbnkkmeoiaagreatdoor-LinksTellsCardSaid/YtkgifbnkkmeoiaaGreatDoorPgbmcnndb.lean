/- 2 texts of this claim, in build order. -/
import Derived.Test.YtkgifbnkkmeoiaaGreatDoorPbkammdio
import Derived.Test.YtkgifbnkkmeoiaaGreatDoorPmfcnoomp
import Derived.BigQuiet
import Derived.Deep.RegionLaw
import Derived.BigRegion
import Derived.Test.YtkgifbnkkmeoiaaGreatDoorPdfnkmimf
/- The reference's Turned: some bits of bytes turned. -/
namespace Go.Proofs.YtkgifbnkkmeoiaaGreatDoor
open Go.ChangeShapes Go.WideShapes Go.ChangeAt Go.RowKit
set_option linter.unusedVariables false
set_option linter.unusedSimpArgs false

def TurnP (r : List UInt8 × Bool) (w : World) (e : Ending) (w' : World) : Prop :=
  ∃ A c, e = .returned (.tuple #[.slice A r.1.length c, .bool r.2]) ∧ Own8 w' w.heap.size (.slice A r.1.length c) r.1 ∧ Below w.heap.size w w'
def TuRel (l : List UInt8) (f b base : Nat) (A : Option Addr) (c : Nat) (w : World) (x2 x9 x10 : Value) (wr : World) : Prop :=
  ∃ k : Nat, k ≤ 32 ∧ x10 = .int .i64 k ∧ x2 = .int .u32 ((b / 2 ^ k : Nat) : Int) ∧ x9 = .bool (CrcM.turn l f b k).2 ∧ Own8 wr base (.slice A l.length c) (CrcM.turn l f b k).1 ∧ Below base w wr
theorem own8_set {w : World} {base g c i : Nat} {l : List UInt8} (h : w.ownsRow base 5 1 (.slice (some ⟨g, 0, none⟩) l.length c) l.length (bvals l)) (hi : i < l.length) (x : UInt8) :
    w.cell? ⟨g, i, none⟩ = some (.int .u8 ((l.getD i 0).toNat : Int)) ∧ w.frozen? ⟨g, i, none⟩ = false ∧ (w.setCell ⟨g, i, none⟩ (.int .u8 (x.toNat : Int))).ownsRow base 5 1 (.slice (some ⟨g, 0, none⟩) l.length c) l.length (bvals (l.set i x)) := by
  have hcell := h.cellAt (g := g) i (by omega)
  have hxs : (bvals l)[i]? = some (.int .u8 ((l.getD i 0).toNat : Int)) := by simp [bvals, List.getElem?_eq_getElem hi]
  refine ⟨hcell.trans hxs, h.frozenAt i, ?_⟩
  have := (h.stored i (.int .u8 (x.toNat : Int))).1
  rwa [show (bvals l).set i (.int .u8 (x.toNat : Int)) = bvals (l.set i x) by unfold bvals; rw [List.map_set]] at this
theorem bits_xor_u8_nat (a b : Nat) (ha : a < 256) (hb : b < 256) : Go.bits .xor .u8 (a : Int) (b : Int) = ((a ^^^ b : Nat) : Int) := by
  have hx : a ^^^ b < 2 ^ 8 := Nat.xor_lt_two_pow (by omega) (by omega)
  have h1 : (BitVec.ofInt 8 (a : Int)).toNat = a := by
    rw [BitVec.ofInt_natCast, BitVec.toNat_ofNat]; exact Nat.mod_eq_of_lt (by omega)
  have h2 : (BitVec.ofInt 8 (b : Int)).toNat = b := by
    rw [BitVec.ofInt_natCast, BitVec.toNat_ofNat]; exact Nat.mod_eq_of_lt (by omega)
  show IntKind.u8.wrap ((BitVec.ofInt 8 (a : Int) ^^^ BitVec.ofInt 8 (b : Int)).toNat : Int) = _
  rw [BitVec.toNat_xor, h1, h2]
  simp only [IntKind.wrap, IntKind.bits, IntKind.signed]
  simp
  omega
theorem wrap_i64_in (x : Int) (h0 : 0 ≤ x) (h1 : x ≤ 1000000000) : IntKind.i64.wrap x = x := by
  simp only [IntKind.wrap, IntKind.bits, IntKind.signed]
  simp
  omega
theorem wrap64_small {n : Nat} (h : n ≤ 1000000000) : wrap64 (n : Int) = (n : Int) := by unfold wrap64; omega
theorem tdiv8 (f k : Nat) : ((f : Int) + (k : Int)).tdiv 8 = (((f + k) / 8 : Nat) : Int) := by rw [Int.tdiv_eq_ediv_of_nonneg (by omega)]; omega
theorem tmod8 (f k : Nat) : ((f : Int) + (k : Int)).tmod 8 = (((f + k) % 8 : Nat) : Int) := by rw [Int.tmod_eq_emod_of_nonneg (by omega)]; omega
theorem flip_bits (c : UInt8) {R : Nat} (hR : R < 8) : Go.bits .xor .u8 ((c.toNat : Nat) : Int) ((2 ^ R : Nat) : Int) = ((CrcM.flip c R).toNat : Int) := by
  rw [bits_xor_u8_nat _ _ (UInt8.toNat_lt c) (show 2 ^ R < 2 ^ 8 from Nat.pow_lt_pow_right (by omega) hR), CrcM.flip_nat c hR]
structure TuF (l : List UInt8) (f b k X P R : Nat) : Prop where
  x : b / 2 ^ k = X
  x2 : b / 2 ^ (k + 1) = X / 2
  xl : X < 4294967296
  dv : ((f : Int) + (k : Int)).tdiv 8 = (P : Int)
  md : ((f : Int) + (k : Int)).tmod 8 = (R : Int)
  w : IntKind.i64.wrap ((f : Int) + (k : Int)) = (f : Int) + (k : Int)
  pw : IntKind.i64.wrap (P : Int) = (P : Int)
  rw' : IntKind.i64.wrap (R : Int) = (R : Int)
  p6 : wrap64 (P : Int) = (P : Int)
  r6 : wrap64 (R : Int) = (R : Int)
  r8 : R < 8
  d6 : wrap64 (((f : Int) + (k : Int)).tdiv 8) = (P : Int)
  m6 : wrap64 (((f : Int) + (k : Int)).tmod 8) = (R : Int)
  rr : R = (f + k) % 8
  st : CrcM.turn l f b (k + 1) = if X % 2 = 1 ∧ P < l.length then ((CrcM.turn l f b k).1.set P (CrcM.flip ((CrcM.turn l f b k).1.getD P 0) R), true) else CrcM.turn l f b k
theorem tuF (l : List UInt8) (f b k : Nat) (hf : f ≤ 100000000) (hb : b < 4294967296) (hk : k < 32) : TuF l f b k (b / 2 ^ k) ((f + k) / 8) ((f + k) % 8) where
  x := rfl
  x2 := by rw [Nat.pow_succ, Nat.div_div_eq_div_mul]
  xl := Nat.lt_of_le_of_lt (Nat.div_le_self _ _) hb
  dv := tdiv8 f k
  md := tmod8 f k
  w := wrap_i64_in _ (by clear hb; omega) (by clear hb; omega)
  pw := wrap_i64_in _ (by clear hb; omega) (by clear hb; omega)
  rw' := wrap_i64_in _ (by clear hb; omega) (by clear hb; omega)
  p6 := wrap64_small (by clear hb; omega)
  r6 := wrap64_small (by clear hb; omega)
  r8 := by clear hb; omega
  d6 := by rw [tdiv8]; exact wrap64_small (by clear hb; omega)
  m6 := by rw [tmod8]; exact wrap64_small (by clear hb; omega)
  rr := rfl
  st := rfl
theorem TuRel.next {l : List UInt8} {f b k X P R base c : Nat} {A : Option Addr} {w wr : World} {r : List UInt8 × Bool} (h : TuF l f b k X P R) (hk : k < 32) (e : CrcM.turn l f b (k + 1) = r) (ho : Own8 wr base (.slice A l.length c) r.1) (hb : Below base w wr) :
    TuRel l f b base A c w (.int .u32 ((X : Int) / 2)) (.bool r.2) (.int .i64 ((k : Int) + 1)) wr :=
  ⟨k + 1, hk, by simp, by rw [h.x2]; simp, by rw [e], by rw [e]; exact ho, hb⟩
theorem TuRel.drew {l : List UInt8} {f b base c : Nat} {A : Option Addr} {w wr : World} {a1 a2 a3 : Value} (h : TuRel l f b base A c w a1 a2 a3 wr) : TuRel l f b base A c w a1 a2 a3 wr.drew := by
  obtain ⟨k, h1, h2, h3, h4, h5, h6⟩ := h
  exact ⟨k, h1, h2, h3, h4, h5.on (Below.refl _ wr).drew, h6.drew⟩
theorem flip_pow (n : Nat) : (((2 ^ (n % 8) : Nat)) : Int) = (2 : Int) ^ (n % 8) % 256 := by
  have h : (2 : Nat) ^ (n % 8) < 2 ^ 8 := Nat.pow_lt_pow_right (by omega) (by omega)
  have e : ((2 ^ (n % 8) : Nat) : Int) = (2 : Int) ^ (n % 8) := Int.natCast_pow 2 (n % 8)
  rw [← e]
  generalize (2 : Nat) ^ (n % 8) = z at h ⊢
  have h' : z < 256 := h
  omega
set_option maxRecDepth 100000 in
set_option maxHeartbeats 400000 in
theorem refTurned_any (v : Value) (l : List UInt8) (f b : Nat) (w : World) (hv : Sl w w.heap.size v (bvals l)) (hl : l.length ≤ 1000000) (hf : f ≤ 100000000) (hb : b < 4294967296) :
    Calls Tryz.prog 14 #[v, .int .i64 f, .int .u32 b] w (TurnP (CrcM.turn l f b 32) w) := by
  obtain ⟨i0, hi, hz0, hz1, hz2⟩ := info_parts info_byte
  obtain ⟨A0, c0, e, hc1, hc2, -⟩ := id hv
  rw [bvals_len] at e hc1
  subst e
  unfold maxLen at hc2
  have HV := hid hv; have HF := hid hf; have HB := hid hb
  clear hv hf hb
  go_enter Tryz.func14, Tryz.ntmps14
  go_wp2_with (first | (at_builtin; refine app_own (.tmp 11) (.tmp 12) 23 23 rfl rfl w.heap.size 5 i0 (.int .u8 0) 1 1 Tryz.underlying23 hi hz0 hz1 hz2 rfl (by omega) _ 0 [] rfl (World.ownsRow_nil _ _ _ _) (.slice A0 l.length c0) l.length (bvals l) rfl (by have := src_sl _ Tryz.underlying23 HV.out (bvals_one l); rwa [bvals_len] at this) (by simp only [maxLen]; omega) (by omega) (by omega) ?_; intro v2 w2 ho2 hg2 hb2))
  rw [List.nil_append, Nat.zero_add] at ho2
  obtain ⟨A, c, rfl, hcl, hcm, -⟩ := own_cells ho2
  unfold maxLen at hcm
  have HO2 := hid ho2; have HB2 := hid hb2
  clear ho2 hg2 hb2
  go_loopw [2, 9, 10] (fun x2 x9 x10 wr => TuRel l f b w.heap.size A c w x2 x9 x10 wr) (fun _ _ i _ => 32 - (intOf i).toNat)
  case atStart => exact ⟨0, by omega, rfl, by simp, rfl, HO2.out, HB2.out⟩
  case round =>
  obtain ⟨k, hk, rfl, rfl, rfl, hown, hbw⟩ := hrel
  have hlen := CrcM.turn_len l f b k
  by_cases hlt : k < 32
  · have htf := tuF l f b k HF.out HB.out hlt
    generalize hX : b / 2 ^ k = X at htf ⊢
    generalize (f + k) / 8 = P at htf
    generalize (f + k) % 8 = R at htf
    obtain ⟨r, hr⟩ : ∃ r, r = CrcM.turn l f b k := ⟨_, rfl⟩
    have hst := htf.st
    rw [← hr] at hst hown hlen ⊢
    have hxl := htf.xl
    have HT := hid htf; have HST := hid hst; have HOW := hid hown; have HBW := hid hbw; have HLE := hid hlen
    clear hX hr htf hst hown hbw hlen
    obtain ⟨t, sm⟩ := r
    by_cases h1 : X % 2 = 1
    · have t1 : ((X : Int) % 2 == 1) = true := by rw [beq_iff_eq]; omega
      have w1 := HT.out.w; have hD := HT.out.d6
      by_cases h2 : P < l.length
      · have t2 : (P : Int) < (l.length : Int) := Int.ofNat_lt.mpr h2
        have hown := HOW.out
        simp only at hown
        obtain ⟨A', c', e, -, -, h3⟩ := own_cells hown
        injection e with e1' e2' e3'
        subst e1'; subst e3'; clear e2'
        obtain ⟨g, rfl, hg1, hg2, -⟩ := h3 (by have h := HLE.out; simp only at h; rw [h]; exact Nat.lt_of_le_of_lt (Nat.zero_le _) h2)
        have hown := HOW.out
        simp only at hown
        have hle := HLE.out
        simp only at hle
        rw [← hle] at hown
        obtain ⟨f2, f3, gs⟩ := own8_set hown (by rw [hle]; exact h2 : P < t.length) (CrcM.flip (t.getD P 0) R)
        have hxr := flip_bits (t.getD P 0) HT.out.r8
        have hnx : TuRel l f b w.heap.size (some ⟨g, 0, none⟩) c w (.int .u32 ((X : Int) / 2)) (.bool true) (.int .i64 ((k : Int) + 1)) (wr.setCell ⟨g, P, none⟩ (.int .u8 ((CrcM.flip (t.getD P 0) R).toNat : Int))) :=
          TuRel.next (r := (t.set P (CrcM.flip (t.getD P 0) R), true)) HT.out hlt (HST.out.trans (if_pos ⟨h1, h2⟩)) (by unfold Own8; rw [List.length_set, ← hle]; exact gs) (HBW.out.setCell hg1 _)
        have HNX := hid hnx; have HXR := hid hxr
        generalize (CrcM.flip (t.getD P 0) R).toNat = y at *
        generalize (t.getD P 0).toNat = x0 at *
        clear hnx gs hown h3 hle hxr
        go_upto_region 8 with (fail)
        have hM := HT.out.m6; have r8 := HT.out.r8
        go_region
        have hx := HXR.out
        rw [HT.out.rr, flip_pow] at hx
        rw [hx]
        have HNY := hid HNX.out.drew
        clear hM r8 hx f2 f3
        obtain ⟨wy, hwy⟩ : ∃ wy, wy = (wr.setCell ⟨g, P, none⟩ (.int .u8 (y : Int))).drew := ⟨_, rfl⟩
        rw [← hwy] at HNY ⊢
        clear hwy
        go_wp2
        go_roundw
        case rel => exact HNY.out
        case measure => simp [intOf]; omega
      · have t2 : ¬ (P : Int) < (l.length : Int) := fun h => h2 (Int.ofNat_lt.mp h)
        have hnx := TuRel.next (c := c) (w := w) HT.out hlt (HST.out.trans (if_neg (fun h => h2 h.2))) HOW.out HBW.out
        have HNX := hid hnx
        clear hnx
        go_wp2
        go_roundw
        case rel => exact HNX.out
        case measure => simp [intOf]; omega
    · have t1 : ((X : Int) % 2 == 1) = false := by rw [beq_eq_false_iff_ne]; omega
      have hnx := TuRel.next (c := c) (w := w) HT.out hlt (HST.out.trans (if_neg (fun h => h1 h.1))) HOW.out HBW.out
      have HNX := hid hnx
      clear hnx
      go_wp2
      go_roundw
      case rel => exact HNX.out
      case measure => simp [intOf]; omega
  · obtain rfl : k = 32 := by omega
    have HOW := hid hown; have HBW := hid hbw; have HLE := hid hlen
    clear hown hbw hlen
    go_wp2
    go_ret2
    exact ⟨A, c, by rw [HLE.out]; rfl, by rw [HLE.out]; exact HOW.out, HBW.out⟩
end Go.Proofs.YtkgifbnkkmeoiaaGreatDoor
/- Plain: a message of which some of 32 bits side by side, behind its first four bytes, are turned is told. -/
namespace Go.Proofs.YtkgifbnkkmeoiaaGreatDoor
open Go.ChangeShapes Go.WideShapes Go.ChangeAt Go.RowKit
set_option linter.unusedVariables false
set_option linter.unusedSimpArgs false

theorem getD_take {l l' : List UInt8} {n j : Nat} (h : l'.take n = l.take n) (hj : j < n) : l'.getD j 0 = l.getD j 0 := by
  have e : (l'.take n)[j]? = (l.take n)[j]? := by rw [h]
  rw [List.getElem?_take_of_lt hj, List.getElem?_take_of_lt hj] at e
  rw [List.getD_eq_getElem?_getD, List.getD_eq_getElem?_getD, e]
theorem frame_told (k : Nat) (body : List UInt8) (hb : body.length ≤ 65536) (f b : Nat) (hf : 32 ≤ f) (hs : (CrcM.turn (frameB k body) f b 32).2 = true) : frameG (CrcM.turn (frameB k body) f b 32).1 = ((0, []), 0, 4) := by
  have hl := frameB_len k body
  have hn : nB (frameB k body) = body.length := by
    unfold nB frameB frameH le4
    simp only [List.cons_append, List.nil_append, List.getD_cons_zero, List.getD_cons_succ]
    rw [nat_byte _ (by omega), nat_byte _ (by omega), nat_byte _ (by omega), nat_byte _ (by omega)]
    omega
  have he : frameB k body = frameH k body ++ CrcM.le4 (CrcM.sumN (frameH k body)) := by
    unfold frameB
    rw [crcSum_toNat]; rfl
  have hlen := CrcM.turn_len (frameB k body) f b 32
  have htk := CrcM.turn_take (frameB k body) f b 32 4 (by omega)
  have htold := fun (h' t : List UInt8) (e : (CrcM.turn (frameB k body) f b 32).1 = h' ++ t) => CrcM.sum_told (frameH k body) h' t f b (by rw [← he]; exact hs) (by rw [← he]; exact e)
  generalize (CrcM.turn (frameB k body) f b 32).1 = l at *
  have hnl : nB l = body.length := by
    rw [← hn]
    unfold nB
    rw [getD_take htk (by omega : 0 < 4), getD_take htk (by omega : 1 < 4), getD_take htk (by omega : 2 < 4), getD_take htk (by omega : 3 < 4)]
  rw [hl] at hlen
  have hw : wholeB (l.take (body.length + 9)) (body.length + 5) = false := by
    rw [List.take_of_length_le (by omega)]
    unfold wholeB
    rw [decide_eq_false_iff_not, crcSum_toNat]
    exact htold (l.take (body.length + 5)) (l.drop (body.length + 5)) (List.take_append_drop _ _).symm
  unfold frameG
  rw [hnl, if_neg (by omega), if_neg (by omega), if_neg (by omega), if_neg (by rw [hw]; decide)]
theorem msg_told (m : MsgX) (h : MayM m) (f b : Nat) (hf : 32 ≤ f) (hs : (CrcM.turn (msgB m) f b 32).2 = true) : getMP (CrcM.turn (msgB m) f b 32).1 = (msg0, 4) := by
  have hb := bodyM_le h
  have hg : frameG (CrcM.turn (msgB m) f b 32).1 = ((0, []), 0, 4) := frame_told _ _ (by omega) f b hf hs
  unfold getMP
  rw [hg]
  exact if_pos (by decide)
end Go.Proofs.YtkgifbnkkmeoiaaGreatDoor
