/- 5 texts of this claim, in build order. -/
import Derived.Test.YtgoapnkdcfcjgaaGreatPkkdpconn
import Derived.Laws.Cover2
import Derived.Test.YtgoapnkdcfcjgaaGreatPcbimcfdc
import Derived.WalkLawsBesides
import Derived.Test.YtgoapnkdcfcjgaaGreatPcmncjimi
import Derived.Deep.RegionLaw
import Derived.Test.YtgoapnkdcfcjgaaGreatPefggpapc
import Derived.Test.YtgoapnkdcfcjgaaGreatPplomcpim
set_option linter.unusedVariables false
set_option linter.unusedSimpArgs false
namespace Go.Proofs.YtgoapnkdcfcjgaaGreat
open Go.ChangeShapes Go.WideShapes Go.ChangeAt Go.RowKit
def fN (n : Nat) : Nat := floatOfInt .f64 (n : Int)
theorem ziX {n : Nat} (h : n ≠ 0) : 2 ^ n.log2 <= n /\ n < 2 ^ (n.log2 + 1) := ⟨Nat.log2_self_le h, Nat.lt_log2_self⟩
theorem zjT (n : Nat) (h : n < 2 ^ 53) : ∃ i : Nat, Ieee.double.read (fN n) = .number false (n * 2 ^ i) (-(i : Int)) /\ i <= 1074 := by
 by_cases h0 : n = 0
 ·subst h0
  exact ⟨1074, by decide +kernel, Nat.le_refl _⟩
 ·obtain ⟨hl, hu⟩ := ziX h0
  obtain ⟨L, hL⟩ : ∃ L, L = n.log2 := ⟨_, rfl⟩
  rw [<- hL] at hl hu
  have hL52 : L <= 52 := by
   have : 2 ^ L < 2 ^ 53 := Nat.lt_of_le_of_lt hl h
   have := (Nat.pow_lt_pow_iff_right (by decide : 1 < 2)).1 this
   omega
  have hk1 : 2 ^ 52 <= n * 2 ^ (52 - L) := by
   have : 2 ^ L * 2 ^ (52 - L) <= n * 2 ^ (52 - L) := Nat.mul_le_mul_right _ hl
   rwa [<- Nat.pow_add, show L + (52 - L) = 52 by omega] at this
  have hk2 : n * 2 ^ (52 - L) < 2 ^ 53 := by
   have : n * 2 ^ (52 - L) < 2 ^ (L + 1) * 2 ^ (52 - L) := Nat.mul_lt_mul_of_pos_right hu (Nat.pow_pos (by decide))
   rwa [<- Nat.pow_add, show L + 1 + (52 - L) = 53 by omega] at this
  obtain ⟨K, hK⟩ : ∃ K, K = n * 2 ^ (52 - L) := ⟨_, rfl⟩
  have p52 : (2 : Nat) ^ 52 = 4503599627370496 := by decide +kernel
  have p53 : (2 : Nat) ^ 53 = 9007199254740992 := by decide +kernel
  have p63 : (2 : Nat) ^ 63 = 9223372036854775808 := by decide +kernel
  rw [<- hK, p52] at hk1
  rw [<- hK, p53] at hk2
  have b : Ieee.double.leastPlace = -1074 := by decide +kernel
  have c : Ieee.double.binade = 4503599627370496 := by decide +kernel
  have d : Ieee.double.infRung = 9218868437227405312 := by decide +kernel
  have s : Ieee.double.signWeight = 9223372036854775808 := by decide +kernel
  obtain ⟨Z, hZ⟩ : ∃ Z, Z = (L + 1022) * 4503599627370496 + K := ⟨_, rfl⟩
  have z1 : min Z 9218868437227405312 = Z := by clear hl hu h hK; omega
  have z2 : Z / 9223372036854775808 = 0 := by clear hl hu h hK z1; omega
  have z3 : Z % 9223372036854775808 = Z := by clear hl hu h hK z1 z2; omega
  have z4 : Z % 4503599627370496 = K - 4503599627370496 := by clear hl hu h hK z1 z2 z3; omega
  have z5 : Z / 4503599627370496 = L + 1023 := by clear hl hu h hK z1 z2 z3 z4; omega
  have z6 : ¬ Z < 4503599627370496 := by clear hl hu h hK z1 z2 z3 z4 z5; omega
  have z7 : Z < 9218868437227405312 := by clear hl hu h hK z1 z2 z3 z4 z5; omega
  have z8 : 4503599627370496 + (K - 4503599627370496) = K := by clear hl hu h hK z1 z2 z3 z4 z5; omega
  have hfn : fN n = Z := by
   have e1 : fN n = Ieee.double.nearest false n 0 := by
    unfold fN floatOfInt FloatKind.nearest FloatKind.encode
    rw [show decide ((n : Int) < 0) = false from decide_eq_false (by clear hl hu h hK; omega)]
    rfl
   rw [e1]
   unfold Ieee.Format.nearest
   rw [if_neg h0, <- hL]
   have elast : max ((0 : Int) + (L : Int) - (Ieee.double.fractionBits : Int)) Ieee.double.leastPlace = (L : Int) - 52 := by
    have a : (Ieee.double.fractionBits : Int) = 52 := rfl
    rw [a, b]; clear hl hu h hK hZ; omega
   simp only [elast]
   have e2 : ((0 : Int) - ((L : Int) - 52)).toNat = 52 - L := by clear hl hu h hK hZ; omega
   have e3 : (((L : Int) - 52) - 0).toNat = 0 := by clear hl hu h hK hZ; omega
   have e4 : (((L : Int) - 52) - Ieee.double.leastPlace).toNat = L + 1022 := by rw [b]; clear hl hu h hK hZ; omega
   rw [e2, e3, e4, c, d]
   have ecut : Ieee.Toward.even.cut false (n <<< (52 - L)) 0 = K := by
    rw [Nat.shiftLeft_eq, <- hK]
    unfold Ieee.Toward.cut
    simp [Nat.mod_one]
   rw [ecut, <- hZ, z1]
   rfl
  refine ⟨52 - L, ?_, Nat.le_trans (Nat.sub_le _ _) (by decide)⟩
  unfold Ieee.Format.read
  rw [hfn, s, c, d, b]
  simp only [z2, z3, z4, z5, z8]
  rw [if_neg z6, if_pos z7]
  rw [show ((-1074 : Int) + ((L + 1023 - 1 : Nat) : Int)) = -((52 - L : Nat) : Int) by clear hl hu h hK hZ z2 z3 z4 z5 z6 z7; omega, <- hK]
  rfl
theorem zko (a b : Nat) (ha : a < 2 ^ 53) (hb : b < 2 ^ 53) : Ieee.double.order (fN a) (fN b) = some (compare a b) := by
 obtain ⟨i, hi, hi2⟩ := zjT a ha
 obtain ⟨j, hj, hj2⟩ := zjT b hb
 unfold Ieee.Format.order
 rw [hi, hj]
 unfold Ieee.Datum.order
 simp only [Ieee.signed, Bool.false_eq_true, if_false, Nat.shiftLeft_eq]
 obtain ⟨m, hm⟩ : ∃ m, m = max i j := ⟨_, rfl⟩
 have e1 : a * 2 ^ i * 2 ^ (-(i : Int) - min (-(i : Int)) (-(j : Int))).toNat = a * 2 ^ m := by
  rw [Nat.mul_assoc, <- Nat.pow_add, show i + (-(i : Int) - min (-(i : Int)) (-(j : Int))).toNat = m by omega]
 have e2 : b * 2 ^ j * 2 ^ (-(j : Int) - min (-(i : Int)) (-(j : Int))).toNat = b * 2 ^ m := by
  rw [Nat.mul_assoc, <- Nat.pow_add, show j + (-(j : Int) - min (-(i : Int)) (-(j : Int))).toNat = m by omega]
 rw [e1, e2]
 have hp : 0 < 2 ^ m := Nat.pow_pos (by decide)
 have key : compare ((a * 2 ^ m : Nat) : Int) ((b * 2 ^ m : Nat) : Int) = compare a b := by
  rcases Nat.lt_trichotomy a b with h | h | h
  ·have h2 : a * 2 ^ m < b * 2 ^ m := Nat.mul_lt_mul_of_pos_right h hp
   rw [Nat.compare_eq_lt.2 h]
   exact Int.compare_eq_lt.2 (by omega)
  ·subst h
   rw [Nat.compare_eq_eq.2 rfl]
   exact Int.compare_eq_eq.2 rfl
  ·have h2 : b * 2 ^ m < a * 2 ^ m := Nat.mul_lt_mul_of_pos_right h hp
   rw [Nat.compare_eq_gt.2 h]
   exact Int.compare_eq_gt.2 (by omega)
 rw [key]
theorem zpE (n : Nat) (h : n < 2 ^ 53) : (Ieee.double.read (fN n)).toInt .zero = some (n : Int) := by
 obtain ⟨i, hi, hi2⟩ := zjT n h
 rw [hi]
 unfold Ieee.Datum.toInt Ieee.Datum.integral
 simp only [Ieee.signed, Bool.false_eq_true, if_false, Nat.shiftLeft_eq, Int.neg_neg, Int.toNat_natCast]
 have e0 : (-(i : Int)).toNat = 0 := by omega
 rw [e0, Nat.pow_zero, Nat.mul_one, Nat.mul_one]
 have ec : Ieee.Toward.zero.cut false (n * 2 ^ i) i = n := by
  unfold Ieee.Toward.cut
  simp only [Bool.toNat_false, Nat.add_zero, Nat.shiftLeft_eq, Nat.one_mul]
  by_cases h0 : n = 0
  ·subst h0; simp
  ·have hp : 0 < 2 ^ i := Nat.pow_pos (by decide)
   have hle : 2 ^ i <= n * 2 ^ i := Nat.le_mul_of_pos_left _ (by omega)
   have hlog : i <= (n * 2 ^ i).log2 := (Nat.le_log2 (by have := Nat.mul_pos (by omega : 0 < n) hp; omega)).2 hle
   rw [show min i ((n * 2 ^ i).log2 + 2) = i by omega, Nat.mul_div_cancel _ hp]
 rw [ec]
theorem lt_fN (a b : Nat) (ha : a < 2 ^ 53) (hb : b < 2 ^ 53) : (FloatKind.f64.format.order (fN a) (fN b) == some .lt) = decide (a < b) := by
 rw [show FloatKind.f64.format = Ieee.double from rfl, zko a b ha hb]
 rcases Nat.lt_trichotomy a b with h | h | h
 ·rw [Nat.compare_eq_lt.2 h, decide_eq_true h]; rfl
 ·subst h; rw [Nat.compare_eq_eq.2 rfl, decide_eq_false (Nat.lt_irrefl _)]; rfl
 ·rw [Nat.compare_eq_gt.2 h, decide_eq_false (by omega)]; rfl
theorem ne_fN (a b : Nat) (ha : a < 2 ^ 53) (hb : b < 2 ^ 53) : (FloatKind.f64.format.order (fN a) (fN b) != some .eq) = decide (a ≠ b) := by
 rw [show FloatKind.f64.format = Ieee.double from rfl, zko a b ha hb]
 rcases Nat.lt_trichotomy a b with h | h | h
 ·rw [Nat.compare_eq_lt.2 h, decide_eq_true (by omega)]; rfl
 ·subst h; rw [Nat.compare_eq_eq.2 rfl, decide_eq_false (by simp)]; rfl
 ·rw [Nat.compare_eq_gt.2 h, decide_eq_true (by omega)]; rfl
def cxV (a b : Nat) : Value := .complex .f64 (fN a) (fN b)
def zhv (a b c d : Nat) : Bool := if a ≠ c then decide (a < c) else decide (b < d)
set_option maxRecDepth 100000 in
theorem zmH (a b c d : Nat) (w : World) (ha : a < 2 ^ 53) (hb : b < 2 ^ 53) (hc : c < 2 ^ 53) (hd : d < 2 ^ 53) :
  Calls Tryz.prog 30 #[cxV a b, cxV c d] w (za5 (.bool (zhv a b c d)) w) := by
 have h1 := ne_fN a c ha hc
 have h2 := lt_fN a c ha hc
 have h3 := lt_fN b d hb hd
 unfold cxV zhv
 generalize fN a = A at *
 generalize fN b = B at *
 generalize fN c = C at *
 generalize fN d = D at *
 clear ha hb hc hd
 by_cases h : a ≠ c
 ·rw [if_pos h]
  rw [decide_eq_true h] at h1
  go_enter Tryz.func30, Tryz.ntmps30
  go_wp2
  go_ret
  exact ⟨by rw [<- h2]; rfl, Qu.refl _⟩
 ·rw [if_neg h]
  rw [decide_eq_false h] at h1
  go_enter Tryz.func30, Tryz.ntmps30
  go_wp2
  go_ret
  exact ⟨by rw [<- h3]; rfl, Qu.refl _⟩
theorem zmt (n : Nat) (w : World) : (convert 3 68 (.int .i64 n)).run Tryz.prog w = .ok (.float .f64 (fN n)) w :=
 run_convert_int_float w 3 68 .i64 .f64 (n : Int) (by kernel_rfl) (by kernel_rfl)
theorem cmakeP (a b : Nat) (w : World) : (Builtin.complex_ #[68, 68] 65 #[.float .f64 a, .float .f64 b]).run Tryz.prog w = .ok (.complex .f64 a b) w := by
 kernel_rfl
theorem zhA (n : Nat) (h : n <= 1000) (w : World) : (convert 68 3 (.float .f64 (fN n))).run Tryz.prog w = .ok (.int .i64 n) w := by
 have h1 := zpE n (Nat.lt_of_le_of_lt h (by decide))
 have e : (convert 68 3 (.float .f64 (fN n))).run Tryz.prog w = (Conv.floatToInt .f64 (fN n) .i64).run Tryz.prog w := by
  simp [convert, run_underlying (show Tryz.prog.underlying 68 = some (.float .f64) by kernel_rfl), run_underlying (show Tryz.prog.underlying 3 = some (.int .i64) by kernel_rfl)]
 rw [e]
 unfold Conv.floatToInt
 have h2 : (FloatKind.f64.decode (fN n)).toInt .zero = some (n : Int) := h1
 rw [h2]
 simp only
 rw [if_pos (show IntKind.i64.min <= (n : Int) /\ (n : Int) <= IntKind.i64.max by
  have a : IntKind.i64.min = -9223372036854775808 := by decide +kernel
  have b : IntKind.i64.max = 9223372036854775807 := by decide +kernel
  rw [a, b]; omega)]
 rfl
set_option maxRecDepth 100000 in
theorem zms (H p : Nat) (Y : Lay) (l : LatX) (v : Nat) (w : World) (h : LatW w H p Y l) (hv : v < l.cs.length) (hc : l.cs.length = (zh l.s).length) (hv9 : v <= 1000) :
  Calls Tryz.prog 29 #[.pointer (some ⟨p, 0, none⟩), .int .i64 (v : Int)] w (zY (cxV (l.cs.getD v []).length v) w) := by
 have HLN := hid (zpB H p Y l v w h hv hc hv9)
 have c1 := zmt (l.cs.getD v []).length
 have c2 := zmt v
 have c3 := cmakeP
 unfold cxV
 generalize (l.cs.getD v []).length = n at *
 clear h hv hc hv9
 go_enter Tryz.func29, Tryz.ntmps29
 go_wp2_with fail
 (with_reducible refine HLN.out.mono ?_)
 rintro e w2 ⟨rfl, hb⟩
 have HB := hid hb
 clear hb
 go_wp2
 go_ret
 exact ⟨rfl, HB.out⟩
end Go.Proofs.YtgoapnkdcfcjgaaGreat
namespace Go.Proofs.YtgoapnkdcfcjgaaGreat
open Go.ChangeShapes Go.WideShapes Go.ChangeAt Go.RowKit Go.Deep
def zaN (n : Nat -> Nat) (b : Nat) (t : List Nat) : Nat := t.foldl (fun b v => if zhv (n v) v (n b) b = true then v else b) b
theorem zgy (n : Nat -> Nat) (b : Nat) (t : List Nat) (v : Nat) : zaN n b (t ++ [v]) = if zhv (n v) v (n (zaN n b t)) (zaN n b t) = true then v else zaN n b t := by
 unfold zaN; rw [List.foldl_append]; rfl
theorem zh2 (n : Nat -> Nat) (b : Nat) (t : List Nat) : zaN n b t ∈ b :: t := by
 induction t generalizing b with
 | nil => exact List.mem_singleton.2 rfl
 | cons v t ih =>
   show zaN n (if zhv (n v) v (n b) b = true then v else b) t ∈ _
   have := ih (if zhv (n v) v (n b) b = true then v else b)
   rcases List.mem_cons.1 this with h | h
   ·rw [h]; split
    ·exact List.mem_cons_of_mem _ List.mem_cons_self
    ·exact List.mem_cons_self
   ·exact List.mem_cons_of_mem _ (List.mem_cons_of_mem _ h)
def lenV (l : LatX) (v : Nat) : Nat := (l.cs.getD v []).length
def zds (l : LatX) (q : zX) : Int × Int :=
 if mayQ l.s q = 0 then (((zaN (lenV l) 0 (zbV (zh l.s) (zaP q) (zh l.s).length).tail : Nat) : Int), 0) else (0, mayQ l.s q)
def ChoP (r : Int × Int) (w : World) (e : Ending) (w' : World) : Prop := e = .returned (.tuple #[.int .i64 r.1, .int .i64 r.2]) /\ Below w.heap.size w w'
def ChCut (r : List Int × Int) (K : Nat) (w : World) (s6 s7 : Value) (wx : World) : Prop :=
 ∃ A c, s6 = .slice A r.1.length c /\ s7 = .int .i64 r.2 /\ r.1.length <= c /\ c <= maxLen /\ wx.ownsRow K 3 1 (.slice A r.1.length c) r.1.length (zk r.1) /\ Below K w wx /\ K <= wx.heap.size
def zo2 (l : LatX) (t : List Nat) (W : World) (b i : Value) (wr : World) : Prop :=
 ∃ k : Nat, k <= t.length /\ i = .int .i64 k /\ b = cxV (lenV l (zaN (lenV l) 0 (t.take k))) (zaN (lenV l) 0 (t.take k)) /\ Below W.heap.size W wr
set_option maxRecDepth 100000 in
set_option maxHeartbeats 3200000 in
theorem zdi (H p : Nat) (Y : Lay) (l : LatX) (x : Value) (q : zX) (w : World) (h : LatW w H p Y l) (hm : mayS l.s = true) (hc : l.cs.length = (zh l.s).length) (hx : zaH w w.heap.size x q) (hq : q.1.length <= 1000) (hn : ∀ v, lenV l v <= 100000) :
  Calls Tryz.prog 14 #[.pointer (some ⟨p, 0, none⟩), x] w (ChoP (zds l q) w) := by
 obtain ⟨⟨hd1, hd3⟩, ⟨hm1, hm2⟩, hdl⟩ := zaz hm
 obtain ⟨hv6, hvl⟩ := zaj hm
 have hx0 := hx
 obtain ⟨X1, d1, X2, d2, rfl, -, -⟩ := hx
 obtain ⟨W1, hW1⟩ : ∃ W, W = w.alloc (.cells #[.slice X1 q.1.length d1, .slice X2 q.2.length d2] 30) := ⟨_, rfl⟩
 obtain ⟨Q, hQ⟩ : ∃ Q, Q = w.heap.size := ⟨_, rfl⟩
 have g1 : Below Q w W1 := by rw [hW1, hQ]; exact bl1 _ _
 have z1 : W1.heap.size = Q + 1 := by rw [hW1, hQ]; simp
 have q0 : W1.cell? ⟨Q, 0, none⟩ = some (.slice X1 q.1.length d1) := by rw [hW1, hQ]; simp [go_sem]
 have q1 : W1.cell? ⟨Q, 1, none⟩ = some (.slice X2 q.2.length d2) := by rw [hW1, hQ]; simp [go_sem]
 have hl1 : LatW W1 H p Y l := h.on (by rw [<- hQ]; exact g1)
 obtain ⟨K, hK⟩ : ∃ K, K = W1.heap.size := ⟨_, rfl⟩
 have hQK : Q < K := by omega
 rw [<- hQ] at hx0
 have hx1 : zaH W1 K _ q := (hx0.below g1).more (Nat.le_of_lt hQK)
 have HSC := hid (fun W (hb : Below W1.heap.size W1 W) => zjE H p Y l W (hl1.on hb) hm)
 have HCV := hid (fun (W : World) (v : Value) (hs : zD W W.heap.size v l.s) (hb : Below K W1 W) (hz : K <= W.heap.size) => zeu v _ l.s q W hs ((hx1.below hb).more hz) (by omega) hq)
 have HCO := hid (fun W (hb : Below W1.heap.size W1 W) v (hv : v < l.cs.length) => zms H p Y l v W (hl1.on hb) hv hc (by rw [hc] at hv; unfold zh at hv; rw [List.length_cons] at hv; omega))
 have HVN := hid (show (zh l.s).length <= 7 by unfold zh; rw [List.length_cons]; omega)
 have HCC := hid hc; have HN := hid hn
 have HW1 := hid hW1; have G1 := hid g1; have HQ := hid hQ; have HK := hid hK
 have hcy := fun h0 => show zds l q = (((zaN (lenV l) 0 (zbV (zh l.s) (zaP q) (zh l.s).length).tail : Nat) : Int), 0) from if_pos h0
 have hcn := fun h0 => show zds l q = (0, mayQ l.s q) from if_neg h0
 have hvy := fun h0 => show covX l.s q = (zb8 (zh l.s) (zaP q) (zh l.s).length, 0) from if_pos h0
 have hvn := fun h0 => show covX l.s q = ([], mayQ l.s q) from if_neg h0
 have hhd := zf8 (s := l.s) (q := q)
 have HCY := hid hcy; have HCN := hid hcn; have HVY := hid hvy; have HVN2 := hid hvn; have HHD := hid hhd
 unfold ChoP
 rw [<- hQ]
 clear h hm hx0 hx1 hl1 hW1 g1 hQ z1 hdl hvl hc hn hcy hcn hvy hvn hhd hK
 go_enter Tryz.func14, Tryz.ntmps14
 go_upto_region 1 with (fail)
 rw [<- HW1.out, <- HQ.out]
 go_upto_region 3 with (fail)
 go_cut [6, 7] from 14 to 20 (fun s6 s7 wx => ChCut (covX l.s q) K W1 s6 s7 wx)
 case first =>
  go_wp2
  go_region_law (first
   | (go_simp; go_at_call 28; refine (HSC.out _ (Below.refl _ _).drew).mono ?_; rintro e w3 ⟨vs, rfl, hs3, hb3⟩; obtain ⟨S1, e1, S2, e2, S3, e3, rfl, -, -, -⟩ := id hs3; have B3 := hid (show Below K W1 w3 by rw [HK.out]; exact (Below.refl _ _).drew.trans hb3); have Z3 := hid (show K <= w3.heap.size by rw [HK.out]; exact hb3.size); have k0 := zc B3.out hQK q0; have k1 := zc B3.out hQK q1; have HC3 := hid (HCV.out w3 _ hs3 B3.out Z3.out); clear hs3 hb3)
   | (go_simp; go_at_call 9; refine HC3.out.mono ?_; rintro e w4 ⟨rv, rfl, hr4, hb4⟩; obtain ⟨A4, c4, rfl, hc4, hm4, -⟩ := zl hr4; have HR4 := hid hr4; have B4 := hid (B3.out.trans (hb4.mono Z3.out)); have Z4 := hid (Nat.le_trans Z3.out hb4.size); clear hr4 hb4))
  all_goals
   go_wp2
   go_meet
   case rel => exact ⟨A4, c4, rfl, rfl, hc4, hm4, zw HR4.out Z3.out, B4.out, Z4.out⟩
 case rest =>
  obtain ⟨A, c, rfl, rfl, hAc, hcm, hrow, hb, hz⟩ := hcut
  obtain ⟨wA, rfl⟩ : ∃ W', W' = wc := ⟨_, rfl⟩
  by_cases h0 : mayQ l.s q = 0
  ·have e1 := HCY.out h0
   have e2 := HVY.out h0
   obtain ⟨t, ht⟩ := HHD.out h0
   have hmem : ∀ v ∈ (0 : Nat) :: t, v < l.cs.length := fun v hv => by rw [HCC.out]; exact zij (by rw [ht]; exact hv)
   have hcs7 : l.cs.length <= 7 := by rw [HCC.out]; exact HVN.out
   rw [zgJ, ht] at e2
   rw [ht] at e1
   rw [e2] at hrow hAc ⊢
   simp only [List.length_map, List.length_cons, List.tail_cons, List.map_cons] at hrow hAc e1 ⊢
   obtain ⟨A', c', e3, -, -, hcell⟩ := zaa hrow
   injection e3 with e3 _ e5
   subst e3; subst e5
   obtain ⟨g, rfl, hgK, hgs, -, hce⟩ := hcell (by omega)
   have hc0 : wA.cell? ⟨g, 0, none⟩ = some (.int .i64 0) := by rw [hce 0 (by omega)]; rfl
   have HCE := hid (fun k (hk : k < t.length) => show wA.cell? ⟨g, 1 + k, none⟩ = some (.int .i64 ((t[k] : Nat) : Int)) by
    rw [hce (1 + k) (by omega), Nat.add_comm 1 k]
    simp [zk, hk])
   have HC0 := hid (show Calls Tryz.prog 29 #[.pointer (some ⟨p, 0, none⟩), .int .i64 0] wA (zY (cxV (lenV l 0) 0) wA) from HCO.out wA (by rw [<- HK.out]; exact hb) 0 (hmem 0 List.mem_cons_self))
   have HM := hid hmem; have H7 := hid hcs7; have HB := hid hb; have E1 := hid e1
   unfold maxLen at hcm
   clear hrow hcell hce hmem hcs7 hb e1 e2 ht h0
   go_wp2_with fail
   (with_reducible refine HC0.out.mono ?_)
   rintro e w2 ⟨rfl, hb2⟩
   have HB2 := hid hb2
   have hgA := hgs
   clear hb2 hc0
   by_cases hc1 : c = 1
   ·subst hc1
    obtain rfl : t = [] := List.length_eq_zero_iff.1 (by omega)
    go_wp2
    go_loopw [8, 32] (fun b i wr => zo2 l [] w2 b i wr) (fun _ i _ => 0 - (intOf i).toNat)
    case atStart => exact ⟨0, by omega, rfl, rfl, Below.refl _ _⟩
    case round =>
     obtain ⟨k, hk, rfl, rfl, hbw⟩ := hrel
     obtain rfl : k = 0 := by simpa using hk
     have HBW := hid hbw
     have hcb := zhA 0 (by omega)
     have e0 : zaN (lenV l) 0 (([] : List Nat).take 0) = 0 := rfl
     have e9 : zaN (lenV l) 0 [] = 0 := rfl
     unfold cxV
     rw [e0]
     rw [e9] at E1
     clear hbw
     go_wp2
     go_ret2
     exact ⟨by rw [E1.out]; rfl, G1.out.trans ((HB.out.trans (HB2.out.mono hz)).mono (Nat.le_of_lt hQK) |>.trans (HBW.out.mono (Nat.le_trans (Nat.le_of_lt hQK) (Nat.le_trans hz HB2.out.size))))⟩
   ·go_wp2
    go_loopw [8, 32] (fun b i wr => zo2 l t w2 b i wr) (fun _ i _ => t.length - (intOf i).toNat)
    case atStart => exact ⟨0, by omega, rfl, rfl, Below.refl _ _⟩
    case round =>
     obtain ⟨k, hk, rfl, rfl, hbw⟩ := hrel
     have HBW := hid hbw
     have hbm := zh2 (lenV l) 0 (t.take k)
     have hbM : zaN (lenV l) 0 (t.take k) ∈ (0 : Nat) :: t := by
      rcases List.mem_cons.1 hbm with h | h
      ·rw [h]; exact List.mem_cons_self
      ·exact List.mem_cons_of_mem _ (List.mem_of_mem_take h)
     have hb7 : zaN (lenV l) 0 (t.take k) <= 7 := by have := HM.out _ hbM; have := H7.out; omega
     by_cases hlt : k < t.length
     ·have qk := zc hbw (Nat.lt_of_lt_of_le hgs HB2.out.size) (zc HB2.out hgs (HCE.out k hlt))
      have hvm : t[k] ∈ (0 : Nat) :: t := List.mem_cons_of_mem _ (List.getElem_mem hlt)
      have hv9 := HM.out _ hvm
      have HCV9 := hid (HCO.out wr (by rw [<- HK.out]; exact (HB.out.trans (HB2.out.mono hz)).trans (hbw.mono (Nat.le_trans hz HB2.out.size))) t[k] hv9)
      have es := zgy (lenV l) 0 (t.take k) t[k]
      rw [<- List.take_succ_eq_append_getElem hlt] at es
      have h53 : (2 : Nat) ^ 53 = 9007199254740992 := by decide +kernel
      have HLC := hid (fun W => zmH (lenV l t[k]) t[k] (lenV l (zaN (lenV l) 0 (t.take k))) (zaN (lenV l) 0 (t.take k)) W (by rw [h53]; have := HN.out t[k]; omega) (by rw [h53]; have := H7.out; omega) (by rw [h53]; have := HN.out (zaN (lenV l) 0 (t.take k)); omega) (by rw [h53]; omega))
      have hcg : zY (cxV (l.cs.getD t[k] []).length t[k]) wr = zY (cxV (lenV l t[k]) t[k]) wr := rfl
      rw [hcg] at HCV9
      generalize t[k] = v at *
      generalize zaN (lenV l) 0 (t.take k) = bb at *
      have ES := hid es
      clear es hcg hbm hbM hvm h53 hbw
      go_wp2_with fail
      (with_reducible refine HCV9.out.mono ?_)
      rintro e w3 ⟨rfl, hb3⟩
      have HB3 := hid (HBW.out.trans (hb3.mono HBW.out.size))
      clear hb3
      go_wp2_with fail
      (with_reducible refine (HLC.out _).mono ?_)
      rintro e w4 ⟨rfl, hq4⟩
      have HB4 := hid (HB3.out.trans (hq4.below _))
      clear hq4
      have es := ES.out
      cases hlc : zhv (lenV l v) v (lenV l bb) bb
      ·rw [hlc, if_neg (by decide)] at es
       have HN9 := hid (show zo2 l t w2 (cxV (lenV l bb) bb) (.int .i64 ((k : Int) + 1)) w4 from ⟨k + 1, by omega, by go_num, by rw [es], HB4.out⟩)
       clear es
       go_wp2
       go_roundw
       case rel => exact HN9.out
       case measure => simp [intOf]; omega
      ·rw [hlc, if_pos rfl] at es
       have HN9 := hid (show zo2 l t w2 (cxV (lenV l v) v) (.int .i64 ((k : Int) + 1)) w4 from ⟨k + 1, by omega, by go_num, by rw [es], HB4.out⟩)
       clear es
       go_wp2
       go_roundw
       case rel => exact HN9.out
       case measure => simp [intOf]; omega
     ·obtain rfl : k = t.length := by omega
      rw [List.take_length] at hb7 ⊢
      have hcb := zhA (zaN (lenV l) 0 t) (by omega)
      generalize zaN (lenV l) 0 t = bb at *
      unfold cxV
      clear hbw hbm hbM
      go_wp2
      go_ret2
      exact ⟨by rw [E1.out]; rfl, G1.out.trans ((HB.out.trans (HB2.out.mono hz)).mono (Nat.le_of_lt hQK) |>.trans (HBW.out.mono (Nat.le_trans (Nat.le_of_lt hQK) (Nat.le_trans hz HB2.out.size))))⟩
  ·have e1 := HCN.out h0
   have e2 := HVN2.out h0
   rw [e2] at hrow hAc ⊢
   have hne : (mayQ l.s q != 0) = true := by simpa using h0
   have HB := hid hb; have E1 := hid e1
   generalize mayQ l.s q = mq at *
   clear hb e1 e2 h0
   go_wp2
   go_ret2
   exact ⟨by rw [E1.out]; rfl, G1.out.trans (HB.out.mono (Nat.le_of_lt hQK))⟩
end Go.Proofs.YtgoapnkdcfcjgaaGreat
namespace Go.Proofs.YtgoapnkdcfcjgaaGreat
open Go.ChangeShapes Go.WideShapes Go.ChangeAt Go.RowKit
def sP : ze := ([(⟨#[100]⟩, [⟨#[108]⟩, ⟨#[109]⟩])], [⟨#[118]⟩], [[1], [0]])
def qP : zX := ([1], [])
def fP : List zq := [([[⟨#[97]⟩, ⟨#[120]⟩]], [5]), ([[⟨#[97]⟩, ⟨#[121]⟩]], [7]), ([[⟨#[98]⟩, ⟨#[120]⟩]], [1])]
theorem zhU : mayS sP = true := by decide +kernel
theorem pl_q : mayQ sP qP = 0 := by decide +kernel
theorem pl_cov : zb8 (zh sP) (zaP qP) (zh sP).length = [0, 1] := by decide +kernel
theorem pl_app : (zao (lat0 sP) fP).2 = 0 := by decide +kernel
theorem zqe : ((zao (lat0 sP) fP).1.cs.map List.length) = [3, 2, 1] := by decide +kernel
theorem pl_ch0 : zds (lat0 sP) qP = (0, 0) := by decide +kernel
theorem pl_ch1 : zds (zao (lat0 sP) fP).1 qP = (1, 0) := by decide +kernel
theorem zfs {α : Type} {R : Rd α} {w : World} {B N n k : Nat} {l : List α} (hn : n = l.length) (hm : n <= 1000) (hN : N < B)
  (h : ∀ i x, l[i]? = some x -> ∃ es : List Value, es.length = k /\ (∀ j u, es[j]? = some u -> w.cell? ⟨N, 0 + i * k + j, none⟩ = some u) /\ R w B es x) : zj k R w B [.slice (some ⟨N, 0, none⟩) n n] l := by
 subst hn
 exact ⟨_, _, rfl, Nat.le_refl _, by unfold maxLen; omega, fun _ => ⟨N, 0, rfl, hN, h⟩⟩
theorem rd_nil {α : Type} {R : Rd α} {w : World} {B k : Nat} : zj k R w B [.slice none 0 0] [] := ⟨none, 0, rfl, Nat.le_refl _, by simp [maxLen], fun h => by simp at h⟩
theorem zqo {w : World} {B N : Nat} {x y : ByteArray} (hN : N < B) (hx : x.size <= 1000) (hy : y.size <= 1000) (h0 : w.cell? ⟨N, 0, none⟩ = some (.string x)) (h1 : w.cell? ⟨N, 1, none⟩ = some (.string y)) : zO w B [.slice (some ⟨N, 0, none⟩) 2 2] [x, y] :=
 zfs rfl (by omega) hN (fun i z hz => by
  have : i = 0 \/ i = 1 := by have := (List.getElem?_eq_some_iff.1 hz).1; simp at this; omega
  rcases this with rfl | rfl
  ·simp at hz; subst hz
   exact ⟨[.string x], rfl, fun j u hu => by cases j <;> simp at hu; subst hu; simpa using h0, rfl, by unfold maxLen; omega⟩
  ·simp at hz; subst hz
   exact ⟨[.string y], rfl, fun j u hu => by cases j <;> simp at hu; subst hu; simpa using h1, rfl, by unfold maxLen; omega⟩)
theorem strs1 {w : World} {B N : Nat} {x : ByteArray} (hN : N < B) (hx : x.size <= 1000) (h0 : w.cell? ⟨N, 0, none⟩ = some (.string x)) : zO w B [.slice (some ⟨N, 0, none⟩) 1 1] [x] :=
 zfs rfl (by omega) hN (fun i z hz => by
  obtain rfl : i = 0 := by have := (List.getElem?_eq_some_iff.1 hz).1; simp at this; omega
  simp at hz; subst hz
  exact ⟨[.string x], rfl, fun j u hu => by cases j <;> simp at hu; subst hu; simpa using h0, rfl, by unfold maxLen; omega⟩)
theorem paths1 {w : World} {B N : Nat} {x : List ByteArray} {v : Value} (hN : N < B) (h0 : w.cell? ⟨N, 0, none⟩ = some v) (hx : zO w B [v] x) : zj 1 zO w B [.slice (some ⟨N, 0, none⟩) 1 1] [x] :=
 zfs rfl (by omega) hN (fun i z hz => by
  obtain rfl : i = 0 := by have := (List.getElem?_eq_some_iff.1 hz).1; simp at this; omega
  simp at hz; subst hz
  exact ⟨[v], rfl, fun j u hu => by cases j <;> simp at hu; subst hu; simpa using h0, hx⟩)
theorem zpX {w : World} {B N : Nat} {x : Int} (hN : N < B) (hx : za4 x) (h0 : w.cell? ⟨N, 0, none⟩ = some (.int .i64 x)) : zC w B [.slice (some ⟨N, 0, none⟩) 1 1] [x] :=
 zfs rfl (by omega) hN (fun i z hz => by
  obtain rfl : i = 0 := by have := (List.getElem?_eq_some_iff.1 hz).1; simp at this; omega
  simp at hz; subst hz
  exact ⟨[.int .i64 x], rfl, fun j u hu => by cases j <;> simp at hu; subst hu; simpa using h0, rfl, hx⟩)
end Go.Proofs.YtgoapnkdcfcjgaaGreat
