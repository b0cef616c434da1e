/- 4 texts of this claim, in build order. -/
import Derived.Test.YteebgmhdikcnnaaPcfpofkdm
import Derived.ScopeJumps
import Derived.WalkMore
import Derived.Deep.Cut
import Derived.Deep.DeepCutAuto
import Derived.Test.YteebgmhdikcnnaaPnkcnobfn
/- Plain facts on numbers as bytes, seven bits a byte. -/
namespace Go.Proofs.Yteebgmhdikcnnaa

/-- The number u of a number. -/
def numU (n : Int) : Nat := if n < 0 then (-2 * n - 1).toNat else (2 * n).toNat
/-- u in groups of seven bits, the lowest first; every byte but the last one bears 128. -/
def putF : Nat → Nat → List UInt8
  | 0, u => [UInt8.ofNat u]
  | f + 1, u => if u < 128 then [UInt8.ofNat u] else UInt8.ofNat (u % 128 + 128) :: putF f (u / 128)
def putInt (n : Int) : List UInt8 := putF 9 (numU n)

theorem numU_lt (n : Int) (h1 : -9223372036854775808 ≤ n) (h2 : n ≤ 9223372036854775807) : numU n < 18446744073709551616 := by
  unfold numU; split <;> omega
theorem putF_pos (f u : Nat) : 0 < (putF f u).length := by
  cases f <;> simp [putF]
  split <;> simp
theorem putF_le (f u : Nat) : (putF f u).length ≤ f + 1 := by
  induction f generalizing u with
  | zero => simp [putF]
  | succ f ih =>
    simp only [putF]
    split
    · simp
    · simp only [List.length_cons]; have := ih (u / 128); omega
theorem putInt_le (n : Int) : (putInt n).length ≤ 10 := putF_le 9 _
theorem putInt_pos (n : Int) : 0 < (putInt n).length := putF_pos 9 _

/-- The number of a u. -/
def numOf (u : Nat) : Int := if u % 2 = 1 then -((u / 2 : Nat) : Int) - 1 else ((u / 2 : Nat) : Int)
/-- What is got of bytes of which i are past, and were u. -/
def getF : List UInt8 → Nat → Nat → Int × Int × Int
  | [], _, _ => (0, 0, 3)
  | c :: l, i, u =>
    if i = 9 ∧ 1 < c.toNat then (0, 0, 2)
    else if 128 ≤ c.toNat then getF l (i + 1) (u + c.toNat % 128 * 2 ^ (7 * i))
    else if c.toNat = 0 ∧ 0 < i then (0, 0, 2)
    else (numOf (u + c.toNat * 2 ^ (7 * i)), (i : Int) + 1, 0)
def getInt (l : List UInt8) : Int × Int × Int := getF l 0 0
end Go.Proofs.Yteebgmhdikcnnaa
/- Plain laws on numbers as bytes: what is put is got again, a part of it is too short, no other bytes say the same number, lesser numbers have no more bytes. -/
namespace Go.Proofs.Yteebgmhdikcnnaa

theorem ofNat_toNat (u : Nat) (h : u < 256) : (UInt8.ofNat u).toNat = u := by
  rw [UInt8.toNat_ofNat']; omega
theorem pow7 (i : Nat) : 2 ^ (7 * (i + 1)) = 128 * 2 ^ (7 * i) := by
  rw [Nat.mul_add, Nat.pow_add, Nat.mul_comm]
theorem split7 (x u i : Nat) : x + u % 128 * 2 ^ (7 * i) + u / 128 * 2 ^ (7 * (i + 1)) = x + u * 2 ^ (7 * i) := by
  have e : u * 2 ^ (7 * i) = u % 128 * 2 ^ (7 * i) + u / 128 * (128 * 2 ^ (7 * i)) := by
    rw [← Nat.mul_assoc, ← Nat.add_mul]; congr 1; omega
  rw [pow7, e]; omega
theorem next7 {u i : Nat} (h : u * 2 ^ (7 * i) < 18446744073709551616) : u / 128 * 2 ^ (7 * (i + 1)) < 18446744073709551616 := by
  have e : u * 2 ^ (7 * i) = u % 128 * 2 ^ (7 * i) + u / 128 * (128 * 2 ^ (7 * i)) := by
    rw [← Nat.mul_assoc, ← Nat.add_mul]; congr 1; omega
  rw [pow7]; omega
theorem nine_small {u i : Nat} (h : u * 2 ^ (7 * i) < 18446744073709551616) (hi : i = 9) : u ≤ 1 := by
  subst hi
  have : (2 : Nat) ^ (7 * 9) = 9223372036854775808 := by decide
  rw [this] at h; omega
theorem getF_putF (f u i x : Nat) (rest : List UInt8) (hf : f + i = 9) (hb : u * 2 ^ (7 * i) < 18446744073709551616) (h0 : 0 < i → 0 < u) :
    getF (putF f u ++ rest) i x = (numOf (x + u * 2 ^ (7 * i)), ((i + (putF f u).length : Nat) : Int), 0) := by
  induction f generalizing u i x with
  | zero =>
    have h1 := nine_small hb (by omega)
    have h2 := h0 (by omega)
    simp only [putF, List.cons_append, List.nil_append, getF, ofNat_toNat u (by omega)]
    rw [if_neg (by omega), if_neg (by omega), if_neg (by omega)]
    simp
  | succ f ih =>
    simp only [putF]
    by_cases hu : u < 128
    · rw [if_pos hu]
      simp only [List.cons_append, List.nil_append, getF, ofNat_toNat u (by omega)]
      rw [if_neg (by omega), if_neg (by omega), if_neg (by omega)]
      simp
    · rw [if_neg hu]
      simp only [List.cons_append, getF, ofNat_toNat (u % 128 + 128) (by omega)]
      rw [if_neg (by omega), if_pos (by omega), ih (u / 128) (i + 1) _ (by omega) (next7 hb) (by omega)]
      rw [show (u % 128 + 128) % 128 = u % 128 by omega, split7]
      simp; omega
theorem getF_cut (f u i x k : Nat) (hf : f + i = 9) (hb : u * 2 ^ (7 * i) < 18446744073709551616) (h0 : 0 < i → 0 < u) (hk : k < (putF f u).length) :
    getF ((putF f u).take k) i x = (0, 0, 3) := by
  induction f generalizing u i x k with
  | zero =>
    simp only [putF, List.length_singleton] at hk
    obtain rfl : k = 0 := by omega
    simp [getF]
  | succ f ih =>
    cases k with
    | zero => simp [getF]
    | succ k =>
      simp only [putF] at hk ⊢
      by_cases hu : u < 128
      · rw [if_pos hu] at hk; simp at hk
      · rw [if_neg hu] at hk ⊢
        simp only [List.take_succ_cons, getF, ofNat_toNat (u % 128 + 128) (by omega)]
        rw [if_neg (by omega), if_pos (by omega)]
        exact ih (u / 128) (i + 1) _ k (by omega) (next7 hb) (by omega) (by simpa using hk)
theorem numOf_numU (n : Int) : numOf (numU n) = n := by
  unfold numOf numU; split <;> split <;> omega
theorem numU_numOf (u : Nat) : numU (numOf u) = u := by
  unfold numOf numU; split <;> split <;> omega
theorem numOf_range (u : Nat) (h : u < 18446744073709551616) : -9223372036854775808 ≤ numOf u ∧ numOf u ≤ 9223372036854775807 := by
  unfold numOf; split <;> omega
/-- What is put is got again. -/
theorem getInt_putInt (n : Int) (h1 : -9223372036854775808 ≤ n) (h2 : n ≤ 9223372036854775807) (rest : List UInt8) :
    getInt (putInt n ++ rest) = (n, ((putInt n).length : Int), 0) := by
  have := getF_putF 9 (numU n) 0 0 rest rfl (by have := numU_lt n h1 h2; simpa using this) (by omega)
  simp only [Nat.mul_zero, Nat.pow_zero, Nat.mul_one, Nat.zero_add, numOf_numU] at this
  exact this
/-- A part is too short. -/
theorem getInt_cut (n : Int) (h1 : -9223372036854775808 ≤ n) (h2 : n ≤ 9223372036854775807) (k : Nat) (hk : k < (putInt n).length) :
    getInt ((putInt n).take k) = (0, 0, 3) :=
  getF_cut 9 (numU n) 0 0 k rfl (by have := numU_lt n h1 h2; simpa using this) (by omega) hk
theorem toNat_eq_ofNat (c : UInt8) (u : Nat) (h : c.toNat = u) : c = UInt8.ofNat u := by
  rw [← h, UInt8.ofNat_toNat]
theorem getF_ok (l : List UInt8) (i x : Nat) (n k : Int) (hi : i ≤ 9) (h : getF l i x = (n, k, 0)) :
    ∃ u m : Nat, k = ((i + m : Nat) : Int) ∧ 0 < m ∧ m ≤ l.length ∧ l.take m = putF (9 - i) u ∧ n = numOf (x + u * 2 ^ (7 * i)) ∧ (0 < i → 0 < u) ∧ (i = 9 → u ≤ 1) ∧ u < 128 ^ m := by
  induction l generalizing i x with
  | nil => simp [getF] at h
  | cons c l ih =>
    have hc : c.toNat < 256 := UInt8.toNat_lt _
    simp only [getF] at h
    by_cases h9 : i = 9 ∧ 1 < c.toNat
    · rw [if_pos h9] at h; simp at h
    · rw [if_neg h9] at h
      by_cases h128 : 128 ≤ c.toNat
      · rw [if_pos h128] at h
        obtain ⟨u, m, h3, h4, h5, h6, h7, h8, h10, h11⟩ := ih (i + 1) _ (by omega) h
        have hu := h8 (by omega)
        refine ⟨c.toNat % 128 + 128 * u, m + 1, by rw [h3]; omega, by omega, by simp; omega, ?_, ?_, by omega, by omega, ?_⟩
        · rw [List.take_succ_cons, h6, show 9 - i = (9 - (i + 1)) + 1 by omega, putF, if_neg (by omega)]
          congr 1
          · apply toNat_eq_ofNat; omega
          · congr 1; omega
        · rw [h7]; congr 1
          have := split7 x (c.toNat % 128 + 128 * u) i
          rw [show (c.toNat % 128 + 128 * u) % 128 = c.toNat % 128 by omega, show (c.toNat % 128 + 128 * u) / 128 = u by omega] at this
          exact this
        · rw [Nat.pow_succ]; omega
      · rw [if_neg h128] at h
        by_cases hz : c.toNat = 0 ∧ 0 < i
        · rw [if_pos hz] at h; simp at h
        · rw [if_neg hz] at h
          injection h with h1 h2
          injection h2 with h2 _
          refine ⟨c.toNat, 1, by rw [← h2]; omega, by omega, by simp, ?_, h1.symm, by omega, by omega, by omega⟩
          rw [List.take_succ_cons, List.take_zero]
          have e : putF (9 - i) c.toNat = [UInt8.ofNat c.toNat] := by
            cases 9 - i <;> simp [putF]
            omega
          rw [e, UInt8.ofNat_toNat]
/-- Bytes that begin with a number begin with just what is put for it. -/
theorem getInt_ok (l : List UInt8) (n k : Int) (h : getInt l = (n, k, 0)) : ∃ m : Nat, k = (m : Int) ∧ 0 < m ∧ m ≤ l.length ∧ l.take m = putInt n := by
  obtain ⟨u, m, h1, h2, h3, h4, h5, _⟩ := getF_ok l 0 0 n k (by omega) h
  refine ⟨m, by rw [h1]; simp, h2, h3, ?_⟩
  rw [h4, h5]
  simp only [Nat.mul_zero, Nat.pow_zero, Nat.mul_one, Nat.zero_add]
  unfold putInt; rw [numU_numOf]
theorem putF_mono (f u v : Nat) (h : u / 2 ≤ v / 2) : (putF f u).length ≤ (putF f v).length := by
  induction f generalizing u v with
  | zero => simp [putF]
  | succ f ih =>
    simp only [putF]
    by_cases hv : v < 128
    · rw [if_pos hv, if_pos (by omega : u < 128)]; simp
    · rw [if_neg hv]
      by_cases hu : u < 128
      · rw [if_pos hu]; have := putF_pos f (v / 128); simp
      · rw [if_neg hu]; simp only [List.length_cons]; have := ih (u / 128) (v / 128) (by omega); omega
/-- A number of lesser size has no more bytes. -/
theorem putInt_mono (a b : Int) (h : (if a < 0 then -(a + 1) else a) ≤ (if b < 0 then -(b + 1) else b)) : (putInt a).length ≤ (putInt b).length := by
  apply putF_mono
  unfold numU
  by_cases ha : a < 0 <;> by_cases hb : b < 0 <;> simp only [ha, hb, if_true, if_false] at h ⊢ <;> omega
/-- The bytes, by their places: T is the last one's. -/
def refF : Nat → Nat → List UInt8
  | 0, u => [UInt8.ofNat u]
  | T + 1, u => UInt8.ofNat (u % 128 + 128) :: refF T (u / 128)
theorem putF_ref (T f u : Nat) (hT : T ≤ f) (h1 : T = 0 ∨ 128 ^ T ≤ u) (h2 : u < 128 ^ (T + 1)) : putF f u = refF T u := by
  induction T generalizing f u with
  | zero => cases f <;> simp [putF, refF]; intro h; omega
  | succ T ih =>
    obtain ⟨f, rfl⟩ : ∃ g, f = g + 1 := ⟨f - 1, by omega⟩
    have hp : 0 < 128 ^ T := Nat.pow_pos (by omega)
    rw [Nat.pow_succ] at h1
    have h128 : ¬ u < 128 := by omega
    rw [Nat.pow_succ, Nat.mul_comm] at h2
    simp only [putF, refF, if_neg h128]
    rw [ih f (u / 128) (by omega) (by right; omega) (Nat.div_lt_of_lt_mul h2)]
end Go.Proofs.Yteebgmhdikcnnaa
/- Contracts of slices.Clip, slices.Clone at []byte, and of wire.PutInt (seats without PutText). -/
namespace Go.Proofs.Yteebgmhdikcnnaa
open Go.ChangeShapes Go.WideShapes Go.ChangeAt Go.RowKit
set_option linter.unusedVariables false

theorem info_byte : (Try.prog.info? 5).map (fun i => (i.zero, i.size, i.bytes)) = some (some (.int .u8 0), 1, 1) := by kernel_rfl
def bvals (l : List UInt8) : List Value := l.map fun c => Value.int .u8 (c.toNat : Int)
theorem bvals_len (l : List UInt8) : (bvals l).length = l.length := by simp [bvals]
theorem bvals_app (l m : List UInt8) : bvals (l ++ m) = bvals l ++ bvals m := by simp [bvals]
theorem bvals_one (l : List UInt8) : ∀ u ∈ bvals l, u.oneCell' = true := by
  intro u hu
  obtain ⟨_, _, rfl⟩ := List.mem_map.1 hu
  rfl

theorem u64_not (x : Int) (h0 : 0 ≤ x) (h1 : x < 18446744073709551616) : Go.bits .xor .u64 IntKind.u64.max x = 18446744073709551615 - x := by
  show IntKind.u64.wrap ((BitVec.ofInt 64 IntKind.u64.max ^^^ BitVec.ofInt 64 x).toNat : Int) = _
  have e1 : BitVec.ofInt 64 IntKind.u64.max = BitVec.allOnes 64 := by decide
  have e2 : (BitVec.ofInt 64 x).toNat = x.toNat := by rw [BitVec.toNat_ofInt]; omega
  rw [e1, BitVec.allOnes_xor, BitVec.toNat_not, e2, IntKind.wrap_u64]
  omega
theorem or128 : ∀ x : Fin 256, (x.val ||| 128) = x.val % 128 + 128 := by decide +kernel
theorem u8_or128 (u : Nat) : Go.bits .or .u8 ((u : Int) % 256) 128 = ((u % 128 + 128 : Nat) : Int) := by
  show IntKind.u8.wrap ((BitVec.ofInt 8 ((u : Int) % 256) ||| BitVec.ofInt 8 128).toNat : Int) = _
  have e1 : (BitVec.ofInt 8 ((u : Int) % 256)).toNat = u % 256 := by rw [BitVec.toNat_ofInt]; omega
  have e2 : (BitVec.ofInt 8 128).toNat = 128 := rfl
  rw [BitVec.toNat_or, e1, e2, IntKind.wrap_u8]
  have := or128 ⟨u % 256, by omega⟩
  simp only at this
  rw [this]
  omega
theorem Sl.clip {w : World} {B n c : Nat} {A : Option Addr} {xs : List Value} (h : Sl w B (.slice A n c) xs) : Sl w B (.slice A n n) xs := by
  obtain ⟨A', c', e, h2, h3, h4⟩ := h
  injection e with e1 e2 e3
  subst e1; subst e3; subst e2
  exact ⟨A, _, rfl, Nat.le_refl _, by omega, h4⟩

/-- slices.Clip: the same bytes, full. -/
theorem clip_any (A : Option Addr) (n c : Nat) (w : World) (hn : n ≤ c) (hc : c ≤ maxLen) : Calls Try.prog 42 #[.slice A n c] w fun e w' => e = .returned (.slice A n n) ∧ w = w' := by
  unfold maxLen at hc
  go_enter Try.func42, Try.ntmps42
  go_wp2
  go_ret
  exact ⟨rfl, rfl⟩

theorem own_mono {w : World} {b b' : Nat} {e : TypeId} {sz n : Nat} {v : Value} {xs : List Value} (h : w.ownsRow b e sz v n xs) (hb : b' ≤ b) : w.ownsRow b' e sz v n xs := by
  refine ⟨h.1, ?_⟩
  rcases h.2 with h | ⟨g, cap, cur, hv, hg, r⟩
  · exact .inl h
  · exact .inr ⟨g, cap, cur, hv, by omega, r⟩
theorem bvals_snoc (l : List UInt8) (u : Nat) (hu : u < 256) : bvals (l ++ [UInt8.ofNat u]) = bvals l ++ [.int .u8 (u : Int)] := by
  simp [bvals, UInt8.toNat_ofNat']
  omega
def PutPost (l : List UInt8) (n : Int) (w : World) (e : Ending) (w' : World) : Prop :=
  ∃ v, e = .returned v ∧ w'.ownsRow w.heap.size 5 1 v (l.length + (putInt n).length) (bvals (l ++ putInt n)) ∧ Below w.heap.size w w'
/-- What holds at each jump back: the bytes so far are the call's own, and u is what is still to be put. -/
def PutJump (l : List UInt8) (n : Int) (w : World) (a : Act) (wr : World) : Prop :=
  ∃ (v : Value) (done : List UInt8) (f u : Nat) (x6 x7 x8 x9 x10 x11 x12 x13 x14 x15 x16 x17 x18 x19 x20 x21 x22 x23 x24 x25 x26 x27 x28 x29 : Value), a = { tmps := #[v, .int .i64 n, undef, undef, .slice none 0 0, .int .u64 u, x6, x7, x8, x9, x10, x11, x12, x13, x14, x15, x16, x17, x18, x19, x20, x21, x22, x23, x24, x25, x26, x27, x28, x29], defers := [] } ∧
    wr.ownsRow w.heap.size 5 1 v (l.length + done.length) (bvals (l ++ done)) ∧ Below w.heap.size w wr ∧ done ++ putF f u = putInt n ∧ done.length + f = 9 ∧ u < 128 ^ (f + 1) ∧ u < 18446744073709551616
set_option maxRecDepth 100000 in
set_option maxHeartbeats 400000 in
theorem putInt_any (v : Value) (l : List UInt8) (n : Int) (w : World) (hv : Sl w w.heap.size v (bvals l)) (hl : l.length + 10 ≤ 140737488355328) (h1 : -9223372036854775808 ≤ n) (h2 : n ≤ 9223372036854775807) :
    Calls Try.prog 34 #[v, .int .i64 n] w (PutPost l n w) := by
  obtain ⟨A, c, rfl, hc1, hc2, hA⟩ := id hv
  obtain ⟨i0, hi, hz0, hz1, hz2⟩ := info_parts info_byte
  have hu := numU_lt n h1 h2
  have HV := hid hv; have HA := hid hA; have HU := hid hu; have HN1 := hid h1; have HN2 := hid h2
  clear hv hA hu h1 h2
  go_enter Try.func34, Try.ntmps34
  go_wp2_with fail
  refine wp_scope_jumps 0 (PutJump l n w) (fun a' _ => (intOf (a'.tmps.getD 5 undef)).toNat) rfl ?_ ?_
  · go_wp2_with fail
    refine (clip_any _ _ _ _ hc1 hc2).mono ?_
    rintro e w1 ⟨rfl, rfl⟩
    go_upto_if 12 with (fail)
    go_cut [5] (fun s5 wx => s5 = .int .u64 (numU n : Int) ∧ w = wx)
    case first =>
      by_cases hn : n < 0
      · have e0 := HN1.out
        have e1 : IntKind.u64.wrap (IntKind.u64.wrap n * 2) = 18446744073709551616 + 2 * n := by rw [IntKind.wrap_u64, IntKind.wrap_u64]; omega
        have e2 := u64_not (18446744073709551616 + 2 * n) (by omega) (by omega)
        have e3 : (18446744073709551615 : Int) - (18446744073709551616 + 2 * n) = (numU n : Int) := by unfold numU; rw [if_pos hn]; omega
        rw [e1]
        generalize (18446744073709551616 : Int) + 2 * n = X at *
        have E := hid (e2.trans e3)
        clear e0 e1 e2 e3
        go_wp2
        go_meet
        case rel => exact ⟨by rw [E.out], rfl⟩
      · have e0 := HN2.out
        have e1 : IntKind.u64.wrap (IntKind.u64.wrap n * 2) = (numU n : Int) := by unfold numU; rw [if_neg hn, IntKind.wrap_u64, IntKind.wrap_u64]; omega
        rw [e1]
        clear e0 e1
        go_wp2
        go_meet
        case rel => exact ⟨rfl, rfl⟩
    case rest =>
    obtain ⟨rfl, rfl⟩ := hcut
    have hU := HU.out
    have HP := hid (show ([] : List UInt8) ++ putF 9 (numU n) = putInt n from rfl)
    generalize numU n = u at *
    have HU' := hid hU
    clear hU HU
    have hb0 : bvals l = bvals (l ++ []) := by simp
    by_cases hlt : u < 128
    · go_wp2
      go_step3
      go_wp2_with (at_builtin; refine stop_here ?_)
      refine go_on ?_
      refine app_full (.tmp 25) (.tmp 28) 30 30 rfl rfl 5 i0 (.int .u8 0) 1 Try.underlying30 hi hz0 hz1 hz2 rfl A w.heap.size (bvals l) rfl ((HV.out.clip).below (bl1 _ _)) (.slice (some ⟨w.heap.size, 0, none⟩) 1 1) 1 [_] rfl (Src.ofSlice _ Try.underlying30 _ 1 1 _ rfl (cell_one_new _ _ _) (by simp; rfl)) (by omega) (by rw [bvals_len]; unfold maxLen; omega) (by rw [bvals_len]; omega) ?_
      intro v1 w1 hown1 hb1
      go_wp2
      simp only [Exit.jump]
      go_ret
      have e : putInt n = [UInt8.ofNat u] := by rw [← HP.out]; simp [putF, hlt]
      refine ⟨v1, rfl, ?_, (bl1 _ _).trans (hb1.mono (by simp))⟩
      rw [e, bvals_snoc l u (by omega), List.length_singleton]
      rw [bvals_len] at hown1
      exact own_mono hown1 (by simp)
    · go_wp2
      go_step3
      go_wp2_with (at_builtin; refine stop_here ?_)
      refine go_on ?_
      refine app_full (.tmp 17) (.tmp 21) 30 30 rfl rfl 5 i0 (.int .u8 0) 1 Try.underlying30 hi hz0 hz1 hz2 rfl A w.heap.size (bvals l) rfl ((HV.out.clip).below (bl1 _ _)) (.slice (some ⟨w.heap.size, 0, none⟩) 1 1) 1 [_] rfl (Src.ofSlice _ Try.underlying30 _ 1 1 _ rfl (cell_one_new _ _ _) (by simp; rfl)) (by omega) (by rw [bvals_len]; unfold maxLen; omega) (by rw [bvals_len]; omega) ?_
      intro v1 w1 hown1 hb1
      go_wp2
      go_step3
      simp only [Exit.then, Exit.jump]
      have hU'' := HU'.out
      have e : putInt n = UInt8.ofNat (u % 128 + 128) :: putF 8 (u / 128) := by rw [← HP.out]; simp [putF, hlt]
      refine ⟨trivial, v1, [UInt8.ofNat (u % 128 + 128)], 8, u / 128, _, _, _, _, _, _, _, _, _, _, _, _, _, _, _, _, _, _, _, _, _, _, _, _, by rw [show ((u / 128 : Nat) : Int) = (u : Int) / 128 by omega], ?_, (bl1 _ _).trans (hb1.mono (by simp)), by rw [e]; rfl, by simp, by omega, by omega⟩
      rw [bvals_snoc l (u % 128 + 128) (by omega), List.length_singleton]
      rw [bvals_len, u8_or128] at hown1
      exact own_mono hown1 (by simp)
  · rintro a' wr ⟨v, done, f, u, _, _, _, _, _, _, _, _, _, _, _, _, _, _, _, _, _, _, _, _, _, _, _, _, rfl, hown, hb, hput, hlen, hu, hu64⟩
    have HP := hid hput; have HU := hid hu; have HL := hid hlen; have HU64 := hid hu64; have HOWN := hid hown
    clear hput hu hlen hown hu64
    have hB := hb.size
    have hlen' : done.length ≤ 9 := by have := HL.out; omega
    by_cases hlt : u < 128
    · go_wp2_with (at_builtin; refine stop_here ?_)
      refine go_on ?_
      refine app_own (.tmp 25) (.tmp 28) 30 30 rfl rfl w.heap.size 5 i0 (.int .u8 0) 1 1 Try.underlying30 hi hz0 hz1 hz2 rfl (by omega) v _ _ rfl (HOWN.out.alloc _) (.slice (some ⟨wr.heap.size, 0, none⟩) 1 1) 1 [_] rfl (Src.ofSlice _ Try.underlying30 _ 1 1 _ rfl (cell_one_new _ _ _) (by simp; rfl)) (by unfold maxLen; omega) (by omega) (by simp; omega) ?_
      intro v1 w1 hown1 hg1 hb1
      go_wp2
      simp only [Exit.jump]
      go_ret
      have e : putInt n = done ++ [UInt8.ofNat u] := by
        rw [← HP.out]; cases f <;> simp [putF, hlt]
      refine ⟨v1, rfl, ?_, (hb.alloc hB _).trans hb1⟩
      rw [e, ← List.append_assoc, bvals_snoc _ u (by omega), List.length_append, List.length_singleton, ← Nat.add_assoc]
      exact hown1
    · rcases f with _ | f
      · have := HU.out; omega
      · go_wp2_with (at_builtin; refine stop_here ?_)
        refine go_on ?_
        refine app_own (.tmp 17) (.tmp 21) 30 30 rfl rfl w.heap.size 5 i0 (.int .u8 0) 1 1 Try.underlying30 hi hz0 hz1 hz2 rfl (by omega) v _ _ rfl (HOWN.out.alloc _) (.slice (some ⟨wr.heap.size, 0, none⟩) 1 1) 1 [_] rfl (Src.ofSlice _ Try.underlying30 _ 1 1 _ rfl (cell_one_new _ _ _) (by simp; rfl)) (by unfold maxLen; omega) (by omega) (by simp; omega) ?_
        intro v1 w1 hown1 hg1 hb1
        go_wp2
        go_step3
        simp only [Exit.then]
        have e : (done ++ [UInt8.ofNat (u % 128 + 128)]) ++ putF f (u / 128) = putInt n := by
          rw [← HP.out]; simp [putF, hlt]
        have hu1 := HU.out
        have hu2 : u / 128 < 128 ^ (f + 1) := by
          rw [Nat.pow_succ] at hu1
          exact Nat.div_lt_of_lt_mul (by omega)
        have hl1 := HL.out
        have hu64 := HU64.out
        refine ⟨rfl, ⟨v1, done ++ [UInt8.ofNat (u % 128 + 128)], f, u / 128, _, _, _, _, _, _, _, _, _, _, _, _, _, _, _, _, _, _, _, _, _, _, _, _, by rw [show ((u / 128 : Nat) : Int) = (u : Int) / 128 by omega], ?_, (hb.alloc hB _).trans hb1, e, by simp; omega, hu2, by omega⟩, ?_⟩
        · rw [← List.append_assoc, bvals_snoc _ (u % 128 + 128) (by omega), List.length_append, List.length_singleton, ← Nat.add_assoc]
          rw [u8_or128] at hown1
          exact hown1
        · simp [intOf]; omega

theorem Sl.of_bytes {w : World} {base : Nat} {e : TypeId} {v : Value} {n : Nat} {xs : List Value} (h : w.ownsRow base e 1 v n xs) : Sl w w.heap.size v xs := Sl.of_own h
end Go.Proofs.Yteebgmhdikcnnaa
/- Bytes that are put, one behind the other. -/
namespace Go.Proofs.Yteebgmhdikcnnaa
open Go.ChangeShapes Go.WideShapes Go.ChangeAt Go.RowKit
set_option linter.unusedVariables false

theorem flat_len {α : Type} (l : List α) (f : α → List UInt8) (m : Nat) (h : ∀ x ∈ l, (f x).length ≤ m) : (l.flatMap f).length ≤ m * l.length := by
  induction l with
  | nil => simp
  | cons x l ih =>
    have h1 := h x List.mem_cons_self
    have h2 := ih (fun y hy => h y (List.mem_cons_of_mem _ hy))
    rw [List.flatMap_cons, List.length_append, List.length_cons, Nat.mul_succ]
    omega
theorem flat_drop {α : Type} {l : List α} {k : Nat} (hk : k < l.length) (f : α → List UInt8) : (l.drop k).flatMap f = f l[k] ++ (l.drop (k + 1)).flatMap f := by
  rw [List.drop_eq_getElem_cons hk, List.flatMap_cons]
theorem flat_done {α : Type} {l : List α} (f : α → List UInt8) : (l.drop l.length).flatMap f = [] := by simp
/-- Bytes of the call's own. -/
def Own8 (w : World) (base : Nat) (v : Value) (l : List UInt8) : Prop := w.ownsRow base 5 1 v l.length (bvals l)
theorem Own8.less {w : World} {base base' : Nat} {v : Value} {l : List UInt8} (h : Own8 w base v l) (hb : base' ≤ base) : Own8 w base' v l := by
  obtain ⟨h1, h2⟩ := h
  refine ⟨h1, ?_⟩
  rcases h2 with h2 | ⟨g, cap, cur, rfl, hbg, r⟩
  · exact .inl h2
  · exact .inr ⟨g, cap, cur, rfl, by omega, r⟩
theorem Own8.on {w w' : World} {base : Nat} {v : Value} {l : List UInt8} (h : Own8 w base v l) (hb : Below w.heap.size w w') : Own8 w' base v l := own_kept h (fun g hg => hb.block g (own_lt h g hg).2)
theorem Own8.sl {w : World} {base : Nat} {v : Value} {l : List UInt8} (h : Own8 w base v l) : Sl w w.heap.size v (bvals l) := Sl.of_own h
theorem Own8.form {w : World} {base : Nat} {v : Value} {l : List UInt8} (h : Own8 w base v l) : ∃ A c, v = .slice A l.length c := by
  rcases h.2 with ⟨rfl, h0⟩ | ⟨g, cap, cur, rfl, _⟩
  · exact ⟨none, 0, by rw [h0]⟩
  · exact ⟨_, _, rfl⟩
def Put8 (l : List UInt8) (w : World) (e : Ending) (w' : World) : Prop := ∃ v, e = .returned v ∧ Own8 w' w.heap.size v l ∧ Below w.heap.size w w'
theorem putI8 (v : Value) (l : List UInt8) (n : Int) (w : World) (hv : Sl w w.heap.size v (bvals l)) (hl : l.length ≤ 100000) (hn : InI64 n) :
    Calls Try.prog 34 #[v, .int .i64 n] w (Put8 (l ++ putInt n) w) := by
  unfold InI64 at hn
  refine (putInt_any v l n w hv (by omega) (by omega) (by omega)).mono ?_
  rintro e w' ⟨v', rfl, h, hb⟩
  exact ⟨v', rfl, by unfold Own8; rw [List.length_append]; exact h, hb⟩
end Go.Proofs.Yteebgmhdikcnnaa
