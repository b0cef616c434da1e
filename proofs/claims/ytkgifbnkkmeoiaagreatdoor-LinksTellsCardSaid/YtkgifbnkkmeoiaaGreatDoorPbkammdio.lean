/- 3 texts of this claim, in build order. -/
import Derived.Test.YtkgifbnkkmeoiaaGreatDoorPkcgdjgcb
import Derived.Test.YtkgifbnkkmeoiaaGreatDoorPmoagdfll
import Derived.Test.YtkgifbnkkmeoiaaGreatDoorPbkbinjci
import Derived.Laws.Bits64b
/- What is read lies in its bounds. -/
namespace Go.Proofs.YtkgifbnkkmeoiaaGreatDoor
open Go.ChangeShapes Go.WideShapes Go.ChangeAt Go.RowKit
set_option linter.unusedVariables false

theorem rInt_lies (l : List UInt8) (a : Nat) (e least most : Int) (ha : a ≤ l.length) (h0 : -9223372036854775808 ≤ least) (h1 : most ≤ 9223372036854775807) : InI64 (rInt l a e least most).1 ∧ (rInt l a e least most).2.1 ≤ l.length := by
  unfold rInt
  have hz : InI64 0 := ⟨by omega, by omega⟩
  split
  · exact ⟨hz, ha⟩
  · split
    · exact ⟨hz, ha⟩
    · split
      · exact ⟨hz, ha⟩
      · rename_i h2 h3 h4
        refine ⟨⟨by show _ ≤ (getInt (l.drop a)).1; omega, by show (getInt (l.drop a)).1 ≤ _; omega⟩, ?_⟩
        rcases getInt_says (l.drop a) with (h | h) | ⟨k, z, q1, q2, h⟩
        · rw [h] at h3; exact absurd h3 (by decide)
        · rw [h] at h3; exact absurd h3 (by decide)
        · rw [h]; rw [List.length_drop] at q2; simp; omega
def CmdIn (c : CmdX) : Prop := InI64 c.1 ∧ InI64 c.2.1 ∧ InI64 c.2.2.1 ∧ FactsIn c.2.2.2
theorem c0_in : CmdIn c0X := ⟨⟨by decide, by decide⟩, ⟨by decide, by decide⟩, ⟨by decide, by decide⟩, fun f hf => by cases hf⟩
theorem e0_in : EntIn e0X := ⟨⟨by decide, by decide⟩, ⟨by decide, by decide⟩, c0_in⟩
theorem cmdR_in (l : List UInt8) (a : Nat) (e : Int) (ha : a ≤ l.length) : CmdIn (cmdR l a e).1 ∧ (cmdR l a e).2.1 ≤ l.length := by
  obtain ⟨h1, h2⟩ := rInt_lies l a e 0 3 ha (by omega) (by omega)
  obtain ⟨h3, h4⟩ := rInt_lies l _ (rInt l a e 0 3).2.2 0 1099511627776 h2 (by omega) (by omega)
  obtain ⟨h5, h6⟩ := rInt_lies l _ (rInt l (rInt l a e 0 3).2.1 (rInt l a e 0 3).2.2 0 1099511627776).2.2 0 1099511627776 h4 (by omega) (by omega)
  unfold cmdR
  simp only
  have h7 := fun e' => readB_ok l _ e' h6
  refine ⟨?_, (h7 _).2.2⟩
  split
  · exact ⟨h1, h3, h5, FactOk.in_ (h7 _).2.1⟩
  · exact c0_in
theorem entR_in (l : List UInt8) (a : Nat) (e : Int) (ha : a ≤ l.length) : EntIn (entR l a e).1 ∧ (entR l a e).2.1 ≤ l.length := by
  obtain ⟨h1, h2⟩ := rInt_lies l a e 1 1099511627776 ha (by omega) (by omega)
  obtain ⟨h3, h4⟩ := rInt_lies l _ (rInt l a e 1 1099511627776).2.2 1 1099511627776 h2 (by omega) (by omega)
  obtain ⟨h5, h6⟩ := cmdR_in l _ (rInt l (rInt l a e 1 1099511627776).2.1 (rInt l a e 1 1099511627776).2.2 1 1099511627776).2.2 h4
  unfold entR
  simp only
  refine ⟨?_, h6⟩
  split
  · exact ⟨h1, h3, h5⟩
  · exact e0_in
theorem entsR_in (l : List UInt8) : ∀ (k a : Nat) (e : Int), a ≤ l.length → (∀ x ∈ (entsR l k a e).1, EntIn x) ∧ (entsR l k a e).2.1 ≤ l.length ∧ (entsR l k a e).1.length = k := by
  intro k
  induction k with
  | zero => intro a e ha; exact ⟨fun x hx => (by cases hx), ha, rfl⟩
  | succ k ih =>
    intro a e ha
    obtain ⟨h1, h2⟩ := entR_in l a e ha
    obtain ⟨i1, i2, i3⟩ := ih _ (entR l a e).2.2 h2
    unfold entsR
    refine ⟨fun x hx => ?_, i2, by simp [i3]⟩
    rcases List.mem_cons.1 hx with rfl | hx
    · exact h1
    · exact i1 x hx
theorem msgTail_in (l : List UInt8) (kind src dst : Int) (a : Nat) (e : Int) (ha : a ≤ l.length) (hk : InI64 kind) (hs : InI64 src) (hd : InI64 dst) : MsgIn (msgTail l kind src dst a e).1 ∧ ∀ x ∈ (msgTail l kind src dst a e).1.ents, EntIn x := by
  unfold msgTail
  simp only
  obtain ⟨h1, a1⟩ := rInt_lies l a e 0 1099511627776 ha (by omega) (by omega)
  generalize rInt l a e 0 1099511627776 = r1 at *
  obtain ⟨h2, a2⟩ := rInt_lies l r1.2.1 r1.2.2 0 1099511627776 a1 (by omega) (by omega)
  generalize rInt l r1.2.1 r1.2.2 0 1099511627776 = r2 at *
  obtain ⟨h3, a3⟩ := rInt_lies l r2.2.1 r2.2.2 0 1099511627776 a2 (by omega) (by omega)
  generalize rInt l r2.2.1 r2.2.2 0 1099511627776 = r3 at *
  obtain ⟨h4, a4⟩ := rInt_lies l r3.2.1 r3.2.2 0 1099511627776 a3 (by omega) (by omega)
  generalize rInt l r3.2.1 r3.2.2 0 1099511627776 = r4 at *
  obtain ⟨h5, a5⟩ := rInt_lies l r4.2.1 r4.2.2 0 1099511627776 a4 (by omega) (by omega)
  generalize rInt l r4.2.1 r4.2.2 0 1099511627776 = r5 at *
  obtain ⟨h6, a6⟩ := rInt_lies l r5.2.1 r5.2.2 0 1 a5 (by omega) (by omega)
  generalize rInt l r5.2.1 r5.2.2 0 1 = r6 at *
  obtain ⟨h7, a7⟩ := rInt_lies l r6.2.1 r6.2.2 0 1099511627776 a6 (by omega) (by omega)
  generalize rInt l r6.2.1 r6.2.2 0 1099511627776 = r7 at *
  obtain ⟨h8, a8⟩ := rInt_lies l r7.2.1 r7.2.2 0 1099511627776 a7 (by omega) (by omega)
  generalize rInt l r7.2.1 r7.2.2 0 1099511627776 = r8 at *
  obtain ⟨h9, a9⟩ := rInt_lies l r8.2.1 r8.2.2 0 6 a8 (by omega) (by omega)
  generalize rInt l r8.2.1 r8.2.2 0 6 = r9 at *
  obtain ⟨h10, -, -⟩ := entsR_in l r9.1.toNat r9.2.1 r9.2.2 a9
  exact ⟨⟨hk, hs, hd, h1, h2, h3, h4, h5, h7, h8⟩, h10⟩
theorem msgBody_in (lo hi kind : Int) (l : List UInt8) (hk : InI64 kind) (h0 : -9223372036854775808 ≤ lo) (h1 : hi ≤ 9223372036854775807) : MsgIn (msgBody lo hi kind l).1 ∧ ∀ x ∈ (msgBody lo hi kind l).1.ents, EntIn x := by
  unfold msgBody
  simp only
  obtain ⟨g1, a1⟩ := rInt_lies l 0 0 lo hi (by omega) h0 h1
  obtain ⟨g2, a2⟩ := rInt_lies l _ (rInt l 0 0 lo hi).2.2 lo hi a1 h0 h1
  exact msgTail_in l kind _ _ _ _ a2 hk g1 g2
end Go.Proofs.YtkgifbnkkmeoiaaGreatDoor
/- The check sum on numbers: it is linear, and a bit's step has no kernel: some of 32 bits side by side that are turned are told. No program in sight. -/
namespace Go.Proofs.YtkgifbnkkmeoiaaGreatDoor.CrcM
/-- One bit of a check sum, on numbers. -/
def sh (x : Nat) : Nat := if x % 2 = 1 then (x / 2) ^^^ 3988292384 else x / 2
def shN : Nat → Nat → Nat
  | 0, x => x
  | k + 1, x => sh (shN k x)
theorem sh_bit (x i : Nat) : (sh x).testBit i = ((x.testBit (i + 1)) ^^ (x.testBit 0 && (3988292384 : Nat).testBit i)) := by
  unfold sh
  have h0 : x.testBit 0 = decide (x % 2 = 1) := Nat.testBit_zero x
  have h1 : x.testBit (i + 1) = (x / 2).testBit i := Nat.testBit_succ x i
  rw [h0, h1]
  by_cases h : x % 2 = 1
  · rw [if_pos h, Nat.testBit_xor]; simp [h]
  · rw [if_neg h]; simp [h]
theorem sh_xor (x y : Nat) : sh (x ^^^ y) = sh x ^^^ sh y := by
  apply Nat.eq_of_testBit_eq
  intro i
  rw [Nat.testBit_xor, sh_bit, sh_bit, sh_bit, Nat.testBit_xor, Nat.testBit_xor]
  cases x.testBit (i+1) <;> cases y.testBit (i+1) <;> cases x.testBit 0 <;> cases y.testBit 0 <;> cases (3988292384 : Nat).testBit i <;> rfl
theorem shN_xor (k x y : Nat) : shN k (x ^^^ y) = shN k x ^^^ shN k y := by
  induction k with
  | zero => rfl
  | succ k ih => show sh _ = sh _ ^^^ sh _; rw [ih, sh_xor]
theorem sh_zero : sh 0 = 0 := rfl
theorem shN_zero (k : Nat) : shN k 0 = 0 := by
  induction k with
  | zero => rfl
  | succ k ih => show sh _ = 0; rw [ih]; rfl
theorem shN_add (a b x : Nat) : shN (a + b) x = shN a (shN b x) := by
  induction a with
  | zero => rw [Nat.zero_add]; rfl
  | succ a ih => rw [Nat.succ_add]; show sh _ = sh _; rw [ih]
theorem sh_lt {x : Nat} (h : x < 4294967296) : sh x < 4294967296 := by
  unfold sh
  split
  · exact Nat.xor_lt_two_pow (n := 32) (by omega) (by decide)
  · omega
theorem sh_ne {x : Nat} (h : x < 4294967296) (h0 : x ≠ 0) : sh x ≠ 0 := by
  intro e
  have hb : (sh x).testBit 31 = false := by rw [e]; simp
  rw [sh_bit, Nat.testBit_lt_two_pow (x := x) (i := 31 + 1) (by simpa using h), show (3988292384 : Nat).testBit 31 = true by decide] at hb
  simp only [Bool.false_xor, Bool.and_true] at hb
  rw [Nat.testBit_zero] at hb
  have hm : x % 2 ≠ 1 := by simpa using hb
  unfold sh at e
  rw [if_neg hm] at e
  omega
theorem shN_lt {x : Nat} (k : Nat) (h : x < 4294967296) : shN k x < 4294967296 := by
  induction k with
  | zero => exact h
  | succ k ih => exact sh_lt ih
theorem shN_ne {x : Nat} (k : Nat) (h : x < 4294967296) (h0 : x ≠ 0) : shN k x ≠ 0 := by
  induction k with
  | zero => exact h0
  | succ k ih => exact sh_ne (shN_lt k h) ih
theorem shN_one (k : Nat) : shN k (2 ^ k) = 1 := by
  induction k with
  | zero => rfl
  | succ k ih =>
    rw [shN_add k 1]
    have : shN 1 (2 ^ (k + 1)) = 2 ^ k := by
      show sh (2 ^ (k + 1)) = 2 ^ k
      unfold sh
      rw [if_neg (by rw [Nat.pow_succ]; omega), Nat.pow_succ]
      omega
    rw [this, ih]
def stepN (n : Nat) (c : UInt8) : Nat := shN 8 (n ^^^ c.toNat)
def runN (n : Nat) (l : List UInt8) : Nat := l.foldl stepN n
theorem step_xor (n d : Nat) (c : UInt8) : stepN (n ^^^ d) c = stepN n c ^^^ shN 8 d := by
  unfold stepN
  rw [← shN_xor, Nat.xor_assoc, Nat.xor_comm d, ← Nat.xor_assoc]
theorem run_xor (n d : Nat) (l : List UInt8) : runN (n ^^^ d) l = runN n l ^^^ shN (8 * l.length) d := by
  induction l generalizing n d with
  | nil => rfl
  | cons c l ih =>
    show runN (stepN (n ^^^ d) c) l = runN (stepN n c) l ^^^ _
    rw [step_xor, ih, ← shN_add, List.length_cons]
    rfl
/-- One bit turned, from a byte's lowest on. -/
def flip (c : UInt8) (j : Nat) : UInt8 := UInt8.ofNat (c.toNat ^^^ 2 ^ j)
theorem flip_nat (c : UInt8) {j : Nat} (hj : j < 8) : (flip c j).toNat = c.toNat ^^^ 2 ^ j := by
  unfold flip
  rw [UInt8.toNat_ofNat']
  refine Nat.mod_eq_of_lt (Nat.xor_lt_two_pow (n := 8) (UInt8.toNat_lt c) (Nat.pow_lt_pow_right (by omega) hj))
theorem step_flip (n : Nat) (c : UInt8) {j : Nat} (hj : j < 8) : stepN n (flip c j) = stepN n c ^^^ shN (8 - j) 1 := by
  unfold stepN
  rw [flip_nat c hj, ← Nat.xor_assoc, shN_xor]
  congr 1
  rw [show 8 = (8 - j) + j by omega, shN_add, shN_one]
  congr 1
  omega
def flipAt (l : List UInt8) (p : Nat) : List UInt8 := l.set (p / 8) (flip (l.getD (p / 8) 0) (p % 8))
theorem run_flip (n : Nat) : ∀ (l : List UInt8) (p : Nat), p < 8 * l.length → runN n (flipAt l p) = runN n l ^^^ shN (8 * l.length - p) 1 := by
  intro l
  induction l generalizing n with
  | nil => intro p hp; simp at hp
  | cons c l ih =>
    intro p hp
    rw [List.length_cons] at hp ⊢
    by_cases h : p < 8
    · have h0 : p / 8 = 0 := by omega
      have h1 : p % 8 = p := by omega
      unfold flipAt
      rw [h0, h1]
      show runN (stepN n (flip c p)) l = runN (stepN n c) l ^^^ _
      rw [step_flip n c h, run_xor, ← shN_add]
      congr 2
      omega
    · have hq : flipAt (c :: l) p = c :: flipAt l (p - 8) := by
        unfold flipAt
        obtain ⟨m, hm⟩ : ∃ m, p = m + 8 := ⟨p - 8, by omega⟩
        subst hm
        rw [show (m + 8) / 8 = m / 8 + 1 by omega, show (m + 8) % 8 = m % 8 by omega, Nat.add_sub_cancel]
        rfl
      rw [hq]
      show runN (stepN n c) _ = runN (stepN n c) l ^^^ _
      rw [ih _ (p - 8) (by omega)]
      congr 2
      omega
/-- Some of the bits from one on turned, k of them looked at; those that lie beyond the end are left. -/
def turn (l : List UInt8) (from_ : Nat) (bits : Nat) : Nat → List UInt8 × Bool
  | 0 => (l, false)
  | k + 1 =>
    let r := turn l from_ bits k
    if bits / 2 ^ k % 2 = 1 ∧ (from_ + k) / 8 < l.length then (flipAt r.1 (from_ + k), true) else r
theorem flipAt_len (l : List UInt8) (p : Nat) : (flipAt l p).length = l.length := by unfold flipAt; rw [List.length_set]
theorem turn_len (l : List UInt8) (f b k : Nat) : (turn l f b k).1.length = l.length := by
  induction k with
  | zero => rfl
  | succ k ih =>
    unfold turn
    dsimp only
    split
    · rw [flipAt_len, ih]
    · exact ih
/-- The bits that are turned, as a number. -/
def mask (l : List UInt8) (f b : Nat) : Nat → Nat
  | 0 => 0
  | k + 1 => if b / 2 ^ k % 2 = 1 ∧ (f + k) / 8 < l.length then mask l f b k ^^^ 2 ^ k else mask l f b k
theorem mask_lt (l : List UInt8) (f b k : Nat) : mask l f b k < 2 ^ k := by
  induction k with
  | zero => exact Nat.zero_lt_one
  | succ k ih =>
    unfold mask
    have h2 : 2 ^ k < 2 ^ (k + 1) := Nat.pow_lt_pow_right (by omega) (by omega)
    split
    · exact Nat.xor_lt_two_pow (Nat.lt_trans ih h2) h2
    · exact Nat.lt_trans ih h2
theorem mask_some (l : List UInt8) (f b k : Nat) : (turn l f b k).2 = true ↔ mask l f b k ≠ 0 := by
  induction k with
  | zero => simp [turn, mask]
  | succ k ih =>
    unfold turn mask
    dsimp only
    split
    · refine ⟨fun _ e => ?_, fun _ => rfl⟩
      have hb : (mask l f b k ^^^ 2 ^ k).testBit k = false := by rw [e]; simp
      rw [Nat.testBit_xor, Nat.testBit_lt_two_pow (mask_lt l f b k)] at hb
      simp at hb
    · exact ih
theorem turn_none (l : List UInt8) (f b k : Nat) (h : (turn l f b k).2 = false) : (turn l f b k).1 = l := by
  induction k with
  | zero => rfl
  | succ k ih =>
    unfold turn at h ⊢
    dsimp only at h ⊢
    split
    · rename_i hc; rw [if_pos hc] at h; cases h
    · rename_i hc; rw [if_neg hc] at h; exact ih h
theorem run_turn (n : Nat) (l : List UInt8) (f b k : Nat) : runN n (turn l f b k).1 = runN n l ^^^ shN (8 * l.length - f) (mask l f b k) := by
  induction k with
  | zero => unfold turn mask; rw [shN_zero, Nat.xor_zero]
  | succ k ih =>
    unfold turn mask
    dsimp only
    split
    · rename_i hc
      have hlt : f + k < 8 * l.length := by omega
      rw [run_flip n _ _ (by rw [turn_len]; exact hlt), ih, shN_xor, turn_len, Nat.xor_assoc]
      congr 2
      rw [show 8 * l.length - f = (8 * l.length - (f + k)) + k by omega, shN_add, shN_one]
    · exact ih
theorem turn_told (n : Nat) (l : List UInt8) (f b : Nat) (h : (turn l f b 32).2 = true) : runN n (turn l f b 32).1 ≠ runN n l := by
  rw [run_turn]
  have hm := (mask_some l f b 32).1 h
  have hs := shN_ne (8 * l.length - f) (mask_lt l f b 32) hm
  intro e
  apply hs
  have := congrArg (fun z => runN n l ^^^ z) e
  simp only [Nat.xor_self] at this
  rw [← Nat.xor_assoc, Nat.xor_self, Nat.zero_xor] at this
  exact this
/-- What stands ahead of the first bit stays. -/
theorem turn_take (l : List UInt8) (f b k m : Nat) (hm : 8 * m ≤ f) : (turn l f b k).1.take m = l.take m := by
  induction k with
  | zero => rfl
  | succ k ih =>
    unfold turn
    dsimp only
    split
    · unfold flipAt
      rw [List.take_set_of_le (by omega)]
      exact ih
    · exact ih
theorem shN_mul (k y : Nat) : shN k (y * 2 ^ k) = y := by
  induction k with
  | zero => exact Nat.mul_one y
  | succ k ih =>
    rw [shN_add k 1]
    have : shN 1 (y * 2 ^ (k + 1)) = y * 2 ^ k := by
      show sh (y * 2 ^ (k + 1)) = y * 2 ^ k
      rw [Nat.pow_succ, ← Nat.mul_assoc]
      unfold sh
      rw [if_neg (by omega)]
      omega
    rw [this, ih]
theorem low_xor (a m k : Nat) (h : a < 2 ^ k) : a ^^^ (m * 2 ^ k) = a + m * 2 ^ k := by
  apply Nat.eq_of_testBit_eq
  intro i
  rw [Nat.testBit_xor, Nat.add_comm a, Nat.mul_comm m, Nat.testBit_two_pow_mul_add m h]
  rw [Nat.testBit_two_pow_mul]
  by_cases hi : i < k
  · rw [if_pos hi]; simp [Nat.not_le.2 hi]
  · rw [if_neg hi, Nat.testBit_lt_two_pow (Nat.lt_of_lt_of_le h (Nat.pow_le_pow_right (by omega) (by omega)))]; simp [Nat.le_of_not_lt hi]
def le4 (n : Nat) : List UInt8 := [UInt8.ofNat (n % 256), UInt8.ofNat (n / 256 % 256), UInt8.ofNat (n / 65536 % 256), UInt8.ofNat (n / 16777216 % 256)]
theorem ofNat_nat (n : Nat) (h : n < 256) : (UInt8.ofNat n).toNat = n := by rw [UInt8.toNat_ofNat']; omega
theorem run_le4 (r x : Nat) (hx : x < 4294967296) : runN r (le4 x) = shN 32 (r ^^^ x) := by
  have e0 : x = (x % 256) ^^^ ((x / 256) * 2 ^ 8) := by rw [low_xor _ _ _ (by omega)]; omega
  have e1 : x / 256 = (x / 256 % 256) ^^^ ((x / 65536) * 2 ^ 8) := by rw [low_xor _ _ _ (by omega)]; omega
  have e2 : x / 65536 = (x / 65536 % 256) ^^^ ((x / 16777216) * 2 ^ 8) := by rw [low_xor _ _ _ (by omega)]; omega
  have e3 : x / 16777216 % 256 = x / 16777216 := by omega
  have s8 : ∀ a b c : Nat, shN 8 (a ^^^ (b ^^^ (c * 2 ^ 8))) = shN 8 (a ^^^ b) ^^^ c := fun a b c => by rw [← Nat.xor_assoc, shN_xor, shN_mul]
  have e4 : shN 32 (r ^^^ x) = shN 8 (shN 8 (shN 8 (shN 8 (r ^^^ x)))) := by rw [← shN_add, ← shN_add, ← shN_add]
  rw [e4]
  rw [show shN 8 (r ^^^ x) = shN 8 (r ^^^ (x % 256)) ^^^ (x / 256) from by rw [← s8, ← e0]]
  rw [show ∀ z, shN 8 (z ^^^ (x / 256)) = shN 8 (z ^^^ (x / 256 % 256)) ^^^ (x / 65536) from fun z => by rw [← s8, ← e1]]
  rw [show ∀ z, shN 8 (z ^^^ (x / 65536)) = shN 8 (z ^^^ (x / 65536 % 256)) ^^^ (x / 16777216) from fun z => by rw [← s8, ← e2]]
  unfold runN le4 stepN
  simp only [List.foldl_cons, List.foldl_nil]
  rw [ofNat_nat _ (by omega), ofNat_nat _ (by omega), ofNat_nat _ (by omega), ofNat_nat _ (by omega), e3]
theorem xor_not (r : Nat) : r ^^^ (4294967295 ^^^ r) = 4294967295 := by
  rw [Nat.xor_comm 4294967295, ← Nat.xor_assoc, Nat.xor_self, Nat.zero_xor]
theorem run_lt (n : Nat) (l : List UInt8) (h : n < 4294967296) : runN n l < 4294967296 := by
  induction l generalizing n with
  | nil => exact h
  | cons c l ih => exact ih _ (shN_lt 8 (Nat.xor_lt_two_pow (n := 32) h (Nat.lt_trans (UInt8.toNat_lt c) (by decide))))
/-- A check sum, on numbers. -/
def sumN (l : List UInt8) : Nat := 4294967295 ^^^ runN 4294967295 l
theorem run_sum (l : List UInt8) : runN 4294967295 (l ++ le4 (sumN l)) = shN 32 4294967295 := by
  unfold runN
  rw [List.foldl_append]
  show runN (runN 4294967295 l) _ = _
  unfold sumN
  rw [run_le4 _ _ (Nat.xor_lt_two_pow (n := 32) (by decide) (run_lt _ _ (by decide)))]
  rw [xor_not]
/-- Bytes that end with their sum do so no more where some of 32 bits side by side are turned. -/
theorem sum_told (h h' t : List UInt8) (f b : Nat) (hs : (turn (h ++ le4 (sumN h)) f b 32).2 = true) (e : (turn (h ++ le4 (sumN h)) f b 32).1 = h' ++ t) : t ≠ le4 (sumN h') := by
  intro et
  have := turn_told 4294967295 _ f b hs
  rw [e, et, run_sum, run_sum] at this
  exact this rfl
end Go.Proofs.YtkgifbnkkmeoiaaGreatDoor.CrcM
/- The program's check sum is the one on numbers. -/
namespace Go.Proofs.YtkgifbnkkmeoiaaGreatDoor
open Go.ChangeShapes Go.WideShapes Go.ChangeAt Go.RowKit
set_option linter.unusedVariables false
set_option linter.unusedSimpArgs false

theorem bits_xor_u32_nat (a b : Nat) (ha : a < 4294967296) (hb : b < 4294967296) : Go.bits .xor .u32 (a : Int) (b : Int) = ((a ^^^ b : Nat) : Int) := by
  have hx : a ^^^ b < 2 ^ 32 := Nat.xor_lt_two_pow (by omega) (by omega)
  have h1 : (BitVec.ofInt 32 (a : Int)).toNat = a := by
    rw [BitVec.ofInt_natCast, BitVec.toNat_ofNat]; exact Nat.mod_eq_of_lt (by omega)
  have h2 : (BitVec.ofInt 32 (b : Int)).toNat = b := by
    rw [BitVec.ofInt_natCast, BitVec.toNat_ofNat]; exact Nat.mod_eq_of_lt (by omega)
  show IntKind.u32.wrap ((BitVec.ofInt 32 (a : Int) ^^^ BitVec.ofInt 32 (b : Int)).toNat : Int) = _
  rw [BitVec.toNat_xor, h1, h2]
  simp only [IntKind.wrap, IntKind.bits, IntKind.signed]
  simp
  omega
theorem bits_and_u32_one (a : Nat) (ha : a < 4294967296) : Go.bits .and .u32 (a : Int) 1 = ((a % 2 : Nat) : Int) := by
  have h1 : (BitVec.ofInt 32 (a : Int)).toNat = a := by
    rw [BitVec.ofInt_natCast, BitVec.toNat_ofNat]; exact Nat.mod_eq_of_lt (by omega)
  have h2 : (BitVec.ofInt 32 (1 : Int)).toNat = 1 := by decide
  show IntKind.u32.wrap ((BitVec.ofInt 32 (a : Int) &&& BitVec.ofInt 32 (1 : Int)).toNat : Int) = _
  rw [BitVec.toNat_and, h1, h2, Nat.and_one_is_mod]
  simp only [IntKind.wrap, IntKind.bits, IntKind.signed]
  simp
  omega
theorem crcBit_nat (n : Nat) (h : n < 4294967296) : crcBit (n : Int) = ((CrcM.sh n : Nat) : Int) := by
  unfold crcBit CrcM.sh
  rw [bits_and_u32_one n h]
  have hd : (n : Int) / 2 = ((n / 2 : Nat) : Int) := by omega
  by_cases h1 : n % 2 = 1
  · rw [if_pos (by omega), if_pos h1, hd]
    exact bits_xor_u32_nat _ _ (by omega) (by decide)
  · rw [if_neg (by omega), if_neg h1, hd]
theorem crcBits_nat (k n : Nat) (h : n < 4294967296) : crcBits k (n : Int) = ((CrcM.shN k n : Nat) : Int) := by
  induction k with
  | zero => rfl
  | succ k ih => show crcBit (crcBits k n) = _; rw [ih, crcBit_nat _ (CrcM.shN_lt k h)]; rfl
theorem xor_byte_lt {n : Nat} (h : n < 4294967296) (c : UInt8) : n ^^^ c.toNat < 4294967296 := Nat.xor_lt_two_pow (n := 32) h (Nat.lt_trans (UInt8.toNat_lt c) (by decide))
theorem crcByte_nat (n : Nat) (h : n < 4294967296) (c : UInt8) : crcByte (n : Int) c = ((CrcM.stepN n c : Nat) : Int) := by
  unfold crcByte CrcM.stepN
  have hx : Go.bits .xor .u32 (n : Int) ((c.toNat : Nat) : Int) = ((n ^^^ c.toNat : Nat) : Int) := bits_xor_u32_nat _ _ h (Nat.lt_trans (UInt8.toNat_lt c) (by decide))
  rw [show (c.toNat : Int) = ((c.toNat : Nat) : Int) from rfl, hx, crcBits_nat _ _ (xor_byte_lt h c)]
theorem crcRun_nat (l : List UInt8) : ∀ n : Nat, n < 4294967296 → crcRun (n : Int) l = ((CrcM.runN n l : Nat) : Int) := by
  induction l with
  | nil => intro n h; rfl
  | cons c l ih =>
    intro n h
    show crcRun (crcByte n c) l = _
    rw [crcByte_nat n h c]
    exact ih _ (CrcM.shN_lt 8 (xor_byte_lt h c))
theorem crcNot_nat (n : Nat) (h : n < 4294967296) : crcNot (n : Int) = ((4294967295 ^^^ n : Nat) : Int) := bits_xor_u32_nat 4294967295 n (by decide) h
theorem crcSum_nat (l : List UInt8) : crcSum l = ((CrcM.sumN l : Nat) : Int) := by
  unfold crcSum crcMore CrcM.sumN
  rw [show crcNot 0 = ((4294967295 : Nat) : Int) from crcNot_nat 0 (by decide), crcRun_nat l _ (by decide), crcNot_nat _ (CrcM.run_lt _ _ (by decide))]
theorem crcSum_toNat (l : List UInt8) : (crcSum l).toNat = CrcM.sumN l := by rw [crcSum_nat]; rfl
theorem not_sub (n : Nat) (h : n < 4294967296) : ((4294967295 ^^^ n : Nat) : Int) = 4294967295 - (n : Int) := by
  have e : (4294967295 : Nat) ^^^ n = 4294967295 - n := by
    apply Nat.eq_of_testBit_eq
    intro i
    rw [show (4294967295 : Nat) - n = 2 ^ 32 - (n + 1) by omega, Nat.testBit_two_pow_sub_succ (by omega), Nat.testBit_xor, show (4294967295 : Nat) = 2 ^ 32 - 1 by decide, Nat.testBit_two_pow_sub_one]
    by_cases hi : i < 32
    · simp [hi]
    · have h2 : n < 2 ^ i := Nat.lt_of_lt_of_le h (show 2 ^ 32 ≤ 2 ^ i from Nat.pow_le_pow_right (by omega) (by omega))
      simp [hi, Nat.testBit_lt_two_pow h2]
  rw [e]
  omega
end Go.Proofs.YtkgifbnkkmeoiaaGreatDoor
