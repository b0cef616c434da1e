/- Plain laws on numbers as bytes: what is put is got again, a part of it is too short, no other bytes say the same number, lesser numbers have no more bytes. -/
import Derived.Test.YtkgifbnkkmeoiaaWireMath
namespace Go.Proofs.Ytkgifbnkkmeoiaa

theorem ofNat_toNat (u : Nat) (h : u < 256) : (UInt8.ofNat u).toNat = u := by
  rw [UInt8.toNat_ofNat']; omega
theorem pow7 (i : Nat) : 2 ^ (7 * (i + 1)) = 128 * 2 ^ (7 * i) := by
  rw [Nat.mul_add, Nat.pow_add, Nat.mul_comm]
theorem split7 (x u i : Nat) : x + u % 128 * 2 ^ (7 * i) + u / 128 * 2 ^ (7 * (i + 1)) = x + u * 2 ^ (7 * i) := by
  have e : u * 2 ^ (7 * i) = u % 128 * 2 ^ (7 * i) + u / 128 * (128 * 2 ^ (7 * i)) := by
    rw [← Nat.mul_assoc, ← Nat.add_mul]; congr 1; omega
  rw [pow7, e]; omega
theorem next7 {u i : Nat} (h : u * 2 ^ (7 * i) < 18446744073709551616) : u / 128 * 2 ^ (7 * (i + 1)) < 18446744073709551616 := by
  have e : u * 2 ^ (7 * i) = u % 128 * 2 ^ (7 * i) + u / 128 * (128 * 2 ^ (7 * i)) := by
    rw [← Nat.mul_assoc, ← Nat.add_mul]; congr 1; omega
  rw [pow7]; omega
theorem nine_small {u i : Nat} (h : u * 2 ^ (7 * i) < 18446744073709551616) (hi : i = 9) : u ≤ 1 := by
  subst hi
  have : (2 : Nat) ^ (7 * 9) = 9223372036854775808 := by decide
  rw [this] at h; omega
theorem getF_putF (f u i x : Nat) (rest : List UInt8) (hf : f + i = 9) (hb : u * 2 ^ (7 * i) < 18446744073709551616) (h0 : 0 < i → 0 < u) :
    getF (putF f u ++ rest) i x = (numOf (x + u * 2 ^ (7 * i)), ((i + (putF f u).length : Nat) : Int), 0) := by
  induction f generalizing u i x with
  | zero =>
    have h1 := nine_small hb (by omega)
    have h2 := h0 (by omega)
    simp only [putF, List.cons_append, List.nil_append, getF, ofNat_toNat u (by omega)]
    rw [if_neg (by omega), if_neg (by omega), if_neg (by omega)]
    simp
  | succ f ih =>
    simp only [putF]
    by_cases hu : u < 128
    · rw [if_pos hu]
      simp only [List.cons_append, List.nil_append, getF, ofNat_toNat u (by omega)]
      rw [if_neg (by omega), if_neg (by omega), if_neg (by omega)]
      simp
    · rw [if_neg hu]
      simp only [List.cons_append, getF, ofNat_toNat (u % 128 + 128) (by omega)]
      rw [if_neg (by omega), if_pos (by omega), ih (u / 128) (i + 1) _ (by omega) (next7 hb) (by omega)]
      rw [show (u % 128 + 128) % 128 = u % 128 by omega, split7]
      simp; omega
theorem getF_cut (f u i x k : Nat) (hf : f + i = 9) (hb : u * 2 ^ (7 * i) < 18446744073709551616) (h0 : 0 < i → 0 < u) (hk : k < (putF f u).length) :
    getF ((putF f u).take k) i x = (0, 0, 3) := by
  induction f generalizing u i x k with
  | zero =>
    simp only [putF, List.length_singleton] at hk
    obtain rfl : k = 0 := by omega
    simp [getF]
  | succ f ih =>
    cases k with
    | zero => simp [getF]
    | succ k =>
      simp only [putF] at hk ⊢
      by_cases hu : u < 128
      · rw [if_pos hu] at hk; simp at hk
      · rw [if_neg hu] at hk ⊢
        simp only [List.take_succ_cons, getF, ofNat_toNat (u % 128 + 128) (by omega)]
        rw [if_neg (by omega), if_pos (by omega)]
        exact ih (u / 128) (i + 1) _ k (by omega) (next7 hb) (by omega) (by simpa using hk)
theorem numOf_numU (n : Int) : numOf (numU n) = n := by
  unfold numOf numU; split <;> split <;> omega
theorem numU_numOf (u : Nat) : numU (numOf u) = u := by
  unfold numOf numU; split <;> split <;> omega
theorem numOf_range (u : Nat) (h : u < 18446744073709551616) : -9223372036854775808 ≤ numOf u ∧ numOf u ≤ 9223372036854775807 := by
  unfold numOf; split <;> omega
/-- What is put is got again. -/
theorem getInt_putInt (n : Int) (h1 : -9223372036854775808 ≤ n) (h2 : n ≤ 9223372036854775807) (rest : List UInt8) :
    getInt (putInt n ++ rest) = (n, ((putInt n).length : Int), 0) := by
  have := getF_putF 9 (numU n) 0 0 rest rfl (by have := numU_lt n h1 h2; simpa using this) (by omega)
  simp only [Nat.mul_zero, Nat.pow_zero, Nat.mul_one, Nat.zero_add, numOf_numU] at this
  exact this
/-- A part is too short. -/
theorem getInt_cut (n : Int) (h1 : -9223372036854775808 ≤ n) (h2 : n ≤ 9223372036854775807) (k : Nat) (hk : k < (putInt n).length) :
    getInt ((putInt n).take k) = (0, 0, 3) :=
  getF_cut 9 (numU n) 0 0 k rfl (by have := numU_lt n h1 h2; simpa using this) (by omega) hk
theorem toNat_eq_ofNat (c : UInt8) (u : Nat) (h : c.toNat = u) : c = UInt8.ofNat u := by
  rw [← h, UInt8.ofNat_toNat]
theorem getF_ok (l : List UInt8) (i x : Nat) (n k : Int) (hi : i ≤ 9) (h : getF l i x = (n, k, 0)) :
    ∃ u m : Nat, k = ((i + m : Nat) : Int) ∧ 0 < m ∧ m ≤ l.length ∧ l.take m = putF (9 - i) u ∧ n = numOf (x + u * 2 ^ (7 * i)) ∧ (0 < i → 0 < u) ∧ (i = 9 → u ≤ 1) ∧ u < 128 ^ m := by
  induction l generalizing i x with
  | nil => simp [getF] at h
  | cons c l ih =>
    have hc : c.toNat < 256 := UInt8.toNat_lt _
    simp only [getF] at h
    by_cases h9 : i = 9 ∧ 1 < c.toNat
    · rw [if_pos h9] at h; simp at h
    · rw [if_neg h9] at h
      by_cases h128 : 128 ≤ c.toNat
      · rw [if_pos h128] at h
        obtain ⟨u, m, h3, h4, h5, h6, h7, h8, h10, h11⟩ := ih (i + 1) _ (by omega) h
        have hu := h8 (by omega)
        refine ⟨c.toNat % 128 + 128 * u, m + 1, by rw [h3]; omega, by omega, by simp; omega, ?_, ?_, by omega, by omega, ?_⟩
        · rw [List.take_succ_cons, h6, show 9 - i = (9 - (i + 1)) + 1 by omega, putF, if_neg (by omega)]
          congr 1
          · apply toNat_eq_ofNat; omega
          · congr 1; omega
        · rw [h7]; congr 1
          have := split7 x (c.toNat % 128 + 128 * u) i
          rw [show (c.toNat % 128 + 128 * u) % 128 = c.toNat % 128 by omega, show (c.toNat % 128 + 128 * u) / 128 = u by omega] at this
          exact this
        · rw [Nat.pow_succ]; omega
      · rw [if_neg h128] at h
        by_cases hz : c.toNat = 0 ∧ 0 < i
        · rw [if_pos hz] at h; simp at h
        · rw [if_neg hz] at h
          injection h with h1 h2
          injection h2 with h2 _
          refine ⟨c.toNat, 1, by rw [← h2]; omega, by omega, by simp, ?_, h1.symm, by omega, by omega, by omega⟩
          rw [List.take_succ_cons, List.take_zero]
          have e : putF (9 - i) c.toNat = [UInt8.ofNat c.toNat] := by
            cases 9 - i <;> simp [putF]
            omega
          rw [e, UInt8.ofNat_toNat]
/-- Bytes that begin with a number begin with just what is put for it. -/
theorem getInt_ok (l : List UInt8) (n k : Int) (h : getInt l = (n, k, 0)) : ∃ m : Nat, k = (m : Int) ∧ 0 < m ∧ m ≤ l.length ∧ l.take m = putInt n := by
  obtain ⟨u, m, h1, h2, h3, h4, h5, _⟩ := getF_ok l 0 0 n k (by omega) h
  refine ⟨m, by rw [h1]; simp, h2, h3, ?_⟩
  rw [h4, h5]
  simp only [Nat.mul_zero, Nat.pow_zero, Nat.mul_one, Nat.zero_add]
  unfold putInt; rw [numU_numOf]
theorem putF_mono (f u v : Nat) (h : u / 2 ≤ v / 2) : (putF f u).length ≤ (putF f v).length := by
  induction f generalizing u v with
  | zero => simp [putF]
  | succ f ih =>
    simp only [putF]
    by_cases hv : v < 128
    · rw [if_pos hv, if_pos (by omega : u < 128)]; simp
    · rw [if_neg hv]
      by_cases hu : u < 128
      · rw [if_pos hu]; have := putF_pos f (v / 128); simp
      · rw [if_neg hu]; simp only [List.length_cons]; have := ih (u / 128) (v / 128) (by omega); omega
/-- A number of lesser size has no more bytes. -/
theorem putInt_mono (a b : Int) (h : (if a < 0 then -(a + 1) else a) ≤ (if b < 0 then -(b + 1) else b)) : (putInt a).length ≤ (putInt b).length := by
  apply putF_mono
  unfold numU
  by_cases ha : a < 0 <;> by_cases hb : b < 0 <;> simp only [ha, hb, if_true, if_false] at h ⊢ <;> omega
/-- The bytes, by their places: T is the last one's. -/
def refF : Nat → Nat → List UInt8
  | 0, u => [UInt8.ofNat u]
  | T + 1, u => UInt8.ofNat (u % 128 + 128) :: refF T (u / 128)
theorem putF_ref (T f u : Nat) (hT : T ≤ f) (h1 : T = 0 ∨ 128 ^ T ≤ u) (h2 : u < 128 ^ (T + 1)) : putF f u = refF T u := by
  induction T generalizing f u with
  | zero => cases f <;> simp [putF, refF]; intro h; omega
  | succ T ih =>
    obtain ⟨f, rfl⟩ : ∃ g, f = g + 1 := ⟨f - 1, by omega⟩
    have hp : 0 < 128 ^ T := Nat.pow_pos (by omega)
    rw [Nat.pow_succ] at h1
    have h128 : ¬ u < 128 := by omega
    rw [Nat.pow_succ, Nat.mul_comm] at h2
    simp only [putF, refF, if_neg h128]
    rw [ih f (u / 128) (by omega) (by right; omega) (Nat.div_lt_of_lt_mul h2)]
end Go.Proofs.Ytkgifbnkkmeoiaa
