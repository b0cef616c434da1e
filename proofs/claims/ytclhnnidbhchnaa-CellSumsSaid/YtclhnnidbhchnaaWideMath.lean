/- Plain facts on the bits of a number: bit k of z, sums bit by bit, and how a row of bits gives its number back. -/
namespace Go.Proofs.Ytclhnnidbhchnaa

/-- Bit k of a number, below 0 as two's complement has it. -/
def bit (z : Int) (k : Nat) : Int := (z / 2 ^ k) % 2
def bits (z : Int) (n : Nat) : List Int := (List.range n).map (bit z)

theorem bits_length (z : Int) (n : Nat) : (bits z n).length = n := by simp [bits]
theorem bits_succ (z : Int) (n : Nat) : bits z (n + 1) = bits z n ++ [bit z n] := by simp [bits, List.range_succ]
theorem bits_get (z : Int) (n k : Nat) (h : k < n) : (bits z n)[k]? = some (bit z k) := by
  simp [bits, List.getElem?_map, List.getElem?_range h]
theorem bit_01 (z : Int) (k : Nat) : 0 ≤ bit z k ∧ bit z k ≤ 1 := by unfold bit; omega
theorem pow_pos' (k : Nat) : (0 : Int) < 2 ^ k := Int.pow_pos (by omega)
theorem div_succ (z : Int) (k : Nat) : z / 2 ^ (k + 1) = z / 2 ^ k / 2 := by
  rw [Int.pow_succ, Int.ediv_ediv_of_nonneg (by have := pow_pos' k; omega)]
theorem div_bit (z : Int) (k : Nat) : 2 * (z / 2 ^ (k + 1)) + bit z k = z / 2 ^ k := by
  rw [div_succ]; unfold bit; omega
/-- The carry of two numbers' sum ahead of bit k. -/
def carry (x y : Int) (k : Nat) : Int := (x % 2 ^ k + y % 2 ^ k) / 2 ^ k
theorem split_pow (p x : Int) (hp : 0 < p) : ∃ q r, x = p * q + r ∧ 0 ≤ r ∧ r < p ∧ x / p = q ∧ x % p = r :=
  ⟨x / p, x % p, (Int.mul_ediv_add_emod x p).symm, Int.emod_nonneg _ (by omega), Int.emod_lt_of_pos _ hp, rfl, rfl⟩
theorem add_div_pow (x y : Int) (k : Nat) : (x + y) / 2 ^ k = x / 2 ^ k + y / 2 ^ k + carry x y k := by
  unfold carry
  have hp := pow_pos' k
  generalize (2 : Int) ^ k = p at hp
  obtain ⟨qx, rx, hx, hx0, hx1, ex, ex'⟩ := split_pow p x hp
  obtain ⟨qy, ry, hy, hy0, hy1, ey, ey'⟩ := split_pow p y hp
  rw [ex, ex', ey, ey', hx, hy]
  rw [show p * qx + rx + (p * qy + ry) = (rx + ry) + p * (qx + qy) by rw [Int.mul_add]; omega]
  rw [Int.add_mul_ediv_left _ _ (by omega)]
  omega
theorem carry_01 (x y : Int) (k : Nat) : 0 ≤ carry x y k ∧ carry x y k ≤ 1 := by
  unfold carry
  have hp := pow_pos' k
  generalize (2 : Int) ^ k = p at hp
  obtain ⟨qx, rx, hx, hx0, hx1, ex, ex'⟩ := split_pow p x hp
  obtain ⟨qy, ry, hy, hy0, hy1, ey, ey'⟩ := split_pow p y hp
  rw [ex', ey']
  constructor
  · exact Int.ediv_nonneg (by omega) (by omega)
  · have : (rx + ry) / p < 2 := Int.ediv_lt_of_lt_mul hp (by omega)
    omega
theorem carry_zero (x y : Int) : carry x y 0 = 0 := by simp [carry, Int.emod_one]
theorem add_bit (x y : Int) (k : Nat) : bit (x + y) k = (bit x k + bit y k + carry x y k) % 2 := by
  unfold bit; rw [add_div_pow]; omega
theorem carry_succ (x y : Int) (k : Nat) : carry x y (k + 1) = (bit x k + bit y k + carry x y k) / 2 := by
  have h1 := add_div_pow x y (k + 1)
  have h2 := add_div_pow x y k
  rw [div_succ (x + y), div_succ x, div_succ y, h2] at h1
  unfold bit
  omega
theorem bits_take (z : Int) (n m : Nat) (h : m ≤ n) : (bits z n).take m = bits z m := by
  simp [bits, ← List.map_take, List.take_range, Nat.min_eq_left h]
theorem bit_drop (z : Int) (m k : Nat) : bit z (m + k) = bit (z / 2 ^ m) k := by
  unfold bit
  rw [Int.ediv_ediv_of_nonneg (by have := pow_pos' m; omega), Int.pow_add]
theorem bits_drop (z : Int) (n m : Nat) : (bits z n).drop m = bits (z / 2 ^ m) (n - m) := by
  apply List.ext_getElem?
  intro i
  rw [List.getElem?_drop]
  by_cases h : m + i < n
  · rw [bits_get _ _ _ h, bits_get _ _ _ (by omega), bit_drop]
  · rw [List.getElem?_eq_none (by rw [bits_length]; omega), List.getElem?_eq_none (by rw [bits_length]; omega)]
theorem bit_mod (z : Int) (n k : Nat) (h : k < n) : bit (z % 2 ^ n) k = bit z k := by
  obtain ⟨d, rfl⟩ : ∃ d, n = k + 1 + d := ⟨n - k - 1, by omega⟩
  unfold bit
  have hz := Int.mul_ediv_add_emod z (2 ^ (k + 1 + d))
  have hp := pow_pos' k
  have e : z / 2 ^ k = (z % 2 ^ (k + 1 + d)) / 2 ^ k + 2 * (2 ^ d * (z / 2 ^ (k + 1 + d))) := by
    conv => lhs; rw [← hz]
    rw [show (2 : Int) ^ (k + 1 + d) * (z / 2 ^ (k + 1 + d)) + z % 2 ^ (k + 1 + d) = z % 2 ^ (k + 1 + d) + 2 ^ k * (2 * (2 ^ d * (z / 2 ^ (k + 1 + d)))) by
      rw [Int.pow_add, Int.pow_add]; simp only [Int.pow_one]; rw [Int.add_comm]; congr 1; simp only [Int.mul_assoc]]
    rw [Int.add_mul_ediv_left _ _ (by omega)]
  rw [e]; omega
theorem bits_mod (z : Int) (n : Nat) : bits (z % 2 ^ n) n = bits z n := by
  unfold bits
  apply List.map_congr_left
  intro k hk
  exact bit_mod z n k (by simpa using hk)
theorem bits_append (hi lo : Int) (m n : Nat) : bits lo m ++ bits hi n = bits (hi * 2 ^ m + lo % 2 ^ m) (m + n) := by
  have hp := pow_pos' m
  have h0 := Int.emod_nonneg lo (show (2 : Int) ^ m ≠ 0 by omega)
  have h1 := Int.emod_lt_of_pos lo hp
  rw [← List.take_append_drop m (bits (hi * 2 ^ m + lo % 2 ^ m) (m + n)), bits_take _ _ _ (by omega), bits_drop]
  congr 1
  · rw [← bits_mod lo m, ← bits_mod (hi * 2 ^ m + lo % 2 ^ m) m, Int.add_comm, Int.add_mul_emod_self_right, Int.emod_emod]
    
  · rw [show m + n - m = n by omega, Int.add_comm, Int.add_mul_ediv_right _ _ (by omega), Int.ediv_eq_zero_of_lt h0 h1, Int.zero_add]
end Go.Proofs.Ytclhnnidbhchnaa
