/- Plain facts on numbers as bytes, seven bits a byte. -/
namespace Go.Proofs.Ytkgifbnkkmeoiaa

/-- The number u of a number. -/
def numU (n : Int) : Nat := if n < 0 then (-2 * n - 1).toNat else (2 * n).toNat
/-- u in groups of seven bits, the lowest first; every byte but the last one bears 128. -/
def putF : Nat → Nat → List UInt8
  | 0, u => [UInt8.ofNat u]
  | f + 1, u => if u < 128 then [UInt8.ofNat u] else UInt8.ofNat (u % 128 + 128) :: putF f (u / 128)
def putInt (n : Int) : List UInt8 := putF 9 (numU n)

theorem numU_lt (n : Int) (h1 : -9223372036854775808 ≤ n) (h2 : n ≤ 9223372036854775807) : numU n < 18446744073709551616 := by
  unfold numU; split <;> omega
theorem putF_pos (f u : Nat) : 0 < (putF f u).length := by
  cases f <;> simp [putF]
  split <;> simp
theorem putF_le (f u : Nat) : (putF f u).length ≤ f + 1 := by
  induction f generalizing u with
  | zero => simp [putF]
  | succ f ih =>
    simp only [putF]
    split
    · simp
    · simp only [List.length_cons]; have := ih (u / 128); omega
theorem putInt_le (n : Int) : (putInt n).length ≤ 10 := putF_le 9 _
theorem putInt_pos (n : Int) : 0 < (putInt n).length := putF_pos 9 _

/-- The number of a u. -/
def numOf (u : Nat) : Int := if u % 2 = 1 then -((u / 2 : Nat) : Int) - 1 else ((u / 2 : Nat) : Int)
/-- What is got of bytes of which i are past, and were u. -/
def getF : List UInt8 → Nat → Nat → Int × Int × Int
  | [], _, _ => (0, 0, 3)
  | c :: l, i, u =>
    if i = 9 ∧ 1 < c.toNat then (0, 0, 2)
    else if 128 ≤ c.toNat then getF l (i + 1) (u + c.toNat % 128 * 2 ^ (7 * i))
    else if c.toNat = 0 ∧ 0 < i then (0, 0, 2)
    else (numOf (u + c.toNat * 2 ^ (7 * i)), (i : Int) + 1, 0)
def getInt (l : List UInt8) : Int × Int × Int := getF l 0 0
end Go.Proofs.Ytkgifbnkkmeoiaa
