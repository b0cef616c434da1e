/- Laws behind wire's get and the reference's put. -/
import Derived.Test.YtkgifbnkkmeoiaaWirePutI
namespace Go.Proofs.Ytkgifbnkkmeoiaa
open Go.ChangeShapes Go.WideShapes Go.ChangeAt Go.RowKit
set_option linter.unusedVariables false

theorem and127 : ∀ x : Fin 256, (x.val &&& 127) = x.val % 128 := by decide +kernel
theorem u8_and127 (c : Nat) (h : c < 256) : Go.bits .and .u8 (c : Int) 127 = ((c % 128 : Nat) : Int) := by
  show IntKind.u8.wrap ((BitVec.ofInt 8 (c : Int) &&& BitVec.ofInt 8 127).toNat : Int) = _
  have e1 : (BitVec.ofInt 8 (c : Int)).toNat = c := by rw [BitVec.ofInt_natCast, BitVec.toNat_ofNat]; omega
  have e2 : (BitVec.ofInt 8 127).toNat = 127 := rfl
  rw [BitVec.toNat_and, e1, e2, IntKind.wrap_u8]
  have := and127 ⟨c, h⟩
  simp only at this
  rw [this]
  omega
theorem u64_or_shift (x a i : Nat) (hx : x < 2 ^ i) (hs : x + a * 2 ^ i < 18446744073709551616) : Go.bits .or .u64 (x : Int) (IntKind.u64.wrap (IntKind.u64.wrap (a : Int) * 2 ^ i)) = ((x + a * 2 ^ i : Nat) : Int) := by
  have hpos : 0 < 2 ^ i := Nat.pow_pos (by omega)
  have h1 : a ≤ a * 2 ^ i := Nat.le_mul_of_pos_right _ hpos
  have w1 : IntKind.u64.wrap (a : Int) = a := by rw [IntKind.wrap_u64]; omega
  have e0 : ((a * 2 ^ i : Nat) : Int) = (a : Int) * 2 ^ i := by simp
  have w2 : IntKind.u64.wrap ((a : Int) * 2 ^ i) = ((a * 2 ^ i : Nat) : Int) := by rw [← e0, IntKind.wrap_u64]; omega
  rw [w1, w2]
  show IntKind.u64.wrap ((BitVec.ofInt 64 (x : Int) ||| BitVec.ofInt 64 ((a * 2 ^ i : Nat) : Int)).toNat : Int) = _
  have e1 : (BitVec.ofInt 64 (x : Int)).toNat = x := by rw [BitVec.ofInt_natCast, BitVec.toNat_ofNat]; omega
  have e2 : (BitVec.ofInt 64 ((a * 2 ^ i : Nat) : Int)).toNat = a * 2 ^ i := by rw [BitVec.ofInt_natCast, BitVec.toNat_ofNat]; omega
  rw [BitVec.toNat_or, e1, e2, Nat.or_comm, Nat.mul_comm a, ← Nat.two_pow_add_eq_or_of_lt hx, IntKind.wrap_u64]
  rw [Nat.mul_comm a] at hs
  omega
theorem i64_not (h : Int) (h1 : -9223372036854775808 ≤ h) (h2 : h ≤ 9223372036854775807) : Go.bits .xor .i64 (-1) h = -h - 1 := by
  show IntKind.i64.wrap ((BitVec.ofInt 64 (-1) ^^^ BitVec.ofInt 64 h).toNat : Int) = _
  have e1 : BitVec.ofInt 64 (-1) = BitVec.allOnes 64 := by decide
  rw [e1, BitVec.allOnes_xor, BitVec.toNat_not, BitVec.toNat_ofInt, IntKind.wrap_i64]
  omega
/-- What the code reckons of a u. -/
theorem u_parts (y : Nat) (hy : y < 18446744073709551616) : Go.bits .and .u64 (y : Int) 1 = ((y % 2 : Nat) : Int) ∧ wrap64 ((y : Int) / 2) = ((y / 2 : Nat) : Int) ∧ Go.bits .xor .i64 (-1) ((y / 2 : Nat) : Int) = -((y / 2 : Nat) : Int) - 1 := by
  refine ⟨?_, ?_, i64_not _ (by omega) (by omega)⟩
  · rw [and_one_u64 _ (by omega) (by omega)]; omega
  · rw [wrap64_eq, IntKind.wrap_i64]; omega
def Got (r : Int × Int × Int) (w : World) (e : Ending) (w' : World) : Prop := e = .returned (.tuple #[.int .i64 r.1, .int .i64 r.2.1, .int .i64 r.2.2]) ∧ w = w'
def GetRelI (l : List UInt8) (u i : Value) : Prop := ∃ k x : Nat, k ≤ l.length ∧ k ≤ 9 ∧ i = .int .i64 k ∧ u = .int .u64 x ∧ x < 2 ^ (7 * k) ∧ getInt l = getF (l.drop k) k x
theorem Sl.byte {w : World} {B : Nat} {A : Option Addr} {l : List UInt8} {k : Nat} (h : 0 < (bvals l).length → ∃ b off, A = some ⟨b, off, none⟩ ∧ b < B ∧ ∀ j u, (bvals l)[j]? = some u → w.cell? ⟨b, off + j, none⟩ = some u) (hk : k < l.length) :
    ∃ b off, A = some ⟨b, off, none⟩ ∧ b < B ∧ w.cell? ⟨b, off + k, none⟩ = some (.int .u8 (l[k].toNat : Int)) := by
  obtain ⟨b, off, e, hb, hc⟩ := h (by rw [bvals_len]; omega)
  exact ⟨b, off, e, hb, hc k _ (by simp [bvals, List.getElem?_eq_getElem hk])⟩
theorem bvals_take (l : List UInt8) (m : Nat) : bvals (l.take m) = (bvals l).take m := by simp [bvals, List.map_take]
end Go.Proofs.Ytkgifbnkkmeoiaa
