/- 2 texts of this claim, in build order. -/
import Derived.Test.YtkdpclllenbgfaaDoorPdjbbjidg
/- Laws behind wire's get and the reference's put. -/
namespace Go.Proofs.YtkdpclllenbgfaaDoor
open Go.ChangeShapes Go.WideShapes Go.ChangeAt Go.RowKit
set_option linter.unusedVariables false

theorem and127 : ∀ x : Fin 256, (x.val &&& 127) = x.val % 128 := by decide +kernel
theorem u8_and127 (c : Nat) (h : c < 256) : Go.bits .and .u8 (c : Int) 127 = ((c % 128 : Nat) : Int) := by
  show IntKind.u8.wrap ((BitVec.ofInt 8 (c : Int) &&& BitVec.ofInt 8 127).toNat : Int) = _
  have e1 : (BitVec.ofInt 8 (c : Int)).toNat = c := by rw [BitVec.ofInt_natCast, BitVec.toNat_ofNat]; omega
  have e2 : (BitVec.ofInt 8 127).toNat = 127 := rfl
  rw [BitVec.toNat_and, e1, e2, IntKind.wrap_u8]
  have := and127 ⟨c, h⟩
  simp only at this
  rw [this]
  omega
theorem u64_or_shift (x a i : Nat) (hx : x < 2 ^ i) (hs : x + a * 2 ^ i < 18446744073709551616) : Go.bits .or .u64 (x : Int) (IntKind.u64.wrap (IntKind.u64.wrap (a : Int) * 2 ^ i)) = ((x + a * 2 ^ i : Nat) : Int) := by
  have hpos : 0 < 2 ^ i := Nat.pow_pos (by omega)
  have h1 : a ≤ a * 2 ^ i := Nat.le_mul_of_pos_right _ hpos
  have w1 : IntKind.u64.wrap (a : Int) = a := by rw [IntKind.wrap_u64]; omega
  have e0 : ((a * 2 ^ i : Nat) : Int) = (a : Int) * 2 ^ i := by simp
  have w2 : IntKind.u64.wrap ((a : Int) * 2 ^ i) = ((a * 2 ^ i : Nat) : Int) := by rw [← e0, IntKind.wrap_u64]; omega
  rw [w1, w2]
  show IntKind.u64.wrap ((BitVec.ofInt 64 (x : Int) ||| BitVec.ofInt 64 ((a * 2 ^ i : Nat) : Int)).toNat : Int) = _
  have e1 : (BitVec.ofInt 64 (x : Int)).toNat = x := by rw [BitVec.ofInt_natCast, BitVec.toNat_ofNat]; omega
  have e2 : (BitVec.ofInt 64 ((a * 2 ^ i : Nat) : Int)).toNat = a * 2 ^ i := by rw [BitVec.ofInt_natCast, BitVec.toNat_ofNat]; omega
  rw [BitVec.toNat_or, e1, e2, Nat.or_comm, Nat.mul_comm a, ← Nat.two_pow_add_eq_or_of_lt hx, IntKind.wrap_u64]
  rw [Nat.mul_comm a] at hs
  omega
theorem i64_not (h : Int) (h1 : -9223372036854775808 ≤ h) (h2 : h ≤ 9223372036854775807) : Go.bits .xor .i64 (-1) h = -h - 1 := by
  show IntKind.i64.wrap ((BitVec.ofInt 64 (-1) ^^^ BitVec.ofInt 64 h).toNat : Int) = _
  have e1 : BitVec.ofInt 64 (-1) = BitVec.allOnes 64 := by decide
  rw [e1, BitVec.allOnes_xor, BitVec.toNat_not, BitVec.toNat_ofInt, IntKind.wrap_i64]
  omega
/-- What the code reckons of a u. -/
theorem u_parts (y : Nat) (hy : y < 18446744073709551616) : Go.bits .and .u64 (y : Int) 1 = ((y % 2 : Nat) : Int) ∧ wrap64 ((y : Int) / 2) = ((y / 2 : Nat) : Int) ∧ Go.bits .xor .i64 (-1) ((y / 2 : Nat) : Int) = -((y / 2 : Nat) : Int) - 1 := by
  refine ⟨?_, ?_, i64_not _ (by omega) (by omega)⟩
  · rw [and_one_u64 _ (by omega) (by omega)]; omega
  · rw [wrap64_eq, IntKind.wrap_i64]; omega
def Got (r : Int × Int × Int) (w : World) (e : Ending) (w' : World) : Prop := e = .returned (.tuple #[.int .i64 r.1, .int .i64 r.2.1, .int .i64 r.2.2]) ∧ w = w'
def GetRel (l : List UInt8) (u i : Value) : Prop := ∃ k x : Nat, k ≤ l.length ∧ k ≤ 9 ∧ i = .int .i64 k ∧ u = .int .u64 x ∧ x < 2 ^ (7 * k) ∧ getInt l = getF (l.drop k) k x
theorem Sl.byte {w : World} {B : Nat} {A : Option Addr} {l : List UInt8} {k : Nat} (h : 0 < (bvals l).length → ∃ b off, A = some ⟨b, off, none⟩ ∧ b < B ∧ ∀ j u, (bvals l)[j]? = some u → w.cell? ⟨b, off + j, none⟩ = some u) (hk : k < l.length) :
    ∃ b off, A = some ⟨b, off, none⟩ ∧ b < B ∧ w.cell? ⟨b, off + k, none⟩ = some (.int .u8 (l[k].toNat : Int)) := by
  obtain ⟨b, off, e, hb, hc⟩ := h (by rw [bvals_len]; omega)
  exact ⟨b, off, e, hb, hc k _ (by simp [bvals, List.getElem?_eq_getElem hk])⟩
theorem bvals_take (l : List UInt8) (m : Nat) : bvals (l.take m) = (bvals l).take m := by simp [bvals, List.map_take]
end Go.Proofs.YtkdpclllenbgfaaDoor
/- Contract of wire.GetInt. -/
namespace Go.Proofs.YtkdpclllenbgfaaDoor
open Go.ChangeShapes Go.WideShapes Go.ChangeAt Go.RowKit
set_option linter.unusedVariables false

set_option maxRecDepth 100000 in
set_option maxHeartbeats 400000 in
theorem getInt_any (v : Value) (l : List UInt8) (w : World) (hv : Sl w w.heap.size v (bvals l)) (hl : l.length ≤ 140737488355328) :
    Calls Tryd.prog 41 #[v] w (Got (getInt l) w) := by
  obtain ⟨A, c, rfl, hc1, hc2, hA⟩ := hv
  simp only [bvals_len] at hc1 ⊢
  have HA := hid hA
  clear hA
  go_enter Tryd.func41, Tryd.ntmps41
  go_wp2
  go_loop [5, 11] (fun u i => GetRel l u i) (fun _ i => l.length - (intOf i).toNat)
  case atStart => exact ⟨0, 0, by omega, by omega, rfl, rfl, by omega, rfl⟩
  case round =>
    obtain ⟨k, x, hk, hk9, rfl, rfl, hx, hg⟩ := hrel
    have HX := hid hx; have HG := hid hg
    clear hx hg
    by_cases hlt : k < l.length
    · obtain ⟨b, off, rfl, hbl, hcell⟩ := Sl.byte HA.out hlt
      have hcu : l[k].toNat < 256 := UInt8.toNat_lt _
      have hd : l.drop k = l[k] :: l.drop (k + 1) := List.drop_eq_getElem_cons hlt
      generalize l[k] = ch at *
      generalize hcn : ch.toNat = cn at *
      have hfit : (k < 9 ∨ cn ≤ 1) → x + cn % 128 * 2 ^ (7 * k) < 18446744073709551616 ∧ (k < 9 → x + cn % 128 * 2 ^ (7 * k) < 2 ^ (7 * (k + 1))) := by
        intro hor
        have hx := HX.out
        have hm : cn % 128 < 128 := Nat.mod_lt _ (by omega)
        have hp : 2 ^ (7 * (k + 1)) = 2 ^ (7 * k) * 128 := by rw [Nat.mul_add, Nat.pow_add]
        have h1 : cn % 128 * 2 ^ (7 * k) ≤ 127 * 2 ^ (7 * k) := Nat.mul_le_mul_right _ (by omega)
        have h2 : x + cn % 128 * 2 ^ (7 * k) < 2 ^ (7 * (k + 1)) := by rw [hp]; omega
        refine ⟨?_, fun _ => h2⟩
        rcases hor with h | h
        · have h3 : 2 ^ (7 * (k + 1)) ≤ 2 ^ 63 := Nat.pow_le_pow_right (by omega) (by omega)
          omega
        · have h4 : 2 ^ (7 * k) ≤ 2 ^ 63 := Nat.pow_le_pow_right (by omega) (by omega)
          have h5 : cn % 128 * 2 ^ (7 * k) ≤ 1 * 2 ^ (7 * k) := Nat.mul_le_mul_right _ (by omega)
          omega
      have hor : (k < 9 ∨ cn ≤ 1) → Go.bits .or .u64 (x : Int) (IntKind.u64.wrap (IntKind.u64.wrap (Go.bits .and .u8 (cn : Int) 127) * 2 ^ (7 * k))) = ((x + cn % 128 * 2 ^ (7 * k) : Nat) : Int) := fun h => by
        rw [u8_and127 cn hcu]
        exact u64_or_shift x (cn % 128) (7 * k) HX.out (hfit h).1
      have hup : (k < 9 ∨ cn ≤ 1) → _ := fun h => u_parts _ (hfit h).1
      generalize hy : x + cn % 128 * 2 ^ (7 * k) = y at *
      have HD := hid hd; have HCN := hid hcn; have HF := hid hfit; have HO := hid hor; have HUP := hid hup; have HY := hid hy
      clear hd hcn hfit hor hup hy
      by_cases hk : k = 9
      · have t9 : ((k : Int) == 9) = true := by rw [beq_iff_eq]; omega
        have HK := hid hk; clear hk
        by_cases h1 : 1 < cn
        · go_wp2
          go_ret3
          exact ⟨by rw [HG.out, HD.out]; simp [getF, HK.out, HCN.out, h1], rfl⟩
        · by_cases h0 : cn = 0
          · have t0 : ((cn : Int) == 0) = true := by rw [beq_iff_eq]; omega
            have hk0 : 0 < k := by have := HK.out; omega
            have H0 := hid h0; clear h0
            go_wp2
            go_ret3
            exact ⟨by rw [HG.out, HD.out]; simp [getF, HK.out, HCN.out, H0.out], rfl⟩
          · have t0 : ((cn : Int) == 0) = false := by rw [beq_eq_false_iff_ne]; omega
            have hres : getInt l = (numOf y, (k : Int) + 1, 0) := by
              rw [HG.out, HD.out]; simp only [getF, HCN.out]
              rw [if_neg (by omega), if_neg (by omega), if_neg (by omega), ← HY.out, Nat.mod_eq_of_lt (by omega)]
            have E1 := HO.out (.inr (by omega))
            obtain ⟨E3, E4, E5⟩ := HUP.out (.inr (by omega))
            have hnum : numOf y = if y % 2 = 1 then -((y / 2 : Nat) : Int) - 1 else ((y / 2 : Nat) : Int) := rfl
            have HR := hid hres; have H0 := hid h0
            clear hres h0
            by_cases hp : y % 2 = 1
            · rw [hp] at E3
              rw [if_pos hp] at hnum
              have HN := hid hnum; clear hp hnum
              generalize y / 2 = z at *
              go_wp2
              go_ret3
              exact ⟨by rw [HR.out, HN.out]; rfl, rfl⟩
            · have hp' : y % 2 = 0 := by omega
              rw [hp'] at E3
              rw [if_neg hp] at hnum
              have HN := hid hnum; clear hp hp' hnum
              generalize y / 2 = z at *
              go_wp2
              go_ret3
              exact ⟨by rw [HR.out, HN.out]; rfl, rfl⟩
      · have t9 : ((k : Int) == 9) = false := by rw [beq_eq_false_iff_ne]; omega
        have hk8 : k < 9 := by omega
        have HK := hid hk; clear hk
        have E1 := HO.out (.inl hk8)
        by_cases h1 : 128 ≤ cn
        · have hs : getF (l.drop k) k x = getF (l.drop (k + 1)) (k + 1) y := by
            rw [HD.out]; simp only [getF, HCN.out]
            rw [if_neg (by omega), if_pos h1, HY.out]
          have hlt2 := (HF.out (.inl hk8)).2 hk8
          have HS := hid hs; have HL2 := hid hlt2
          clear hs hlt2
          go_wp2
          go_round
          case rel => exact ⟨k + 1, y, by omega, by omega, by go_num, rfl, HL2.out, by rw [HG.out, HS.out]⟩
          case measure => simp [intOf]; omega
        · by_cases h0 : cn = 0 ∧ 0 < k
          · obtain ⟨h0, h0'⟩ := h0
            have t0 : ((cn : Int) == 0) = true := by rw [beq_iff_eq]; omega
            have H0 := hid h0; clear h0
            go_wp2
            go_ret3
            exact ⟨by rw [HG.out, HD.out]; simp [getF, HK.out, HCN.out, H0.out, h0'], rfl⟩
          · have hres : getInt l = (numOf y, (k : Int) + 1, 0) := by
              rw [HG.out, HD.out]; simp only [getF, HCN.out]
              rw [if_neg (by omega), if_neg (by omega), if_neg h0, ← HY.out, Nat.mod_eq_of_lt (by omega)]
            obtain ⟨E3, E4, E5⟩ := HUP.out (.inl hk8)
            have hnum : numOf y = if y % 2 = 1 then -((y / 2 : Nat) : Int) - 1 else ((y / 2 : Nat) : Int) := rfl
            have hc : (((cn : Int) == 0) = false) ∨ (((cn : Int) == 0) = true ∧ ¬ (0 < (k : Int))) := by
              by_cases h : cn = 0
              · exact .inr ⟨by rw [beq_iff_eq]; omega, by omega⟩
              · exact .inl (by rw [beq_eq_false_iff_ne]; omega)
            have HR := hid hres; have H0 := hid h0
            clear hres h0
            by_cases hp : y % 2 = 1
            · rw [hp] at E3
              rw [if_pos hp] at hnum
              have HN := hid hnum; clear hp hnum
              generalize y / 2 = z at *
              rcases hc with hc | ⟨hc, hc'⟩
              all_goals
                go_wp2
                go_ret3
                exact ⟨by rw [HR.out, HN.out]; rfl, rfl⟩
            · have hp' : y % 2 = 0 := by omega
              rw [hp'] at E3
              rw [if_neg hp] at hnum
              have HN := hid hnum; clear hp hp' hnum
              generalize y / 2 = z at *
              rcases hc with hc | ⟨hc, hc'⟩
              all_goals
                go_wp2
                go_ret3
                exact ⟨by rw [HR.out, HN.out]; rfl, rfl⟩
    · obtain rfl : k = l.length := by omega
      go_wp2
      go_ret3
      exact ⟨by rw [HG.out, List.drop_length]; rfl, rfl⟩
end Go.Proofs.YtkdpclllenbgfaaDoor
