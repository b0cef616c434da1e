/- 1 text of this claim, in build order. -/
import Derived.Test.YtkgifbnkkmeoiaaGreatDoorPkdfgmfbn
/- Contract of the reference's GetInt. -/
namespace Go.Proofs.YtkgifbnkkmeoiaaGreatDoor
open Go.ChangeShapes Go.WideShapes Go.ChangeAt Go.RowKit
set_option linter.unusedVariables false

theorem mod_pow_succ (c j : Nat) : c % 2 ^ (j + 1) = c % 2 ^ j + 2 ^ j * (c / 2 ^ j % 2) := by
  rw [Nat.pow_succ, Nat.mod_mul]
theorem bits_half (x c i j : Nat) : x + c % 2 ^ (j + 1) * 2 ^ (7 * i) = x + c % 2 ^ j * 2 ^ (7 * i) + c / 2 ^ j % 2 * 2 ^ (7 * i + j) := by
  rw [mod_pow_succ, Nat.add_mul, Nat.pow_add, Nat.add_assoc]
  congr 2
  rw [Nat.mul_comm (2 ^ j), Nat.mul_assoc, Nat.mul_comm (2 ^ j)]
theorem tmod_two (c j : Nat) : ((c : Int) / 2 ^ j).tmod 2 = ((c / 2 ^ j % 2 : Nat) : Int) := by
  have e : ((c : Int) / 2 ^ j) = ((c / 2 ^ j : Nat) : Int) := by simp
  rw [e, Int.tmod_eq_emod_of_nonneg (Int.natCast_nonneg _)]
  omega
theorem half_add (m p g : Nat) (hg : g = m / 2) (hb : m + 2 * p < 18446744073709551616) : wrap64 ((g : Int) + wrap64 (p : Int)) = (((m + 2 * p) / 2 : Nat) : Int) := by
  rw [wrap64_eq, wrap64_eq, IntKind.wrap_i64, IntKind.wrap_i64]
  omega
theorem bit_hit {x c i j g : Nat} (hg : g = (x + c % 2 ^ j * 2 ^ (7 * i)) / 2) (h1 : 1 ≤ 7 * i + j) (h3 : (((c : Int) / 2 ^ j).tmod 2 == 1) = true) (hb : x + c % 2 ^ (j + 1) * 2 ^ (7 * i) < 18446744073709551616) :
    wrap64 ((g : Int) + wrap64 (2 ^ (7 * i + j - 1))) = (((x + c % 2 ^ (j + 1) * 2 ^ (7 * i)) / 2 : Nat) : Int) := by
  rw [tmod_two, beq_iff_eq] at h3
  have hbit : c / 2 ^ j % 2 = 1 := by omega
  rw [bits_half, hbit, Nat.one_mul] at hb ⊢
  have hp : 2 ^ (7 * i + j) = 2 * 2 ^ (7 * i + j - 1) := by
    rw [← Nat.pow_succ']; congr 1; omega
  rw [hp] at hb ⊢
  have e : (2 : Int) ^ (7 * i + j - 1) = ((2 ^ (7 * i + j - 1) : Nat) : Int) := by simp
  rw [e]
  exact half_add _ _ _ hg hb
theorem bit_miss {x c i j g : Nat} (hg : g = (x + c % 2 ^ j * 2 ^ (7 * i)) / 2) (h3 : (((c : Int) / 2 ^ j).tmod 2 == 1) = false) : g = (x + c % 2 ^ (j + 1) * 2 ^ (7 * i)) / 2 := by
  rw [tmod_two, beq_eq_false_iff_ne] at h3
  have hbit : c / 2 ^ j % 2 = 0 := by omega
  rw [bits_half, hbit, Nat.zero_mul]
  exact hg
theorem bit_over {x c i j g : Nat} (hg : g = (x + c % 2 ^ j * 2 ^ (7 * i)) / 2) (hc : c ≤ 1) (hj : 0 < j) : g = (x + c % 2 ^ (j + 1) * 2 ^ (7 * i)) / 2 := by
  have hp : 2 ^ j = 2 * 2 ^ (j - 1) := by rw [← Nat.pow_succ']; congr 1; omega
  have hpos : 0 < 2 ^ (j - 1) := Nat.pow_pos (by omega)
  have hbit : c / 2 ^ j = 0 := Nat.div_eq_of_lt (by omega)
  rw [bits_half, hbit]
  simpa using hg
theorem bit_first {x c g : Nat} (hx : x < 2 ^ (7 * 0)) (hg : g = (x + c % 2 ^ 0 * 2 ^ (7 * 0)) / 2) : g = (x + c % 2 ^ (0 + 1) * 2 ^ (7 * 0)) / 2 := by
  simp [Nat.mod_one] at hx hg ⊢
  omega
/-- Bound: the bytes past hold fewer than 64 bits. -/
theorem y_lt {x c k : Nat} (hx : x < 2 ^ (7 * k)) (hor : k < 9 ∨ (k = 9 ∧ c ≤ 1)) : x + c % 128 * 2 ^ (7 * k) < 18446744073709551616 ∧ (k < 9 → x + c % 128 * 2 ^ (7 * k) < 2 ^ (7 * (k + 1))) := by
  have hm : c % 128 < 128 := Nat.mod_lt _ (by omega)
  have hp : 2 ^ (7 * (k + 1)) = 2 ^ (7 * k) * 128 := by rw [Nat.mul_add, Nat.pow_add]
  have h1 : c % 128 * 2 ^ (7 * k) ≤ 127 * 2 ^ (7 * k) := Nat.mul_le_mul_right _ (by omega)
  have h2 : x + c % 128 * 2 ^ (7 * k) < 2 ^ (7 * (k + 1)) := by rw [hp]; omega
  refine ⟨?_, fun _ => h2⟩
  rcases hor with h | ⟨h, h'⟩
  · have h3 : 2 ^ (7 * (k + 1)) ≤ 2 ^ 63 := Nat.pow_le_pow_right (by omega) (by omega)
    omega
  · have h4 : 2 ^ (7 * k) ≤ 2 ^ 63 := Nat.pow_le_pow_right (by omega) (by omega)
    have h5 : c % 128 * 2 ^ (7 * k) ≤ 1 * 2 ^ (7 * k) := Nat.mul_le_mul_right _ (by omega)
    omega
/-- The bits of c below j are no more than those below 7. -/
theorem bits_le (x c k : Nat) {j : Nat} (hj : j ≤ 7) : x + c % 2 ^ j * 2 ^ (7 * k) ≤ x + c % 128 * 2 ^ (7 * k) := by
  have e : c % 2 ^ j = c % 128 % 2 ^ j := by
    have : (128 : Nat) = 2 ^ j * 2 ^ (7 - j) := by rw [← Nat.pow_add]; simp [show j + (7 - j) = 7 by omega]
    rw [this, Nat.mod_mul_right_mod]
  have : c % 2 ^ j ≤ c % 128 := by rw [e]; exact Nat.mod_le _ _
  have := Nat.mul_le_mul_right (2 ^ (7 * k)) this
  omega
theorem y_par {x c k d : Nat} (h0 : k = 0 → x = 0 ∧ d = c) (h1 : 0 < k → x % 2 = d % 2) : (x + c % 128 * 2 ^ (7 * k)) % 2 = d % 2 := by
  rcases Nat.eq_zero_or_pos k with h | h
  · obtain ⟨h2, h3⟩ := h0 h
    rw [h, h2, h3, Nat.mul_zero, Nat.pow_zero]; omega
  · have hp : 2 ^ (7 * k) = 2 * 2 ^ (7 * k - 1) := by rw [← Nat.pow_succ']; congr 1; omega
    rw [hp, Nat.mul_left_comm, Nat.add_mul_mod_self_left]
    exact h1 h
/-- Behind j bits of the byte c at place i: half of what u is then. -/
def BitRel (x c i : Nat) (n kk : Value) : Prop := ∃ j h : Nat, j ≤ 7 ∧ kk = .int .i64 j ∧ n = .int .i64 (h : Int) ∧ h = (x + c % 2 ^ j * 2 ^ (7 * i)) / 2
def RGetRel (l : List UInt8) (n i : Value) : Prop := ∃ k x h : Nat, k ≤ l.length ∧ k ≤ 9 ∧ i = .int .i64 k ∧ n = .int .i64 (h : Int) ∧ h = x / 2 ∧ x < 2 ^ (7 * k) ∧ getInt l = getF (l.drop k) k x ∧ (0 < k → x % 2 = (l.getD 0 0).toNat % 2)
set_option maxRecDepth 100000 in
set_option maxHeartbeats 400000 in
theorem refGetInt_any (v : Value) (l : List UInt8) (w : World) (hv : Sl w w.heap.size v (bvals l)) (hl : l.length ≤ 140737488355328) :
    Calls Tryz.prog 67 #[v] w (Got (getInt l) w) := by
  obtain ⟨A, c, rfl, hc1, hc2, hA⟩ := hv
  simp only [bvals_len] at hc1 ⊢
  have HA := hid hA
  clear hA
  go_enter Tryz.func67, Tryz.ntmps67
  go_wp2
  go_loop [5, 6] (fun n i => RGetRel l n i) (fun _ i => l.length - (intOf i).toNat)
  case atStart => exact ⟨0, 0, 0, by omega, by omega, rfl, rfl, rfl, by omega, rfl, fun h => by omega⟩
  case round =>
    obtain ⟨k, x, h, hk, hk9, rfl, rfl, hh, hx, hg, hpar⟩ := hrel
    have HH := hid hh; clear hh
    have HX := hid hx; have HG := hid hg; have HPAR := hid hpar
    clear hx hg hpar
    by_cases hlt : k < l.length
    · obtain ⟨b, off, rfl, hbl, hcell⟩ := Sl.byte HA.out hlt
      have hcu : l[k].toNat < 256 := UInt8.toNat_lt _
      have hd : l.drop k = l[k] :: l.drop (k + 1) := List.drop_eq_getElem_cons hlt
      generalize l[k] = ch at *
      generalize hcn : ch.toNat = cn at *
      have HD := hid hd; have HCN := hid hcn
      clear hd hcn
      have hk10 : k < 10 := by omega
      have hcase : (((k : Int) == 9) = true ∧ k = 9 ∧ 1 < cn) ∨ (((k : Int) == 9) = true ∧ k = 9 ∧ cn ≤ 1) ∨ (((k : Int) == 9) = false ∧ k < 9) := by
        by_cases hk : k = 9
        · have : ((k : Int) == 9) = true := by rw [beq_iff_eq]; omega
          rcases Nat.lt_or_ge 1 cn with h | h
          · exact .inl ⟨this, hk, h⟩
          · exact .inr (.inl ⟨this, hk, h⟩)
        · exact .inr (.inr ⟨by rw [beq_eq_false_iff_ne]; omega, by omega⟩)
      have HC := hid hcase; clear hcase
      rcases HC.out with ⟨t9, hk, h1⟩ | ⟨t9, hk, h1⟩ | ⟨t9, hk⟩
      · have HK := hid hk; clear hk
        go_wp2
        go_ret3
        exact ⟨by rw [HG.out, HD.out]; simp [getF, HK.out, HCN.out, h1], rfl⟩
      all_goals
        obtain ⟨hyb, hnx⟩ := y_lt (x := x) (c := cn) (k := k) HX.out (by omega)
        have HK := hid hk; have HYB := hid hyb; have HNX := hid hnx; clear hk hyb hnx
        go_wp2
        go_loop [5, 8] (fun n kk => BitRel x cn k n kk) (fun _ kk => 7 - (intOf kk).toNat)
        case atStart => exact ⟨0, h, by omega, rfl, rfl, by rw [HH.out]; simp [Nat.mod_one]⟩
        case round =>
          obtain ⟨j, g, hj, rfl, rfl, hg⟩ := hrel
          have HGG := hid hg; clear hg
          by_cases hjt : j < 7
          · go_wp2
            all_goals
              have hb := Nat.lt_of_le_of_lt (bits_le x cn k (j := j + 1) (by omega)) HYB.out
              have hKK := HK.out
              refine ⟨?_, by simp [intOf]; omega⟩
              first
                | (exfalso; omega)
                | (rw [bit_hit HGG.out (by omega) (by assumption) hb]; exact ⟨j + 1, _, by omega, rfl, rfl, rfl⟩)
                | exact ⟨j + 1, g, by omega, rfl, rfl, bit_miss HGG.out (by assumption)⟩
                | exact ⟨j + 1, g, by omega, rfl, rfl, bit_over HGG.out (by assumption) (by omega)⟩
                | exact ⟨j + 1, g, by omega, rfl, rfl, by
                    obtain rfl : k = 0 := by omega
                    obtain rfl : j = 0 := by omega
                    exact bit_first HX.out HGG.out⟩
          · obtain rfl : j = 7 := by omega
            obtain ⟨b', off', e', -, hcell0⟩ := Sl.byte HA.out (k := 0) (by omega)
            injection e' with e'
            injection e' with e1 e2
            subst e1; subst e2
            replace hcell0 : w.cell? ⟨b, off, none⟩ = some (Value.int .u8 (l[0].toNat : Int)) := hcell0
            have hpar : (x + cn % 128 * 2 ^ (7 * k)) % 2 = l[0].toNat % 2 := by
              refine y_par ?_ ?_
              · intro h
                have hx := HX.out
                subst h
                refine ⟨by simpa using hx, ?_⟩
                have := HD.out
                rw [List.drop_zero] at this
                rw [← HCN.out]
                have h0 : l[0]? = some ch := by rw [this]; rfl
                rw [List.getElem?_eq_getElem (by omega)] at h0
                injection h0 with h0
                rw [h0]
              · intro h
                have := HPAR.out h
                rwa [List.getD_eq_getElem?_getD, List.getElem?_eq_getElem (by omega), Option.getD_some] at this
            have hgy : g = (x + cn % 128 * 2 ^ (7 * k)) / 2 := HGG.out
            have hd0 : l[0].toNat < 256 := UInt8.toNat_lt _
            have hl0 : (l.getD 0 0).toNat = l[0].toNat := by rw [List.getD_eq_getElem?_getD, List.getElem?_eq_getElem (by omega), Option.getD_some]
            generalize l[0].toNat = d at *
            generalize hy : x + cn % 128 * 2 ^ (7 * k) = y at *
            have HY := hid hy; have HPY := hid hpar; have HGY := hid hgy; have HL0 := hid hl0
            clear hy hpar hgy HGG hl0
            by_cases h128 : 128 ≤ cn
            · have hk8 : k < 9 := by have := HK.out; omega
              have hs : getF (l.drop k) k x = getF (l.drop (k + 1)) (k + 1) y := by
                rw [HD.out]; simp only [getF, HCN.out]
                rw [if_neg (by omega), if_pos h128, HY.out]
              have HS := hid hs; clear hs
              go_wp2
              all_goals exact ⟨⟨k + 1, y, g, by omega, by omega, rfl, rfl, HGY.out, HNX.out hk8, by rw [HG.out, HS.out], fun _ => by rw [HPY.out, HL0.out]⟩, by simp [intOf]; omega⟩
            · by_cases h0 : cn = 0 ∧ 0 < k
              · obtain ⟨h0, h0'⟩ := h0
                have t0 : ((cn : Int) == 0) = true := by rw [beq_iff_eq]; omega
                have H0 := hid h0; clear h0
                have hh : getF (l.drop k) k x = (0, 0, 2) := by
                  have hKK := HK.out
                  rw [HD.out]; simp only [getF, HCN.out]
                  rw [if_neg (by omega), if_neg (by omega), if_pos ⟨H0.out, h0'⟩]
                have H := hid hh; clear hh
                go_wp2
                go_ret3
                exact ⟨by rw [HG.out, H.out]; rfl, rfl⟩
              · have hres : getInt l = (numOf y, (k : Int) + 1, 0) := by
                  have hKK := HK.out
                  rw [HG.out, HD.out]; simp only [getF, HCN.out]
                  rw [if_neg (by omega), if_neg (by omega), if_neg h0, ← HY.out, Nat.mod_eq_of_lt (by omega)]
                have hnum : numOf y = if y % 2 = 1 then -((y / 2 : Nat) : Int) - 1 else ((y / 2 : Nat) : Int) := rfl
                have hc : (((cn : Int) == 0) = false) ∨ (((cn : Int) == 0) = true ∧ ¬ (0 < (k : Int))) := by
                  by_cases h : cn = 0
                  · exact .inr ⟨by rw [beq_iff_eq]; omega, by omega⟩
                  · exact .inl (by rw [beq_eq_false_iff_ne]; omega)
                have hg63 : (g : Int) ≤ 9223372036854775807 := by have h1 := HGY.out; have h2 := HYB.out; omega
                have HG63 := hid hg63; clear hg63
                have HR := hid hres; have H0 := hid h0
                clear hres h0
                have hval : -(g : Int) - 1 = wrap64 (wrap64 (-(g : Int)) - 1) := by
                  have := HG63.out
                  rw [wrap64_eq, wrap64_eq, IntKind.wrap_i64, IntKind.wrap_i64]; omega
                have HV := hid hval; clear hval
                by_cases hp : d % 2 = 1
                · have t1 : ((d : Int) % 2 == 1) = true := by rw [beq_iff_eq]; omega
                  rw [HPY.out, if_pos hp, ← HGY.out] at hnum
                  have HN := hid hnum; clear hnum hp
                  rcases hc with hc | ⟨hc, hc'⟩
                  all_goals
                    go_wp2
                    go_ret3
                    exact ⟨by rw [HR.out, HN.out, HV.out]; rfl, rfl⟩
                · have t1 : ((d : Int) % 2 == 1) = false := by rw [beq_eq_false_iff_ne]; omega
                  rw [HPY.out, if_neg hp, ← HGY.out] at hnum
                  have HN := hid hnum; clear hnum hp
                  rcases hc with hc | ⟨hc, hc'⟩
                  all_goals
                    go_wp2
                    go_ret3
                    exact ⟨by rw [HR.out, HN.out]; rfl, rfl⟩
    · go_wp2
      go_ret3
      have : k = l.length := by omega
      subst this
      exact ⟨by rw [HG.out, List.drop_length]; rfl, rfl⟩
end Go.Proofs.YtkgifbnkkmeoiaaGreatDoor
