/- The walk of WireRound. -/
import Derived.Test.YtekngocjojfomaaWireWalks2
namespace Go.Proofs.Ytekngocjojfomaa
open Go.ChangeShapes Go.WideShapes Go.ChangeAt Go.RowKit
set_option linter.unusedVariables false

/-- What stands behind the number's cut: k is the place. -/
theorem walk_WireRound (w : World) (n : Int) (hn : -9223372036854775808 ≤ n ∧ n ≤ 9223372036854775807) (v : Value) (l : List UInt8) (hv : Sl w w.heap.size v (bvals l)) (hz : l.length ≤ maxLen)
    (x : Int) (hx : -9223372036854775808 ≤ x ∧ x ≤ 9223372036854775807) :
    Calls Try.prog 10 #[.int .i64 n, v, .int .i64 x] w (Gives (.bool true) w) := by
  obtain ⟨i0, hi, hz0, hz1, hz2⟩ := info_parts info_byte
  have p1 := putInt_any (.slice none 0 0) [] n w Sl.nil_ (by simp) hn.1 hn.2
  unfold PutPost at p1
  rw [List.nil_append] at p1
  have hpl := putInt_le n
  have hp0 := putInt_pos n
  have hg := getInt_putInt n hn.1 hn.2 (l.take 50)
  have hcut := getInt_cut n hn.1 hn.2
  have hl : (l.take 50).length ≤ 50 := by rw [List.length_take]; omega
  have f1 := fun W h => few_any v l 50 W (by omega) h
  unfold FewPost at f1
  have t1 : (n == n) = true := by simp
  have t2 : (((putInt n).length : Int) == ((putInt n).length : Int)) = true := by simp
  generalize l.take 50 = s at *
  generalize putInt n = q at *
  have P1 := hid p1; have F1 := hid f1; have HG := hid hg; have HCUT := hid hcut; have HV := hid hv
  clear p1 f1 hg hcut hv hz hn
  have hk0 : (if x < 0 then -(x + 1) else x) % (q.length : Int) < q.length := Int.emod_lt_of_pos _ (by omega)
  have hk1 : 0 ≤ (if x < 0 then -(x + 1) else x) % (q.length : Int) := Int.emod_nonneg _ (by omega)
  obtain ⟨k, hk⟩ : ∃ k : Nat, (if x < 0 then -(x + 1) else x) % (q.length : Int) = (k : Int) := ⟨_, (Int.toNat_of_nonneg hk1).symm⟩
  rw [hk] at hk0 hk1
  have hkq : k < q.length := by omega
  have htm : Int.tmod (if x < 0 then -(x + 1) else x) (q.length : Int) = (k : Int) := by
    rw [Int.tmod_eq_emod_of_nonneg (by split <;> omega)]; exact hk
  clear hk0 hk1
  have HK := hid hk; have HTM := hid htm; clear hk htm
  go_enter Try.func10, Try.ntmps10
  go_wp2_with fail
  refine P1.out.mono ?_
  rintro en w1 ⟨v1, rfl, ho1, hb1⟩
  obtain ⟨A, c, rfl, hc, hcm⟩ := (Sl.of_own ho1).form
  have hs1 := Sl.of_own ho1
  have hsk := Sl.head k hs1 (by omega)
  rw [← bvals_take] at hsk
  have g1 := getInt_any _ (q.take k) w1 hsk (by rw [List.length_take]; omega)
  rw [HCUT.out k hkq] at g1
  unfold Got at g1
  have G1 := hid g1; have O1 := hid ho1; have B1 := hid hb1; clear g1 ho1 hs1 hsk hb1
  unfold maxLen at hcm
  by_cases hx0 : x < 0
  · have hk := HK.out; have htm := HTM.out
    rw [if_pos hx0] at hk htm
    have hk' : -(x + 1) % (q.length : Int) = (k : Int) := hk
    clear hk
    have hq0 : (q.length : Int) ≠ 0 := by omega
    go_wp2_with fail
    refine G1.out.mono ?_
    rintro en w2 ⟨rfl, rfl⟩
    clear htm hk'
    go_wp2_with fail
    refine (F1.out _ ((HV.out.below B1.out).more B1.out.size)).mono ?_
    rintro en w2 ⟨v2, rfl, h2, rfl⟩
    have H2 := hid h2; clear h2
    go_wp2_with (at_builtin; refine stop_here ?_)
    refine go_on ?_
    refine app_own (.tmp 40) (.tmp 42) 49 49 rfl rfl w.heap.size 5 i0 (.int .u8 0) 1 1 Try.underlying49 hi hz0 hz1 hz2 rfl (by omega) _ _ _ rfl O1.out v2 s.length (bvals s) rfl (by have := src_sl _ Try.underlying49 H2.out (bvals_one s); rwa [bvals_len] at this) (by simp [maxLen]; omega) (by simp; omega) B1.out.size ?_
    intro v3 w3 ho3 hg3 hb3
    rw [← bvals_app] at ho3
    have g3 := getInt_any v3 (q ++ s) w3 (Sl.of_own ho3) (by rw [List.length_append]; omega)
    rw [HG.out] at g3
    unfold Got at g3
    have B3 := hid (B1.out.trans hb3); have G3 := hid g3
    clear ho3 hg3 hb3 g3
    go_wp2_with fail
    refine G3.out.mono ?_
    rintro en w4 ⟨rfl, rfl⟩
    go_wp2_with fail
    refine (livesW_true _).mono ?_
    rintro en w9 ⟨rfl, hb9⟩
    go_wp2
    go_ret
    exact ⟨rfl, B3.out.trans (hb9.mono B3.out.size)⟩
  · have hk := HK.out; have htm := HTM.out
    rw [if_neg hx0] at hk htm
    have hk' : x % (q.length : Int) = (k : Int) := hk
    clear hk
    have hq0 : (q.length : Int) ≠ 0 := by omega
    go_wp2_with fail
    refine G1.out.mono ?_
    rintro en w2 ⟨rfl, rfl⟩
    clear htm hk'
    go_wp2_with fail
    refine (F1.out _ ((HV.out.below B1.out).more B1.out.size)).mono ?_
    rintro en w2 ⟨v2, rfl, h2, rfl⟩
    have H2 := hid h2; clear h2
    go_wp2_with (at_builtin; refine stop_here ?_)
    refine go_on ?_
    refine app_own (.tmp 40) (.tmp 42) 49 49 rfl rfl w.heap.size 5 i0 (.int .u8 0) 1 1 Try.underlying49 hi hz0 hz1 hz2 rfl (by omega) _ _ _ rfl O1.out v2 s.length (bvals s) rfl (by have := src_sl _ Try.underlying49 H2.out (bvals_one s); rwa [bvals_len] at this) (by simp [maxLen]; omega) (by simp; omega) B1.out.size ?_
    intro v3 w3 ho3 hg3 hb3
    rw [← bvals_app] at ho3
    have g3 := getInt_any v3 (q ++ s) w3 (Sl.of_own ho3) (by rw [List.length_append]; omega)
    rw [HG.out] at g3
    unfold Got at g3
    have B3 := hid (B1.out.trans hb3); have G3 := hid g3
    clear ho3 hg3 hb3 g3
    go_wp2_with fail
    refine G3.out.mono ?_
    rintro en w4 ⟨rfl, rfl⟩
    go_wp2_with fail
    refine (livesW_true _).mono ?_
    rintro en w9 ⟨rfl, hb9⟩
    go_wp2
    go_ret
    exact ⟨rfl, B3.out.trans (hb9.mono B3.out.size)⟩
end Go.Proofs.Ytekngocjojfomaa
