/- The walks of the laws of layer 2: WireGets, WireSizes, WirePuts, WireOne, WireRound. -/
import Derived.Test.YtekngocjojfomaaWireLives
import Derived.Test.YtekngocjojfomaaLiftB
import Derived.Test.YtekngocjojfomaaWireRefPut
namespace Go.Proofs.Ytekngocjojfomaa
open Go.ChangeShapes Go.WideShapes Go.ChangeAt Go.RowKit
set_option linter.unusedVariables false

theorem getF_range (l : List UInt8) (i x : Nat) (hx : x < 2 ^ (7 * i)) (hi : i ≤ 9) : -9223372036854775808 ≤ (getF l i x).1 ∧ (getF l i x).1 ≤ 9223372036854775807 := by
  induction l generalizing i x with
  | nil => simp [getF]
  | cons c l ih =>
    simp only [getF]
    have hc : c.toNat < 256 := UInt8.toNat_lt _
    by_cases h9 : i = 9 ∧ 1 < c.toNat
    · rw [if_pos h9]; simp
    · rw [if_neg h9]
      obtain ⟨y1, y2⟩ := y_lt (c := c.toNat) hx (by omega)
      by_cases h128 : 128 ≤ c.toNat
      · rw [if_pos h128]; exact ih _ _ (y2 (by omega)) (by omega)
      · rw [if_neg h128]
        split
        · simp
        · rw [Nat.mod_eq_of_lt (by omega)] at y1; exact numOf_range _ y1
theorem getInt_range (l : List UInt8) : -9223372036854775808 ≤ (getInt l).1 ∧ (getInt l).1 ≤ 9223372036854775807 := getF_range l 0 0 (by simp) (by omega)

set_option maxHeartbeats 800000 in
theorem walk_WireGets (w : World) (v : Value) (l : List UInt8) (hv : Sl w w.heap.size v (bvals l)) (hz : l.length ≤ maxLen) :
    Calls Try.prog 9 #[v] w (Gives (.bool true) w) := by
  have hl : (l.take 40).length ≤ 40 := by rw [List.length_take]; omega
  have g1 := fun v' h => getInt_any v' (l.take 40) w h (by omega)
  have g2 := fun v' h => refGetInt_any v' (l.take 40) w h (by omega)
  have f1 := few_any v l 40 w (by omega) hv
  unfold Got at g1 g2
  obtain ⟨n, k, e⟩ := getInt (l.take 40)
  try simp only at g1 g2
  have t1 : (n == n) = true := by simp
  have t2 : (k == k) = true := by simp
  have t3 : (e == e) = true := by simp
  have G1 := hid g1; have G2 := hid g2; have F1 := hid f1; clear g1 g2 f1 hv hl hz
  go_enter Try.func9, Try.ntmps9
  go_wp2_with fail
  refine F1.out.mono ?_
  rintro en w1 ⟨v1, rfl, hs, rfl⟩
  have HS := hid hs; clear hs
  go_wp2_with fail
  refine (G1.out _ HS.out).mono ?_
  rintro en w2 ⟨rfl, rfl⟩
  go_wp2_with fail
  refine (G2.out _ HS.out).mono ?_
  rintro en w3 ⟨rfl, rfl⟩
  go_wp2_with fail
  refine (livesW_true _).mono ?_
  rintro en w4 ⟨rfl, hb⟩
  go_wp2
  go_ret
  exact ⟨rfl, hb⟩

theorem put_len {w' : World} {v : Value} {n : Int} {base : Nat} (h : w'.ownsRow base 5 1 v (([] : List UInt8).length + (putInt n).length) (bvals ([] ++ putInt n))) :
    ∃ A c, v = .slice A (putInt n).length c ∧ (putInt n).length ≤ c ∧ c ≤ maxLen := by
  obtain ⟨A, c, rfl, h1, h2, -⟩ := Sl.of_own h
  rw [bvals_len] at h1 ⊢
  exact ⟨A, c, rfl, h1, h2⟩
set_option maxHeartbeats 1600000 in
theorem walk_WireSizes (w : World) (a : Int) (ha : -9223372036854775808 ≤ a ∧ a ≤ 9223372036854775807) (b : Int) (hb : -9223372036854775808 ≤ b ∧ b ≤ 9223372036854775807) :
    Calls Try.prog 12 #[.int .i64 a, .int .i64 b] w (Gives (.bool true) w) := by
  have m1 := putInt_mono a b
  have m2 := putInt_mono b a
  have p1 := fun W => putInt_any (.slice none 0 0) [] a W Sl.nil_ (by simp) ha.1 ha.2
  have p2 := fun W => putInt_any (.slice none 0 0) [] b W Sl.nil_ (by simp) hb.1 hb.2
  obtain ⟨a1, a2⟩ := ha
  obtain ⟨b1, b2⟩ := hb
  have P1 := hid p1; have P2 := hid p2; have M1 := hid m1; have M2 := hid m2; clear p1 p2 m1 m2
  by_cases ha0 : a < 0 <;> by_cases hb0 : b < 0
  all_goals
    have q1 := M1.out; have q2 := M2.out
    simp only [ha0, hb0, if_true, if_false] at q1 q2
    have Q1 := hid q1; have Q2 := hid q2; clear q1 q2
    go_enter Try.func12, Try.ntmps12
    go_wp2_with fail
    · have hm := Q2.out (by omega)
      refine (P2.out _).mono ?_
      rintro en w1 ⟨v1, rfl, hown1, hb1⟩
      obtain ⟨A1, c1, rfl, -, -⟩ := put_len hown1
      clear hown1
      go_wp2_with fail
      refine (P1.out _).mono ?_
      rintro en w2 ⟨v2, rfl, hown2, hb2⟩
      obtain ⟨A2, c2, rfl, -, -⟩ := put_len hown2
      clear hown2
      go_wp2_with fail
      refine (livesW_true _).mono ?_
      rintro en w4 ⟨rfl, hb4⟩
      go_wp2
      go_ret
      exact ⟨rfl, hb1.trans ((hb2.trans (hb4.mono hb2.size)).mono hb1.size)⟩
    · have hm := Q1.out (by omega)
      refine (P1.out _).mono ?_
      rintro en w1 ⟨v1, rfl, hown1, hb1⟩
      obtain ⟨A1, c1, rfl, -, -⟩ := put_len hown1
      clear hown1
      go_wp2_with fail
      refine (P2.out _).mono ?_
      rintro en w2 ⟨v2, rfl, hown2, hb2⟩
      obtain ⟨A2, c2, rfl, -, -⟩ := put_len hown2
      clear hown2
      go_wp2_with fail
      refine (livesW_true _).mono ?_
      rintro en w4 ⟨rfl, hb4⟩
      go_wp2
      go_ret
      exact ⟨rfl, hb1.trans ((hb2.trans (hb4.mono hb2.size)).mono hb1.size)⟩
end Go.Proofs.Ytekngocjojfomaa
