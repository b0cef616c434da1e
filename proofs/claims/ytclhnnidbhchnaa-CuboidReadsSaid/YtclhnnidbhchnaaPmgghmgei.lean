/- 2 texts of this claim, in build order. -/
import Derived.Test.YtclhnnidbhchnaaPlamdoeic
import Derived.Test.YtclhnnidbhchnaaPbfcailpg
/- Contracts of the reference's rows of bits: Of, Add, number. -/
namespace Go.Proofs.Ytclhnnidbhchnaa
open Go.ChangeShapes Go.WideShapes Go.ChangeAt Go.RowKit

set_option linter.unusedVariables false


def RefOfPost (n : Int) (w : World) (e : Ending) (w' : World) : Prop := ∃ v, e = .returned v ∧ Sl w' w'.heap.size v (ivals (bits n 80)) ∧ Below w.heap.size w w'
def RefOfRel (n : Int) (w : World) (v i m : Value) (wr : World) : Prop :=
  ∃ k : Nat, k ≤ 80 ∧ i = .int .i64 k ∧ m = .int .i64 (n / 2 ^ k) ∧ wr.ownsRow w.heap.size 3 1 v k (ivals (bits n k)) ∧ Below w.heap.size w wr

set_option maxRecDepth 100000 in
set_option maxHeartbeats 400000 in
theorem refOf_any (n : Int) (w : World) :
    Calls Try.prog 100 #[.int .i64 n] w (RefOfPost n w) := by
  obtain ⟨i0, hi, hz0, hz1, hz2⟩ := info_parts info_int
  go_enter Try.func100, Try.ntmps100
  go_wp2
  go_loopw [3, 4, 0] (fun v i m wr => RefOfRel n w v i m wr) (fun _ i _ _ => 80 - (intOf i).toNat)
  case atStart => exact ⟨0, by omega, rfl, by simp, World.ownsRow_nil _ _ _ _, Below.refl _ _⟩
  case round =>
    obtain ⟨k, hk, rfl, rfl, hown, hb⟩ := hrel
    have hB := hb.size
    by_cases hlt : k < 80
    · go_wp2_with (at_builtin; refine stop_here ?_)
      refine go_on ?_
      refine wpList_append_own _ rfl _ _ 119 rfl w.heap.size 3 i0 (.int .i64 0) 1 8 Try.underlying119 hi hz0 hz1 hz2 rfl (by decide) u3 _ _ rfl (hown.alloc _) ⟨wr.heap.size, 0, none⟩ 1 1 [_] rfl rfl (cell_one_new _ _ _) (by simp; rfl) (by simp [maxLen]; omega) (by omega) (by simp; omega) ?_
      intro v' w1 hown1 hg1 _
      go_wp2
      go_roundw
      case rel =>
        refine ⟨k + 1, by omega, by go_num, by rw [div_succ], ?_, own_below hown hb hB hg1⟩
        rw [bits_succ, ivals_snoc]
        rw [i64_and_one] at hown1
        exact hown1
      case measure => simp [intOf]; omega
    · obtain rfl : k = 80 := by omega
      go_wp2
      go_ret
      exact ⟨_, rfl, Sl.of_own hown, hb⟩

theorem bits_getD (z : Int) (n k : Nat) (h : k < n) : (bits z n).getD k 0 = bit z k := by
  rw [List.getD_eq_getElem?_getD, bits_get _ _ _ h]; rfl

def RefAddPost (x y : Int) (w : World) (e : Ending) (w' : World) : Prop := ∃ v, e = .returned v ∧ Sl w' w'.heap.size v (ivals (bits (x + y) 80)) ∧ Below w.heap.size w w'
def RefAddRel (x y : Int) (w : World) (v m i : Value) (wr : World) : Prop :=
  ∃ k : Nat, k ≤ 80 ∧ i = .int .i64 k ∧ m = .int .i64 (carry x y k) ∧ wr.ownsRow w.heap.size 3 1 v k (ivals (bits (x + y) k)) ∧ Below w.heap.size w wr

set_option maxRecDepth 100000 in
set_option maxHeartbeats 400000 in
theorem refAdd_any (v0 v1 : Value) (x y : Int) (w : World) (hx : Sl w w.heap.size v0 (ivals (bits x 80))) (hy : Sl w w.heap.size v1 (ivals (bits y 80))) :
    Calls Try.prog 101 #[v0, v1] w (RefAddPost x y w) := by
  obtain ⟨i0, hi, hz0, hz1, hz2⟩ := info_parts info_int
  obtain ⟨b, off, c, rfl, hc1, hc2, hbl, hcell⟩ := hx.ints (by simp [bits_length])
  obtain ⟨b', off', c', rfl, hc1', hc2', hbl', hcell'⟩ := hy.ints (by simp [bits_length])
  simp only [bits_length] at *
  have HX := hid hcell; have HY := hid hcell'
  clear hx hy hcell hcell'
  go_enter Try.func101, Try.ntmps101
  go_wp2
  go_loopw [5, 6, 7] (fun v m i wr => RefAddRel x y w v m i wr) (fun _ _ i _ => 80 - (intOf i).toNat)
  case atStart => exact ⟨0, by omega, rfl, by simp [carry_zero], World.ownsRow_nil _ _ _ _, Below.refl _ _⟩
  case round =>
    obtain ⟨k, hk, rfl, rfl, hown, hb⟩ := hrel
    have hB := hb.size
    by_cases hlt : k < 80
    · have g1 : wr.cell? ⟨b, off + k, none⟩ = some (.int .i64 (bit x k)) := by
        rw [← bits_getD x 80 k hlt]; exact (hb.cell (p := ⟨b, off + k, none⟩) hbl).trans (HX.out k hlt)
      have g2 : wr.cell? ⟨b', off' + k, none⟩ = some (.int .i64 (bit y k)) := by
        rw [← bits_getD y 80 k hlt]; exact (hb.cell (p := ⟨b', off' + k, none⟩) hbl').trans (HY.out k hlt)
      have q1 := bit_01 x k
      have q2 := bit_01 y k
      have q3 := carry_01 x y k
      go_wp2
      go_quiet (fail)
      generalize hwq : World.drewN wr _ = wq
      have hownq : wq.ownsRow w.heap.size 3 1 u5 k (ivals (bits (x + y) k)) := by rw [← hwq]; exact hown
      have hbq : Below w.heap.size w wq := by rw [← hwq]; exact below_drewN hb _
      have hBq := hbq.size
      clear hwq g1 g2
      go_wp2_with (at_builtin; refine stop_here ?_)
      refine go_on ?_
      refine wpList_append_own _ rfl _ _ 119 rfl w.heap.size 3 i0 (.int .i64 0) 1 8 Try.underlying119 hi hz0 hz1 hz2 rfl (by decide) u5 _ _ rfl (hownq.alloc _) ⟨wq.heap.size, 0, none⟩ 1 1 [_] rfl rfl (cell_one_new _ _ _) (by simp; rfl) (by simp [maxLen]; omega) (by omega) (by simp; omega) ?_
      intro v' w1 hown1 hg1 _
      go_wp2
      go_roundw
      case rel =>
        refine ⟨k + 1, by omega, by go_num, by rw [carry_succ], ?_, own_below hownq hbq hBq hg1⟩
        rw [bits_succ, ivals_snoc, add_bit]
        exact hown1
      case measure => simp [intOf]; omega
    · obtain rfl : k = 80 := by omega
      go_wp2
      go_ret
      exact ⟨_, rfl, Sl.of_own hown, hb⟩

/-- What number has gathered ahead of place j - 1. -/
def nAt (V : Int) (m j : Nat) : Int := if j = m then 0 else V / 2 ^ j
def Fits (V : Int) (m : Nat) : Bool → Prop
  | true => -2 ^ (m - 1) ≤ V ∧ V < 2 ^ (m - 1)
  | false => 0 ≤ V ∧ V < 2 ^ m
theorem div_bounds (V : Int) (j : Nat) (h1 : -9223372036854775808 ≤ V) (h2 : V ≤ 9223372036854775807) : -9223372036854775808 ≤ V / 2 ^ j ∧ V / 2 ^ j ≤ 9223372036854775807 := by
  induction j with
  | zero => simp only [Int.pow_zero, Int.ediv_one]; omega
  | succ j ih => rw [div_succ]; omega
theorem nAt_bounds (V : Int) (m j : Nat) (h1 : -9223372036854775808 ≤ V) (h2 : V ≤ 9223372036854775807) : -4611686018427387904 ≤ nAt V m (j + 1) ∧ nAt V m (j + 1) ≤ 4611686018427387903 := by
  unfold nAt
  have := div_bounds V j h1 h2
  split
  · omega
  · rw [div_succ]; omega
theorem nAt_zero (V : Int) (m : Nat) (h : 0 < m) : nAt V m 0 = V := by
  unfold nAt
  rw [if_neg (by omega), Int.pow_zero, Int.ediv_one]
theorem div_pow_zero (V : Int) (m : Nat) (h0 : 0 ≤ V) (h1 : V < 2 ^ m) : V / 2 ^ m = 0 := Int.ediv_eq_zero_of_lt h0 h1
theorem nAt_step (V : Int) (m t : Nat) (ht : t < m) (h : t + 1 = m → 0 ≤ V ∧ V < 2 ^ m) : 2 * nAt V m (t + 1) + bit V t = nAt V m t := by
  unfold nAt
  rw [if_neg (by omega : ¬ t = m)]
  split
  · rename_i e
    have := div_bit V t
    rw [e, div_pow_zero V m (h e).1 (h e).2] at this
    exact this
  · exact div_bit V t
theorem nAt_top (V : Int) (m t : Nat) (ht : t + 1 = m) (h1 : -2 ^ (m - 1) ≤ V) (h2 : V < 2 ^ (m - 1)) : -bit V t = nAt V m t := by
  subst ht
  unfold nAt
  rw [if_neg (by omega)]
  simp only [Nat.add_sub_cancel] at h1 h2
  have hp := pow_pos' t
  unfold bit
  rcases Int.lt_or_le V 0 with h | h
  · have : V / 2 ^ t = -1 := by
      apply Int.le_antisymm
      · have := Int.ediv_neg_of_neg_of_pos h hp; omega
      · rw [Int.le_ediv_iff_mul_le hp]; omega
    rw [this]; rfl
  · rw [Int.ediv_eq_zero_of_lt h h2]; rfl
def NumPost (V : Int) (w : World) (e : Ending) (w' : World) : Prop := e = .returned (.int .i64 V) ∧ w' = w
def NumRel (V : Int) (m : Nat) (n i : Value) : Prop :=
  ∃ j : Nat, j ≤ m ∧ i = .int .i64 ((j : Int) - 1) ∧ n = .int .i64 (nAt V m j)

set_option maxRecDepth 100000 in
set_option maxHeartbeats 400000 in
theorem number_any (v0 : Value) (sg : Bool) (V : Int) (m : Nat) (w : World) (hr : Sl w w.heap.size v0 (ivals (bits V m))) (hm : 0 < m) (hm' : m ≤ 64) (hV : Fits V m sg)
    (h1 : -9223372036854775808 ≤ V) (h2 : V ≤ 9223372036854775807) :
    Calls Try.prog 99 #[v0, .bool sg] w (NumPost V w) := by
  obtain ⟨b, off, c, rfl, hc1, hc2, hbl, hcell⟩ := hr.ints (by simpa [bits_length] using hm)
  simp only [bits_length] at *
  have HX := hid hcell; have HV := hid hV
  clear hr hcell hV
  go_enter Try.func99, Try.ntmps99
  go_wp2
  go_loop [5, 6] (fun n i => NumRel V m n i) (fun _ i => (intOf i + 1).toNat)
  case atStart => exact ⟨m, by omega, rfl, by simp [nAt]⟩
  case round =>
    obtain ⟨j, hj, rfl, rfl⟩ := hrel
    rcases j with _ | t
    · go_wp2
      go_ret
      exact ⟨ret_int (nAt_zero V m hm), rfl⟩
    · have g1 : w.cell? ⟨b, off + t, none⟩ = some (.int .i64 (bit V t)) := by
        rw [← bits_getD V m t (by omega)]; exact HX.out t (by omega)
      have q1 := bit_01 V t
      rw [show (((t + 1 : Nat) : Int) - 1) = (t : Int) by omega]
      have q2 := nAt_bounds V m t h1 h2
      by_cases ht : t + 1 = m
      · have ht' : ((t : Int) == (m : Int) - 1) = true := by rw [beq_iff_eq]; omega
        have HT := hid ht; clear ht
        cases sg
        · have Hq := hid (nAt_step V m t (by omega) (fun _ => HV.out))
          generalize nAt V m (t + 1) = q at q2 Hq
          go_wp2
          go_round
          case rel => exact ⟨t, by omega, rfl, by rw [← Hq.out]⟩
          case measure => simp [intOf]
        · have Hq := hid (nAt_top V m t HT.out HV.out.1 HV.out.2)
          go_wp2
          go_round
          case rel => exact ⟨t, by omega, rfl, by rw [← Hq.out]⟩
          case measure => simp [intOf]
      · have ht' : ((t : Int) == (m : Int) - 1) = false := by rw [beq_eq_false_iff_ne]; omega
        have Hq := hid (nAt_step V m t (by omega) (fun e => absurd e ht))
        generalize nAt V m (t + 1) = q at q2 Hq
        go_wp2
        go_round
        case rel => exact ⟨t, by omega, rfl, by rw [← Hq.out]⟩
        case measure => simp [intOf]

/-! ### Slices of a row -/
theorem Sl.take_ {w : World} {B : Nat} {b off n c : Nat} {l : List Int} (hb : b < B) (hn : n = l.length) (hc : n ≤ c) (hm : c ≤ maxLen)
    (hcell : ∀ j, j < n → w.cell? ⟨b, off + j, none⟩ = some (.int .i64 (l.getD j 0))) : Sl w B (.slice (some ⟨b, off, none⟩) n c) (ivals l) := by
  subst hn
  refine ⟨_, c, by rw [ivals_len], by rw [ivals_len]; exact hc, hm, fun _ => ⟨b, off, rfl, hb, fun j u hu => ?_⟩⟩
  simp only [ivals, List.getElem?_map, Option.map_eq_some_iff] at hu
  obtain ⟨x, hx, rfl⟩ := hu
  have hj : j < l.length := (List.getElem?_eq_some_iff.1 hx).1
  rw [hcell j hj, List.getD_eq_getElem?_getD, hx]; rfl

/-- A cut out of a row of bits. -/
theorem sl_part {w w' : World} {B b off c : Nat} {z : Int} (hb : b < B) (hcell : ∀ j, j < 80 → w.cell? ⟨b, off + j, none⟩ = some (.int .i64 ((bits z 80).getD j 0))) (hw : Qu w w')
    (fr n : Nat) (hfr : fr + n ≤ 80) (hn : n ≤ c) (hm : c ≤ maxLen) : Sl w' B (.slice (some ⟨b, off + fr, none⟩) n c) (ivals (bits (z / 2 ^ fr) n)) := by
  refine Sl.take_ hb (by rw [bits_length]) hn hm fun j hj => ?_
  rw [hw.cell, Nat.add_assoc, hcell _ (by omega), bits_getD _ _ _ (by omega), bits_getD _ _ _ hj, bit_drop]
theorem sl_head {w w' : World} {B b off c : Nat} {z : Int} (hb : b < B) (hcell : ∀ j, j < 80 → w.cell? ⟨b, off + j, none⟩ = some (.int .i64 ((bits z 80).getD j 0))) (hw : Qu w w')
    (n : Nat) (hfr : n ≤ 80) (hn : n ≤ c) (hm : c ≤ maxLen) : Sl w' B (.slice (some ⟨b, off, none⟩) n c) (ivals (bits z n)) := by
  have := sl_part hb hcell hw 0 n (by omega) hn hm
  simpa using this

end Go.Proofs.Ytclhnnidbhchnaa
/- The reference's Int and Total. -/
namespace Go.Proofs.Ytclhnnidbhchnaa
open Go.ChangeShapes Go.WideShapes Go.ChangeAt Go.RowKit
set_option linter.unusedVariables false

/-- All bits from 63 up to j are the same. -/
def Alike (z : Int) (j : Nat) : Prop := ∀ k, 64 ≤ k → k < j → bit z k = bit z 63
theorem alike_fits (z : Int) (h1 : -604462909807314587353088 ≤ z) (h2 : z < 604462909807314587353088) (h : Alike z 80) : -9223372036854775808 ≤ z ∧ z < 9223372036854775808 := by
  have b := bit_01 z 63
  have e79 : bit z 79 = bit z 63 := h 79 (by omega) (by omega)
  have q79 : z / 2 ^ 79 = -bit z 63 := by
    rw [← e79]; unfold bit; simp only [Int.reducePow]; omega
  have key : ∀ d, d ≤ 16 → z / 2 ^ (79 - d) = -bit z 63 := by
    intro d
    induction d with
    | zero => exact fun _ => q79
    | succ d ih =>
      intro hd
      have hq := ih (by omega)
      have hs := div_bit z (79 - (d + 1))
      rw [show 79 - (d + 1) + 1 = 79 - d by omega, hq] at hs
      have hb : bit z (79 - (d + 1)) = bit z 63 := by
        rcases Nat.lt_or_ge (79 - (d + 1)) 64 with h' | h'
        · rw [show 79 - (d + 1) = 63 by omega]
        · exact h _ h' (by omega)
      omega
  have q63 := key 16 (by omega)
  simp only [Nat.reduceSub, Int.reducePow] at q63
  omega
theorem fits_alike (z : Int) (h1 : -9223372036854775808 ≤ z) (h2 : z < 9223372036854775808) (j : Nat) : Alike z j := by
  have : ∀ d, z / 2 ^ (63 + d) = z / 2 ^ 63 := by
    intro d
    induction d with
    | zero => rfl
    | succ d ih =>
      rw [show 63 + (d + 1) = (63 + d) + 1 by omega, div_succ, ih]
      simp only [Int.reducePow]
      omega
  intro k hk _
  unfold bit
  obtain ⟨d, rfl⟩ : ∃ d, k = 63 + d := ⟨k - 63, by omega⟩
  rw [this]
def FitsI (z : Int) : Bool := decide (-9223372036854775808 ≤ z ∧ z < 9223372036854775808)
theorem fits_of {z : Int} (h : FitsI z = true) : -9223372036854775808 ≤ z ∧ z < 9223372036854775808 := by unfold FitsI at h; rwa [decide_eq_true_eq] at h

def RefIntPost (z : Int) (w : World) (e : Ending) (w' : World) : Prop := e = .returned (.tuple (if FitsI z then #[.int .i64 z, .int .i64 0] else #[.int .i64 0, .int .i64 14])) ∧ Qu w w'
def RefIntRel (z : Int) (w : World) (i : Value) (wr : World) : Prop := ∃ k : Nat, 64 ≤ k ∧ k ≤ 80 ∧ i = .int .i64 k ∧ Alike z k ∧ Qu w wr
set_option maxRecDepth 100000 in
set_option maxHeartbeats 400000 in
theorem refInt_any (v0 : Value) (z : Int) (w : World) (hr : Sl w w.heap.size v0 (ivals (bits z 80))) (h1 : -604462909807314587353088 ≤ z) (h2 : z < 604462909807314587353088) :
    Calls Try.prog 80 #[v0] w (RefIntPost z w) := by
  obtain ⟨b, off, c, rfl, hc1, hc2, hbl, hcell⟩ := hr.ints (by simp [bits_length])
  simp only [bits_length] at *
  have HX := hid hcell; have H1 := hid h1; have H2 := hid h2
  clear hr hcell h1 h2
  go_enter Try.func80, Try.ntmps80
  go_wp2
  go_loopw [4] (fun i wr => RefIntRel z w i wr) (fun i _ => 80 - (intOf i).toNat)
  case atStart => exact ⟨64, by omega, by omega, rfl, fun k h1 h2 => by omega, Qu.refl _⟩
  case round =>
    obtain ⟨k, hk0, hk, rfl, hal, hq⟩ := hrel
    have HAL := hid hal; clear hal
    by_cases hlt : k < 80
    · have g1 : wr.cell? ⟨b, off + k, none⟩ = some (.int .i64 (bit z k)) := by
        rw [hq.cell, ← bits_getD z 80 k hlt]; exact HX.out k hlt
      have g2 : wr.cell? ⟨b, off + 63, none⟩ = some (.int .i64 (bit z 63)) := by
        rw [hq.cell, ← bits_getD z 80 63 (by omega)]; exact HX.out 63 (by omega)
      by_cases he : bit z k = bit z 63
      · have he' : (bit z k != bit z 63) = false := by simp [he]
        have HE := hid he; clear he
        go_wp2
        go_quiet (fail)
        go_wp2
        go_roundw
        case rel => exact ⟨k + 1, by omega, by omega, by go_num, fun j h1 h2 => by
          rcases Nat.lt_or_ge j k with h | h
          · exact HAL.out j h1 h
          · obtain rfl : j = k := by omega
            exact HE.out, hq.drewN _⟩
        case measure => simp [intOf]; omega
      · have he' : (bit z k != bit z 63) = true := by simp [he]
        have HE := hid he; clear he
        go_wp2
        go_quiet (fail)
        go_wp2
        go_ret2
        have hn : FitsI z = false := by
          rw [Bool.eq_false_iff]
          intro h
          have := fits_of h
          exact HE.out (fits_alike z this.1 this.2 80 k hk0 hlt)
        exact ⟨by rw [hn]; rfl, hq.drewN _⟩
    · obtain rfl : k = 80 := by omega
      have hf := alike_fits z H1.out H2.out HAL.out
      have hy : FitsI z = true := by unfold FitsI; rw [decide_eq_true_eq]; exact hf
      have hs := sl_head (B := wr.heap.size) (c := c) (by rw [hq.size]; exact hbl) HX.out hq 64 (by omega) (by omega) (by omega)
      have hn := number_any _ true z 64 wr hs (by omega) (by omega) ⟨by omega, by omega⟩ (by omega) (by omega)
      have HN := hid hn
      have HY := hid hy
      clear hf hs hn hy
      go_wp2_with fail
      refine HN.out.mono ?_
      rintro e w1 ⟨rfl, rfl⟩
      go_wp2
      go_ret2
      exact ⟨by rw [HY.out]; rfl, hq⟩

theorem Sl.of_int {w : World} {B : Nat} {A : Option Addr} {l : List Int} {k : Nat} (h : 0 < (ivals l).length → ∃ b off, A = some ⟨b, off, none⟩ ∧ b < B ∧ ∀ j u, (ivals l)[j]? = some u → w.cell? ⟨b, off + j, none⟩ = some u) (hk : k < l.length) :
    ∃ b off, A = some ⟨b, off, none⟩ ∧ b < B ∧ w.cell? ⟨b, off + k, none⟩ = some (.int .i64 (l.getD k 0)) := by
  obtain ⟨b, off, e, hb, hc⟩ := h (by rw [ivals_len]; omega)
  exact ⟨b, off, e, hb, hc k _ (by simp [ivals, List.getElem?_eq_getElem hk])⟩
theorem take_sum_succ (l : List Int) (k : Nat) (hk : k < l.length) : (l.take (k + 1)).sum = (l.take k).sum + l.getD k 0 := by
  rw [List.take_succ_eq_append_getElem hk, List.sum_append, List.getD_eq_getElem?_getD, List.getElem?_eq_getElem hk]
  simp
def RTotRel (l : List Int) (w : World) (s i : Value) (wr : World) : Prop :=
  ∃ k : Nat, k ≤ l.length ∧ i = .int .i64 k ∧ Sl wr wr.heap.size s (ivals (bits (l.take k).sum 80)) ∧ Below w.heap.size w wr
def RTotPost (l : List Int) (w : World) (e : Ending) (w' : World) : Prop := ∃ v, e = .returned v ∧ Sl w' w'.heap.size v (ivals (bits l.sum 80)) ∧ Below w.heap.size w w'
set_option maxRecDepth 100000 in
set_option maxHeartbeats 800000 in
theorem refTotal_any (v : Value) (l : List Int) (w : World) (hl : l.length ≤ 1073741824) (hv : Sl w w.heap.size v (ivals l)) :
    Calls Try.prog 81 #[v] w (RTotPost l w) := by
  obtain ⟨A, c, rfl, hc1, hc2, hA⟩ := hv
  simp only [ivals_len] at hc1 ⊢
  have HA := hid hA
  clear hA
  go_enter Try.func81, Try.ntmps81
  go_wp2_with fail
  refine (refOf_any _ _).mono ?_
  rintro e w1 ⟨v1, rfl, hv1, hb1⟩
  go_wp2
  go_loopw [3, 4] (fun s i wr => RTotRel l w s i wr) (fun _ i _ => l.length - (intOf i).toNat)
  case atStart => exact ⟨0, by omega, rfl, by simpa using hv1, hb1⟩
  case round =>
    obtain ⟨k, hk, rfl, hs, hb⟩ := hrel
    have HS := hid hs; clear hs
    by_cases hlt : k < l.length
    · obtain ⟨b, off, rfl, hbl, hcell⟩ := Sl.of_int HA.out hlt
      have hbs := hb.size
      have g1 : wr.cell? ⟨b, off + k, none⟩ = some (.int .i64 (l.getD k 0)) := cellK hb hbl hcell
      have ht := take_sum_succ l k hlt
      generalize l.getD k 0 = x at *
      have HT := hid ht; clear ht hcell
      go_wp2_with fail
      refine (refOf_any _ _).mono ?_
      rintro e w2 ⟨v2, rfl, hv2, hb2⟩
      go_wp2_with fail
      refine (refAdd_any _ _ _ _ _ ((HS.out.below hb2).more hb2.size) hv2).mono ?_
      rintro e w3 ⟨v3, rfl, hv3, hb3⟩
      go_wp2
      go_roundw
      case rel => exact ⟨k + 1, by omega, by go_num, by rw [HT.out]; exact hv3, (by repeat' first | with_reducible exact Below.refl _ _ | assumption | (with_reducible refine Below.alloc ?_ ?_ _) | (with_reducible refine Below.setCell ?_ ?_ _) | (with_reducible refine Below.drew ?_) | (with_reducible refine below_drewN ?_ _) | (with_reducible refine Below.trans ?_ (Below.mono ‹_› ?_)) | omega | (with_reducible refine le_alloc ?_) | (with_reducible refine le_setCell ?_) | (with_reducible refine le_drew ?_) | (with_reducible refine le_drewN ?_) | (with_reducible refine Nat.le_trans ?_ (Below.size ‹_›)) | (simp <;> omega))⟩
      case measure => simp [intOf]; omega
    · obtain rfl : k = l.length := by omega
      have hs := HS.out
      rw [List.take_length] at hs
      go_wp2
      go_ret
      exact ⟨_, rfl, hs, hb⟩
end Go.Proofs.Ytclhnnidbhchnaa
