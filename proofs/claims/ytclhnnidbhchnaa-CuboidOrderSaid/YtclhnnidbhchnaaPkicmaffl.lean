/- 1 text of this claim, in build order. -/
import Derived.Test.YtclhnnidbhchnaaPfklbkkac
/- The reference's Int and Total. -/
namespace Go.Proofs.Ytclhnnidbhchnaa
open Go.ChangeShapes Go.WideShapes Go.ChangeAt Go.RowKit
set_option linter.unusedVariables false

/-- All bits from 63 up to j are the same. -/
def Alike (z : Int) (j : Nat) : Prop := ∀ k, 64 ≤ k → k < j → bit z k = bit z 63
theorem alike_fits (z : Int) (h1 : -604462909807314587353088 ≤ z) (h2 : z < 604462909807314587353088) (h : Alike z 80) : -9223372036854775808 ≤ z ∧ z < 9223372036854775808 := by
  have b := bit_01 z 63
  have e79 : bit z 79 = bit z 63 := h 79 (by omega) (by omega)
  have q79 : z / 2 ^ 79 = -bit z 63 := by
    rw [← e79]; unfold bit; simp only [Int.reducePow]; omega
  have key : ∀ d, d ≤ 16 → z / 2 ^ (79 - d) = -bit z 63 := by
    intro d
    induction d with
    | zero => exact fun _ => q79
    | succ d ih =>
      intro hd
      have hq := ih (by omega)
      have hs := div_bit z (79 - (d + 1))
      rw [show 79 - (d + 1) + 1 = 79 - d by omega, hq] at hs
      have hb : bit z (79 - (d + 1)) = bit z 63 := by
        rcases Nat.lt_or_ge (79 - (d + 1)) 64 with h' | h'
        · rw [show 79 - (d + 1) = 63 by omega]
        · exact h _ h' (by omega)
      omega
  have q63 := key 16 (by omega)
  simp only [Nat.reduceSub, Int.reducePow] at q63
  omega
theorem fits_alike (z : Int) (h1 : -9223372036854775808 ≤ z) (h2 : z < 9223372036854775808) (j : Nat) : Alike z j := by
  have : ∀ d, z / 2 ^ (63 + d) = z / 2 ^ 63 := by
    intro d
    induction d with
    | zero => rfl
    | succ d ih =>
      rw [show 63 + (d + 1) = (63 + d) + 1 by omega, div_succ, ih]
      simp only [Int.reducePow]
      omega
  intro k hk _
  unfold bit
  obtain ⟨d, rfl⟩ : ∃ d, k = 63 + d := ⟨k - 63, by omega⟩
  rw [this]
def FitsI (z : Int) : Bool := decide (-9223372036854775808 ≤ z ∧ z < 9223372036854775808)
theorem fits_of {z : Int} (h : FitsI z = true) : -9223372036854775808 ≤ z ∧ z < 9223372036854775808 := by unfold FitsI at h; rwa [decide_eq_true_eq] at h

def RefIntPost (z : Int) (w : World) (e : Ending) (w' : World) : Prop := e = .returned (.tuple (if FitsI z then #[.int .i64 z, .int .i64 0] else #[.int .i64 0, .int .i64 14])) ∧ Qu w w'
def RefIntRel (z : Int) (w : World) (i : Value) (wr : World) : Prop := ∃ k : Nat, 64 ≤ k ∧ k ≤ 80 ∧ i = .int .i64 k ∧ Alike z k ∧ Qu w wr
set_option maxRecDepth 100000 in
set_option maxHeartbeats 400000 in
theorem refInt_any (v0 : Value) (z : Int) (w : World) (hr : Sl w w.heap.size v0 (ivals (bits z 80))) (h1 : -604462909807314587353088 ≤ z) (h2 : z < 604462909807314587353088) :
    Calls Try.prog 80 #[v0] w (RefIntPost z w) := by
  obtain ⟨b, off, c, rfl, hc1, hc2, hbl, hcell⟩ := hr.ints (by simp [bits_length])
  simp only [bits_length] at *
  have HX := hid hcell; have H1 := hid h1; have H2 := hid h2
  clear hr hcell h1 h2
  go_enter Try.func80, Try.ntmps80
  go_wp2
  go_loopw [4] (fun i wr => RefIntRel z w i wr) (fun i _ => 80 - (intOf i).toNat)
  case atStart => exact ⟨64, by omega, by omega, rfl, fun k h1 h2 => by omega, Qu.refl _⟩
  case round =>
    obtain ⟨k, hk0, hk, rfl, hal, hq⟩ := hrel
    have HAL := hid hal; clear hal
    by_cases hlt : k < 80
    · have g1 : wr.cell? ⟨b, off + k, none⟩ = some (.int .i64 (bit z k)) := by
        rw [hq.cell, ← bits_getD z 80 k hlt]; exact HX.out k hlt
      have g2 : wr.cell? ⟨b, off + 63, none⟩ = some (.int .i64 (bit z 63)) := by
        rw [hq.cell, ← bits_getD z 80 63 (by omega)]; exact HX.out 63 (by omega)
      by_cases he : bit z k = bit z 63
      · have he' : (bit z k != bit z 63) = false := by simp [he]
        have HE := hid he; clear he
        go_wp2
        go_quiet (fail)
        go_wp2
        go_roundw
        case rel => exact ⟨k + 1, by omega, by omega, by go_num, fun j h1 h2 => by
          rcases Nat.lt_or_ge j k with h | h
          · exact HAL.out j h1 h
          · obtain rfl : j = k := by omega
            exact HE.out, hq.drewN _⟩
        case measure => simp [intOf]; omega
      · have he' : (bit z k != bit z 63) = true := by simp [he]
        have HE := hid he; clear he
        go_wp2
        go_quiet (fail)
        go_wp2
        go_ret2
        have hn : FitsI z = false := by
          rw [Bool.eq_false_iff]
          intro h
          have := fits_of h
          exact HE.out (fits_alike z this.1 this.2 80 k hk0 hlt)
        exact ⟨by rw [hn]; rfl, hq.drewN _⟩
    · obtain rfl : k = 80 := by omega
      have hf := alike_fits z H1.out H2.out HAL.out
      have hy : FitsI z = true := by unfold FitsI; rw [decide_eq_true_eq]; exact hf
      have hs := sl_head (B := wr.heap.size) (c := c) (by rw [hq.size]; exact hbl) HX.out hq 64 (by omega) (by omega) (by omega)
      have hn := number_any _ true z 64 wr hs (by omega) (by omega) ⟨by omega, by omega⟩ (by omega) (by omega)
      have HN := hid hn
      have HY := hid hy
      clear hf hs hn hy
      go_wp2_with fail
      refine HN.out.mono ?_
      rintro e w1 ⟨rfl, rfl⟩
      go_wp2
      go_ret2
      exact ⟨by rw [HY.out]; rfl, hq⟩

theorem Sl.of_int {w : World} {B : Nat} {A : Option Addr} {l : List Int} {k : Nat} (h : 0 < (ivals l).length → ∃ b off, A = some ⟨b, off, none⟩ ∧ b < B ∧ ∀ j u, (ivals l)[j]? = some u → w.cell? ⟨b, off + j, none⟩ = some u) (hk : k < l.length) :
    ∃ b off, A = some ⟨b, off, none⟩ ∧ b < B ∧ w.cell? ⟨b, off + k, none⟩ = some (.int .i64 (l.getD k 0)) := by
  obtain ⟨b, off, e, hb, hc⟩ := h (by rw [ivals_len]; omega)
  exact ⟨b, off, e, hb, hc k _ (by simp [ivals, List.getElem?_eq_getElem hk])⟩
theorem take_sum_succ (l : List Int) (k : Nat) (hk : k < l.length) : (l.take (k + 1)).sum = (l.take k).sum + l.getD k 0 := by
  rw [List.take_succ_eq_append_getElem hk, List.sum_append, List.getD_eq_getElem?_getD, List.getElem?_eq_getElem hk]
  simp
def RTotRel (l : List Int) (w : World) (s i : Value) (wr : World) : Prop :=
  ∃ k : Nat, k ≤ l.length ∧ i = .int .i64 k ∧ Sl wr wr.heap.size s (ivals (bits (l.take k).sum 80)) ∧ Below w.heap.size w wr
def RTotPost (l : List Int) (w : World) (e : Ending) (w' : World) : Prop := ∃ v, e = .returned v ∧ Sl w' w'.heap.size v (ivals (bits l.sum 80)) ∧ Below w.heap.size w w'
set_option maxRecDepth 100000 in
set_option maxHeartbeats 800000 in
theorem refTotal_any (v : Value) (l : List Int) (w : World) (hl : l.length ≤ 1073741824) (hv : Sl w w.heap.size v (ivals l)) :
    Calls Try.prog 81 #[v] w (RTotPost l w) := by
  obtain ⟨A, c, rfl, hc1, hc2, hA⟩ := hv
  simp only [ivals_len] at hc1 ⊢
  have HA := hid hA
  clear hA
  go_enter Try.func81, Try.ntmps81
  go_wp2_with fail
  refine (refOf_any _ _).mono ?_
  rintro e w1 ⟨v1, rfl, hv1, hb1⟩
  go_wp2
  go_loopw [3, 4] (fun s i wr => RTotRel l w s i wr) (fun _ i _ => l.length - (intOf i).toNat)
  case atStart => exact ⟨0, by omega, rfl, by simpa using hv1, hb1⟩
  case round =>
    obtain ⟨k, hk, rfl, hs, hb⟩ := hrel
    have HS := hid hs; clear hs
    by_cases hlt : k < l.length
    · obtain ⟨b, off, rfl, hbl, hcell⟩ := Sl.of_int HA.out hlt
      have hbs := hb.size
      have g1 : wr.cell? ⟨b, off + k, none⟩ = some (.int .i64 (l.getD k 0)) := cellK hb hbl hcell
      have ht := take_sum_succ l k hlt
      generalize l.getD k 0 = x at *
      have HT := hid ht; clear ht hcell
      go_wp2_with fail
      refine (refOf_any _ _).mono ?_
      rintro e w2 ⟨v2, rfl, hv2, hb2⟩
      go_wp2_with fail
      refine (refAdd_any _ _ _ _ _ ((HS.out.below hb2).more hb2.size) hv2).mono ?_
      rintro e w3 ⟨v3, rfl, hv3, hb3⟩
      go_wp2
      go_roundw
      case rel => exact ⟨k + 1, by omega, by go_num, by rw [HT.out]; exact hv3, (by repeat' first | with_reducible exact Below.refl _ _ | assumption | (with_reducible refine Below.alloc ?_ ?_ _) | (with_reducible refine Below.setCell ?_ ?_ _) | (with_reducible refine Below.drew ?_) | (with_reducible refine below_drewN ?_ _) | (with_reducible refine Below.trans ?_ (Below.mono ‹_› ?_)) | omega | (with_reducible refine le_alloc ?_) | (with_reducible refine le_setCell ?_) | (with_reducible refine le_drew ?_) | (with_reducible refine le_drewN ?_) | (with_reducible refine Nat.le_trans ?_ (Below.size ‹_›)) | (simp <;> omega))⟩
      case measure => simp [intOf]; omega
    · obtain rfl : k = l.length := by omega
      have hs := HS.out
      rw [List.take_length] at hs
      go_wp2
      go_ret
      exact ⟨_, rfl, hs, hb⟩
end Go.Proofs.Ytclhnnidbhchnaa
