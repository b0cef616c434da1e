/- slices.Concat and slices.Grow at packets. -/
import Derived.Test.YtkgifbnkkmeoiaaLnkLook
import Derived.Lib.AppendZeros
import Derived.OwnWalk
namespace Go.Proofs.Ytkgifbnkkmeoiaa
open Go.ChangeShapes Go.WideShapes Go.ChangeAt Go.RowKit
set_option linter.unusedVariables false
set_option linter.unusedSimpArgs false

/-- A slice that reads as these cells, size by size. -/
def SlK (w : World) (B sz : Nat) (v : Value) (n : Nat) (xs : List Value) : Prop :=
  xs.length = n * sz ∧ ∃ A c, v = .slice A n c ∧ n ≤ c ∧ c ≤ maxLen ∧ (0 < n → ∃ b off, A = some ⟨b, off, none⟩ ∧ b < B ∧ ∀ j u, xs[j]? = some u → w.cell? ⟨b, off + j, none⟩ = some u)
theorem SlK.form {w : World} {B sz : Nat} {v : Value} {n : Nat} {xs : List Value} (h : SlK w B sz v n xs) : ∃ A c, v = .slice A n c := by
  obtain ⟨-, A, c, e, -⟩ := h
  exact ⟨A, c, e⟩
theorem SlK.below {w w' : World} {B sz : Nat} {v : Value} {n : Nat} {xs : List Value} (h : SlK w B sz v n xs) (hb : Below B w w') : SlK w' B sz v n xs := by
  obtain ⟨h1, A, c, e, h2, h3, h4⟩ := h
  refine ⟨h1, A, c, e, h2, h3, fun h0 => ?_⟩
  obtain ⟨b, off, e1, hlt, hc⟩ := h4 h0
  exact ⟨b, off, e1, hlt, fun j u hu => cellK hb hlt (hc j u hu)⟩
theorem SlK.more {w : World} {B B' sz : Nat} {v : Value} {n : Nat} {xs : List Value} (h : SlK w B sz v n xs) (hb : B ≤ B') : SlK w B' sz v n xs := by
  obtain ⟨h1, A, c, e, h2, h3, h4⟩ := h
  refine ⟨h1, A, c, e, h2, h3, fun h0 => ?_⟩
  obtain ⟨b, off, e1, hlt, hc⟩ := h4 h0
  exact ⟨b, off, e1, by omega, hc⟩
theorem SlK.src {P : Program} {w : World} {B sz : Nat} {v : Value} {n : Nat} {xs : List Value} {tx e' : TypeId} (h : SlK w B sz v n xs) (hk : P.underlying tx = some (.slice e')) (h1 : ∀ u ∈ xs, u.oneCell' = true) : Src P sz tx v n xs w := by
  obtain ⟨hl, A, c, rfl, h2, h3, h4⟩ := h
  rcases Nat.eq_zero_or_pos n with h0 | h0
  · subst h0
    obtain rfl : xs = [] := List.eq_nil_of_length_eq_zero (by simpa using hl)
    cases A with
    | none => exact Src.ofNil w hk c
    | some a => exact Src.ofSlice w hk a 0 c [] (by simp) (by simp) h1
  · obtain ⟨b, off, rfl, _, hc⟩ := h4 h0
    exact Src.ofSlice w hk ⟨b, off, none⟩ _ c xs hl (cells_add hc) h1
theorem SlK.of_sl {w : World} {B : Nat} {v : Value} {xs : List Value} (h : Sl w B v xs) : SlK w B 1 v xs.length xs := by
  obtain ⟨A, c, e, h2, h3, h4⟩ := h
  exact ⟨by simp, A, c, e, h2, h3, h4⟩
set_option maxRecDepth 100000 in
set_option maxHeartbeats 800000 in
theorem growP_any (m : Nat) (hm : m ≤ 1000000) (w : World) : Calls Try.prog 58 #[.slice none 0 0, .int .i64 m] w fun e w' => ∃ v, e = .returned v ∧ w'.ownsRow w.heap.size 69 3 v 0 [] ∧ Below w.heap.size w w' := by
  obtain ⟨i0, hi, hz0, hz1, hz2⟩ := info_parts info_pk
  go_enter Try.func58, Try.ntmps58
  have hw0 : IntKind.i64.wrap ((m : Int) - 0) = (m : Int) := IntWalk.i64_in _ (by omega)
  by_cases h0 : m = 0
  · subst h0
    go_wp2
    go_ret
    exact ⟨_, rfl, World.ownsRow_nil _ _ _ _, Below.refl _ _⟩
  · have hpos : 0 < m := by omega
    have hrun := Lib.run_append_nil_zeros (P := Try.prog) w 47 3 47 69 i0 (.agg #[.int .i64 0, .int .i64 0, .slice none 0 0]) .i64 .i64 Try.underlying47 Try.underlying3 hi hz0 m hpos (by omega) (by omega) (by rw [hz2]; omega)
    have hge := grownCap_ge w m 0 69
    have hcm := grownCap_le_maxLen w m 0 69 (by unfold maxLen; omega)
    obtain ⟨cap, hcap⟩ : ∃ cap, cap = grownCap w m 0 69 := ⟨_, rfl⟩
    rw [← hcap] at hrun hge hcm
    have hown : (w.drew.alloc (.cells (Builtin.zeroCells (Value.cells (.agg #[.int .i64 0, .int .i64 0, .slice none 0 0])) m ++ Builtin.zeroCells (Value.cells (.agg #[.int .i64 0, .int .i64 0, .slice none 0 0])) (cap - m)) 69)).ownsRow w.heap.size 69 3 (.slice (some ⟨w.heap.size, 0, none⟩) 0 cap) 0 [] := by
      refine ⟨rfl, .inr ⟨w.heap.size, cap, _, rfl, Nat.le_refl _, heap_alloc_new w.drew _, Nat.zero_le _, hcm, ?_, by simp⟩⟩
      rw [Array.size_append, size_zeroCells, size_zeroCells, show (Value.cells (.agg #[.int .i64 0, .int .i64 0, .slice none 0 0])).size = 3 from rfl, ← Nat.add_mul]
      congr 1
      omega
    have hb : Below w.heap.size w (w.drew.alloc (.cells (Builtin.zeroCells (Value.cells (.agg #[.int .i64 0, .int .i64 0, .slice none 0 0])) m ++ Builtin.zeroCells (Value.cells (.agg #[.int .i64 0, .int .i64 0, .slice none 0 0])) (cap - m)) 69)) := (Below.refl _ _).drew.alloc (Nat.le_refl _) _
    generalize (w.drew.alloc (.cells (Builtin.zeroCells (Value.cells (.agg #[.int .i64 0, .int .i64 0, .slice none 0 0])) m ++ Builtin.zeroCells (Value.cells (.agg #[.int .i64 0, .int .i64 0, .slice none 0 0])) (cap - m)) 69)) = w2 at *
    have HO := hid hown; have HB := hid hb; have HR := hid hrun
    clear hcap hown hb hrun
    unfold maxLen at hcm
    go_wp2_with (at_builtin; refine Lib.wpList_append_run _ rfl _ _ _ _ rfl _ _ rfl rfl _ _ HR.out ?_)
    go_ret
    exact ⟨_, rfl, HO.out, HB.out⟩
def Ct1P (n1 n2 : Nat) (w : World) (s i : Value) (wr : World) : Prop := ∃ k : Nat, k ≤ 2 ∧ i = .int .i64 k ∧ s = .int .i64 ((if k = 0 then 0 else if k = 1 then n1 else n1 + n2 : Nat) : Int) ∧ w = wr
def Ct2P (n1 n2 : Nat) (xs1 xs2 : List Value) (w : World) (s i : Value) (wr : World) : Prop :=
  ∃ k : Nat, k ≤ 2 ∧ i = .int .i64 k ∧ wr.ownsRow w.heap.size 69 3 s (if k = 0 then 0 else if k = 1 then n1 else n1 + n2) (if k = 0 then [] else if k = 1 then xs1 else xs1 ++ xs2) ∧ Below w.heap.size w wr
set_option maxRecDepth 100000 in
set_option maxHeartbeats 1600000 in
theorem concatP_any (N : Nat) (v1 v2 : Value) (n1 n2 : Nat) (xs1 xs2 : List Value) (w : World) (hN : N < w.heap.size) (h0 : w.cell? ⟨N, 0, none⟩ = some v1) (h1 : w.cell? ⟨N, 1, none⟩ = some v2) (s1 : SlK w w.heap.size 3 v1 n1 xs1) (s2 : SlK w w.heap.size 3 v2 n2 xs2)
    (o1 : ∀ u ∈ xs1, u.oneCell' = true) (o2 : ∀ u ∈ xs2, u.oneCell' = true) (hn1 : n1 ≤ 100000) (hn2 : n2 ≤ 100000) :
    Calls Try.prog 41 #[.slice (some ⟨N, 0, none⟩) 2 2] w fun e w' => ∃ v, e = .returned v ∧ w'.ownsRow w.heap.size 69 3 v (n1 + n2) (xs1 ++ xs2) ∧ Below w.heap.size w w' := by
  obtain ⟨i0, hi, hz0, hz1, hz2⟩ := info_parts info_pk
  have HS1 := hid s1; have HS2 := hid s2
  obtain ⟨A1, c1, rfl⟩ := s1.form
  obtain ⟨A2, c2, rfl⟩ := s2.form
  have HG := hid (growP_any (n1 + n2) (by omega) w)
  have HO1 := hid o1; have HO2 := hid o2
  have hw1 : IntKind.i64.wrap ((0 : Int) + (n1 : Int)) = (n1 : Int) := by rw [IntWalk.i64_in _ (by omega)]; omega
  have hw2 : IntKind.i64.wrap ((n1 : Int) + (n2 : Int)) = ((n1 + n2 : Nat) : Int) := by rw [IntWalk.i64_in _ (by omega)]; omega
  have HW1 := hid hw1; have HW2 := hid hw2
  clear s1 s2 o1 o2 hw1 hw2
  go_enter Try.func41, Try.ntmps41
  go_wp2
  go_loopw [3, 11] (fun s i wr => Ct1P n1 n2 w s i wr) (fun _ i _ => 2 - (intOf i).toNat)
  case atStart => exact ⟨0, by omega, rfl, rfl, rfl⟩
  case round =>
    obtain ⟨k, hk, rfl, rfl, rfl⟩ := hrel
    have hk3 : k = 0 ∨ k = 1 ∨ k = 2 := by omega
    rcases hk3 with rfl | rfl | rfl
    · simp only [if_true]
      have w1 := HW1.out
      go_wp2
      go_roundw
      case rel => exact ⟨1, by omega, by go_num, by simp, rfl⟩
      case measure => simp [intOf]
    · simp only [if_neg (show ¬ (1 = 0) by omega), if_true]
      have w1 := HW2.out
      have hnn : ¬ ((n1 : Int) + (n2 : Int) < 0) := by omega
      go_wp2
      go_roundw
      case rel => exact ⟨2, by omega, by go_num, by simp, rfl⟩
      case measure => simp [intOf]
    · simp only [if_neg (show ¬ (2 = 0) by omega), if_neg (show ¬ (2 = 1) by omega)]
      go_wp2_with fail
      refine HG.out.mono ?_
      rintro e w1 ⟨v, rfl, ho1, hb1⟩
      have hz1' := hb1.size
      have hN1 : N < w1.heap.size := by omega
      have HO := hid ho1; have HB := hid hb1
      clear ho1 hb1
      go_wp2
      go_loopw [6, 27] (fun s i wr => Ct2P n1 n2 xs1 xs2 w s i wr) (fun _ i _ => 2 - (intOf i).toNat)
      case atStart => exact ⟨0, by omega, rfl, HO.out, HB.out⟩
      case round =>
        clear HO HB
        obtain ⟨k, hk, rfl, ho, hb⟩ := hrel
        have hsb := hb.size
        have y0 := cellK hb hN h0
        have y1 := cellK hb hN h1
        have hk3 : k = 0 ∨ k = 1 ∨ k = 2 := by omega
        rcases hk3 with rfl | rfl | rfl
        · simp only [if_true] at ho
          have HB := hid hb; have HO := hid ho
          have HSR := hid ((HS1.out.below hb).src (tx := 47) Try.underlying47 HO1.out)
          clear hb ho
          go_wp2_with (at_builtin; refine stop_here ?_)
          refine go_on ?_
          refine app_own_at (.tmp 31) (.tmp 32) 47 47 rfl rfl w.heap.size 69 i0 (.agg #[.int .i64 0, .int .i64 0, .slice none 0 0]) 3 40 Try.underlying47 hi hz0 hz1 hz2 rfl (by decide) _ _ _ rfl HO.out (.slice A1 n1 c1) n1 xs1 rfl HSR.out (by simp only [maxLen]; omega) (by omega) (by omega) ?_
          intro v8 w8 hown8 hg8 hb8 hat8
          rw [Nat.zero_add, List.nil_append] at hown8
          have HO8 := hid hown8; have HB8 := hid (HB.out.trans hb8)
          clear hown8 hg8 hb8 hat8
          go_wp2
          go_roundw
          case rel => exact ⟨1, by omega, by go_num, by simpa using HO8.out, HB8.out⟩
          case measure => simp [intOf]
        · simp only [if_neg (show ¬ (1 = 0) by omega), if_true] at ho
          have HB := hid hb; have HO := hid ho
          have HSR := hid ((HS2.out.below hb).src (tx := 47) Try.underlying47 HO2.out)
          clear hb ho
          go_wp2_with (at_builtin; refine stop_here ?_)
          refine go_on ?_
          refine app_own_at (.tmp 31) (.tmp 32) 47 47 rfl rfl w.heap.size 69 i0 (.agg #[.int .i64 0, .int .i64 0, .slice none 0 0]) 3 40 Try.underlying47 hi hz0 hz1 hz2 rfl (by decide) _ _ _ rfl HO.out (.slice A2 n2 c2) n2 xs2 rfl HSR.out (by simp only [maxLen]; omega) (by omega) (by omega) ?_
          intro v8 w8 hown8 hg8 hb8 hat8
          have HO8 := hid hown8; have HB8 := hid (HB.out.trans hb8)
          clear hown8 hg8 hb8 hat8
          go_wp2
          go_roundw
          case rel => exact ⟨2, by omega, by go_num, by simpa using HO8.out, HB8.out⟩
          case measure => simp [intOf]
        · simp only [if_neg (show ¬ (2 = 0) by omega), if_neg (show ¬ (2 = 1) by omega)] at ho
          have HB := hid hb; have HO := hid ho
          clear hb ho
          go_wp2
          go_ret
          exact ⟨_, rfl, HO.out, HB.out⟩
end Go.Proofs.Ytkgifbnkkmeoiaa
