/- 2 texts of this claim, in build order. -/
import Derived.Test.YtkgifbnkkmeoiaaGreatDoorPpkjbpbjh
import Derived.OwnWalk
import Derived.Lib.AppendZeros
/- The program's net: New, Len, number, Look. -/
namespace Go.Proofs.YtkgifbnkkmeoiaaGreatDoor
open Go.ChangeShapes Go.WideShapes Go.ChangeAt Go.RowKit
set_option linter.unusedVariables false
set_option linter.unusedSimpArgs false

theorem results_tmp4 {fn : Func} {P : Program} {t u v x : Tmp} (h : fn.results = #[.tmp t, .tmp u, .tmp v, .tmp x]) (tmps : Array Value) (w : World) :
    (results fn tmps).run P w = .ok (.tuple #[tmps.getD t undef, tmps.getD u undef, tmps.getD v undef, tmps.getD x undef]) w := by
  simp [results, h]
def inN (L : List PK) (p : Int) : Bool := decide (0 ≤ p ∧ p < (L.length : Int))
def lookN (L : List PK) (p : Int) : PK × Int := if inN L p = true then (L.getD p.toNat zP, 0) else (zP, 33)
theorem own_formN {w : World} {base : Nat} {e : TypeId} {sz : Nat} {v : Value} {n : Nat} {xs : List Value} (h : w.ownsRow base e sz v n xs) : ∃ A c, v = .slice A n c := by
  rcases h.2 with ⟨rfl, rfl⟩ | ⟨g, cap, cur, rfl, -⟩
  · exact ⟨none, 0, rfl⟩
  · exact ⟨_, _, rfl⟩
def NewNP (w : World) (e : Ending) (w' : World) : Prop := ∃ n, e = .returned (.pointer (some ⟨n, 0, none⟩)) ∧ NetP w' (fun k => k = n) n [] ∧ w.heap.size ≤ n ∧ Below w.heap.size w w'
theorem newN_any (w : World) : Calls Tryz.prog 33 #[] w (NewNP w) := by
  go_enter Tryz.func33, Tryz.ntmps33
  go_wp2
  go_ret
  refine ⟨w.heap.size, rfl, ⟨rfl, fun k hk => by rw [hk]; simp, by simp [go_sem], .slice none 0 0, [], by simp [go_sem], World.ownsRow_nil _ _ _ _, fun g hg => (by cases hg), RowPk.nil_ _ _⟩, Nat.le_refl _, bl1 _ _⟩
theorem lenN_any (D : Nat → Prop) (n : Nat) (L : List PK) (w : World) (h : NetP w D n L) : Calls Tryz.prog 39 #[.pointer (some ⟨n, 0, none⟩)] w (Stays (.int .i64 L.length) w) := by
  obtain ⟨h1, h2, h3, v, es, h4, h5, -, -⟩ := h
  obtain ⟨A, c, rfl⟩ := own_formN h5
  clear h5
  go_enter Tryz.func39, Tryz.ntmps39
  go_wp2
  go_ret
  exact ⟨rfl, Qu.refl _⟩
theorem number_any (n a b : Int) (w : World) : Calls Tryz.prog 16 #[.int .i64 n, .int .i64 a, .int .i64 b] w (Stays (.bool (decide (a ≤ n ∧ n ≤ b))) w) := by
  go_enter Tryz.func16, Tryz.ntmps16
  have hc : (a ≤ n ∧ n ≤ b) ∨ (a ≤ n ∧ ¬ n ≤ b) ∨ ¬ a ≤ n := by omega
  rcases hc with ⟨h1, h2⟩ | ⟨h1, h2⟩ | h1
  · go_wp2
    go_ret
    exact ⟨by simp [h1, h2], Qu.refl _⟩
  · go_wp2
    go_ret
    exact ⟨by simp [h1, h2], Qu.refl _⟩
  · have hf : decide (a ≤ n ∧ n ≤ b) = false := decide_eq_false (by omega)
    rw [hf]
    clear hf
    go_wp2
    go_ret
    exact ⟨rfl, Qu.refl _⟩
def LookPost (r : PK × Int) (w : World) (e : Ending) (w' : World) : Prop := ∃ b, e = .returned (.tuple #[.int .i64 r.1.1, .int .i64 r.1.2.1, b, .int .i64 r.2]) ∧ Own8 w' w.heap.size b r.1.2.2 ∧ Below w.heap.size w w'
set_option maxRecDepth 100000 in
set_option maxHeartbeats 1600000 in
theorem lookP_any (D : Nat → Prop) (n : Nat) (L : List PK) (p : Int) (w : World) (h : NetP w D n L) (hd : ∀ x ∈ L, x.2.2.length ≤ 1000) :
    Calls Tryz.prog 66 #[.pointer (some ⟨n, 0, none⟩), .int .i64 p] w (LookPost (lookN L p) w) := by
  obtain ⟨h1, h2, h3, v, es, h4, h5, -, h7⟩ := h
  have hnl := h2 n h1
  by_cases hin : 0 ≤ p ∧ p < (L.length : Int)
  · obtain ⟨k, rfl⟩ : ∃ k : Nat, p = (k : Int) := ⟨p.toNat, by omega⟩
    have hk : k < L.length := by omega
    obtain ⟨g, off, cap, A, c, rfl, -, hg, hlc, hcm, q0, q1, q2, hs⟩ := pk_elem (RowA.of_own h5) h7 hk
    have hlk : lookN L (k : Int) = (L.getD k zP, 0) := by unfold lookN inN; rw [if_pos (decide_eq_true hin), Int.toNat_natCast]
    have hdk : (L.getD k zP).2.2.length ≤ 1000 := by
      rw [List.getD_eq_getElem?_getD, List.getElem?_eq_getElem hk]; exact hd _ (List.getElem_mem hk)
    rw [hlk]
    generalize L.getD k zP = x at *
    obtain ⟨f, t, l⟩ := x
    simp only at q0 q1 q2 hs hdk ⊢
    obtain ⟨W0, hW0⟩ : ∃ W', W' = w.alloc (.cells #[.int .i64 f, .int .i64 t, .slice A l.length c] 101) := ⟨_, rfl⟩
    have hb0 : Below w.heap.size w W0 := by rw [hW0]; exact bl1 _ _
    have hz0 : W0.heap.size = w.heap.size + 1 := by rw [hW0]; simp
    have y0 : W0.cell? ⟨w.heap.size, 0, none⟩ = some (.int .i64 f) := by rw [hW0]; simp [go_sem]
    have y1 : W0.cell? ⟨w.heap.size, 1, none⟩ = some (.int .i64 t) := by rw [hW0]; simp [go_sem]
    have y2 : W0.cell? ⟨w.heap.size, 2, none⟩ = some (.slice A l.length c) := by rw [hW0]; simp [go_sem]
    have HC := hid (clone_any (.slice A l.length c) l W0.drew (((hs.sl.below hb0).more hb0.size).qu' ⟨1, rfl⟩) (by omega))
    have HW0 := hid hW0; have HB0 := hid hb0
    unfold maxLen at hcm
    clear h1 h2 h3 h5 h7 hd hs hW0 hb0 hlk
    go_enter Tryz.func66, Tryz.ntmps66
    go_wp2
    rw [← HW0.out]
    go_region_held3 (fun w' => w'.cell? ⟨w.heap.size, 0, none⟩ = some (.int .i64 f) ∧ w'.cell? ⟨w.heap.size, 1, none⟩ = some (.int .i64 t) ∧ w'.cell? ⟨w.heap.size, 2, none⟩ = some (.slice A l.length c)) (go_keep)
      (((with_reducible refine HC.out.mono ?_); rintro e w5 ⟨b, rfl, ho5, hb5⟩; have hb5 : Below W0.heap.size W0 w5 := (Below.refl _ _).drew.trans hb5; have y0 := cellK hb5 (by omega) y0; have y1 := cellK hb5 (by omega) y1; have y2 := cellK hb5 (by omega) y2; have HO := hid ho5; have HB5 := hid hb5; clear ho5 hb5))
    go_wp2
    ((try simp only [Exit.inBlock, Exit.then]); refine bodyPost_ret (results_tmp4 rfl _ _) rfl ?_)
    exact ⟨b, rfl, Own8.less HO.out (show w.heap.size ≤ W0.drew.heap.size from HB0.out.size), HB0.out.trans (HB5.out.mono HB0.out.size)⟩
  · have hlk : lookN L p = (zP, 33) := by unfold lookN inN; rw [if_neg (by simpa using hin)]
    rw [hlk]
    obtain ⟨A, c, rfl⟩ := own_formN h5
    have hc : p < 0 ∨ (¬ p < 0 ∧ (L.length : Int) ≤ p) := by omega
    clear h5 h7 hlk hin
    rcases hc with hc | ⟨hc, hc2⟩
    all_goals
      go_enter Tryz.func66, Tryz.ntmps66
      go_wp2
      ((try simp only [Exit.inBlock, Exit.then]); refine bodyPost_ret (results_tmp4 rfl _ _) rfl ?_)
      exact ⟨_, rfl, World.ownsRow_nil _ _ _ _, Below.refl _ _⟩
end Go.Proofs.YtkgifbnkkmeoiaaGreatDoor
/- slices.Concat and slices.Grow at packets. -/
namespace Go.Proofs.YtkgifbnkkmeoiaaGreatDoor
open Go.ChangeShapes Go.WideShapes Go.ChangeAt Go.RowKit
set_option linter.unusedVariables false
set_option linter.unusedSimpArgs false

/-- A slice that reads as these cells, size by size. -/
def SlK (w : World) (B sz : Nat) (v : Value) (n : Nat) (xs : List Value) : Prop :=
  xs.length = n * sz ∧ ∃ A c, v = .slice A n c ∧ n ≤ c ∧ c ≤ maxLen ∧ (0 < n → ∃ b off, A = some ⟨b, off, none⟩ ∧ b < B ∧ ∀ j u, xs[j]? = some u → w.cell? ⟨b, off + j, none⟩ = some u)
theorem SlK.form {w : World} {B sz : Nat} {v : Value} {n : Nat} {xs : List Value} (h : SlK w B sz v n xs) : ∃ A c, v = .slice A n c := by
  obtain ⟨-, A, c, e, -⟩ := h
  exact ⟨A, c, e⟩
theorem SlK.below {w w' : World} {B sz : Nat} {v : Value} {n : Nat} {xs : List Value} (h : SlK w B sz v n xs) (hb : Below B w w') : SlK w' B sz v n xs := by
  obtain ⟨h1, A, c, e, h2, h3, h4⟩ := h
  refine ⟨h1, A, c, e, h2, h3, fun h0 => ?_⟩
  obtain ⟨b, off, e1, hlt, hc⟩ := h4 h0
  exact ⟨b, off, e1, hlt, fun j u hu => cellK hb hlt (hc j u hu)⟩
theorem SlK.more {w : World} {B B' sz : Nat} {v : Value} {n : Nat} {xs : List Value} (h : SlK w B sz v n xs) (hb : B ≤ B') : SlK w B' sz v n xs := by
  obtain ⟨h1, A, c, e, h2, h3, h4⟩ := h
  refine ⟨h1, A, c, e, h2, h3, fun h0 => ?_⟩
  obtain ⟨b, off, e1, hlt, hc⟩ := h4 h0
  exact ⟨b, off, e1, by omega, hc⟩
theorem SlK.src {P : Program} {w : World} {B sz : Nat} {v : Value} {n : Nat} {xs : List Value} {tx e' : TypeId} (h : SlK w B sz v n xs) (hk : P.underlying tx = some (.slice e')) (h1 : ∀ u ∈ xs, u.oneCell' = true) : Src P sz tx v n xs w := by
  obtain ⟨hl, A, c, rfl, h2, h3, h4⟩ := h
  rcases Nat.eq_zero_or_pos n with h0 | h0
  · subst h0
    obtain rfl : xs = [] := List.eq_nil_of_length_eq_zero (by simpa using hl)
    cases A with
    | none => exact Src.ofNil w hk c
    | some a => exact Src.ofSlice w hk a 0 c [] (by simp) (by simp) h1
  · obtain ⟨b, off, rfl, _, hc⟩ := h4 h0
    exact Src.ofSlice w hk ⟨b, off, none⟩ _ c xs hl (cells_add hc) h1
theorem SlK.of_sl {w : World} {B : Nat} {v : Value} {xs : List Value} (h : Sl w B v xs) : SlK w B 1 v xs.length xs := by
  obtain ⟨A, c, e, h2, h3, h4⟩ := h
  exact ⟨by simp, A, c, e, h2, h3, h4⟩
set_option maxRecDepth 100000 in
set_option maxHeartbeats 800000 in
theorem growP_any (m : Nat) (hm : m ≤ 1000000) (w : World) : Calls Tryz.prog 91 #[.slice none 0 0, .int .i64 m] w fun e w' => ∃ v, e = .returned v ∧ w'.ownsRow w.heap.size 101 3 v 0 [] ∧ Below w.heap.size w w' := by
  obtain ⟨i0, hi, hz0, hz1, hz2⟩ := info_parts info_pk
  go_enter Tryz.func91, Tryz.ntmps91
  have hw0 : IntKind.i64.wrap ((m : Int) - 0) = (m : Int) := IntWalk.i64_in _ (by omega)
  by_cases h0 : m = 0
  · subst h0
    go_wp2
    go_ret
    exact ⟨_, rfl, World.ownsRow_nil _ _ _ _, Below.refl _ _⟩
  · have hpos : 0 < m := by omega
    have hrun := Lib.run_append_nil_zeros (P := Tryz.prog) w 97 3 97 101 i0 (.agg #[.int .i64 0, .int .i64 0, .slice none 0 0]) .i64 .i64 Tryz.underlying97 Tryz.underlying3 hi hz0 m hpos (by omega) (by omega) (by rw [hz2]; omega)
    have hge := grownCap_ge w m 0 101
    have hcm := grownCap_le_maxLen w m 0 101 (by unfold maxLen; omega)
    obtain ⟨cap, hcap⟩ : ∃ cap, cap = grownCap w m 0 101 := ⟨_, rfl⟩
    rw [← hcap] at hrun hge hcm
    have hown : (w.drew.alloc (.cells (Builtin.zeroCells (Value.cells (.agg #[.int .i64 0, .int .i64 0, .slice none 0 0])) m ++ Builtin.zeroCells (Value.cells (.agg #[.int .i64 0, .int .i64 0, .slice none 0 0])) (cap - m)) 101)).ownsRow w.heap.size 101 3 (.slice (some ⟨w.heap.size, 0, none⟩) 0 cap) 0 [] := by
      refine ⟨rfl, .inr ⟨w.heap.size, cap, _, rfl, Nat.le_refl _, heap_alloc_new w.drew _, Nat.zero_le _, hcm, ?_, by simp⟩⟩
      rw [Array.size_append, size_zeroCells, size_zeroCells, show (Value.cells (.agg #[.int .i64 0, .int .i64 0, .slice none 0 0])).size = 3 from rfl, ← Nat.add_mul]
      congr 1
      omega
    have hb : Below w.heap.size w (w.drew.alloc (.cells (Builtin.zeroCells (Value.cells (.agg #[.int .i64 0, .int .i64 0, .slice none 0 0])) m ++ Builtin.zeroCells (Value.cells (.agg #[.int .i64 0, .int .i64 0, .slice none 0 0])) (cap - m)) 101)) := (Below.refl _ _).drew.alloc (Nat.le_refl _) _
    generalize (w.drew.alloc (.cells (Builtin.zeroCells (Value.cells (.agg #[.int .i64 0, .int .i64 0, .slice none 0 0])) m ++ Builtin.zeroCells (Value.cells (.agg #[.int .i64 0, .int .i64 0, .slice none 0 0])) (cap - m)) 101)) = w2 at *
    have HO := hid hown; have HB := hid hb; have HR := hid hrun
    clear hcap hown hb hrun
    unfold maxLen at hcm
    go_wp2_with (at_builtin; refine Lib.wpList_append_run _ rfl _ _ _ _ rfl _ _ rfl rfl _ _ HR.out ?_)
    go_ret
    exact ⟨_, rfl, HO.out, HB.out⟩
def Ct1P (n1 n2 : Nat) (w : World) (s i : Value) (wr : World) : Prop := ∃ k : Nat, k ≤ 2 ∧ i = .int .i64 k ∧ s = .int .i64 ((if k = 0 then 0 else if k = 1 then n1 else n1 + n2 : Nat) : Int) ∧ w = wr
def Ct2P (n1 n2 : Nat) (xs1 xs2 : List Value) (w : World) (s i : Value) (wr : World) : Prop :=
  ∃ k : Nat, k ≤ 2 ∧ i = .int .i64 k ∧ wr.ownsRow w.heap.size 101 3 s (if k = 0 then 0 else if k = 1 then n1 else n1 + n2) (if k = 0 then [] else if k = 1 then xs1 else xs1 ++ xs2) ∧ Below w.heap.size w wr
set_option maxRecDepth 100000 in
set_option maxHeartbeats 1600000 in
theorem concatP_any (N : Nat) (v1 v2 : Value) (n1 n2 : Nat) (xs1 xs2 : List Value) (w : World) (hN : N < w.heap.size) (h0 : w.cell? ⟨N, 0, none⟩ = some v1) (h1 : w.cell? ⟨N, 1, none⟩ = some v2) (s1 : SlK w w.heap.size 3 v1 n1 xs1) (s2 : SlK w w.heap.size 3 v2 n2 xs2)
    (o1 : ∀ u ∈ xs1, u.oneCell' = true) (o2 : ∀ u ∈ xs2, u.oneCell' = true) (hn1 : n1 ≤ 100000) (hn2 : n2 ≤ 100000) :
    Calls Tryz.prog 77 #[.slice (some ⟨N, 0, none⟩) 2 2] w fun e w' => ∃ v, e = .returned v ∧ w'.ownsRow w.heap.size 101 3 v (n1 + n2) (xs1 ++ xs2) ∧ Below w.heap.size w w' := by
  obtain ⟨i0, hi, hz0, hz1, hz2⟩ := info_parts info_pk
  have HS1 := hid s1; have HS2 := hid s2
  obtain ⟨A1, c1, rfl⟩ := s1.form
  obtain ⟨A2, c2, rfl⟩ := s2.form
  have HG := hid (growP_any (n1 + n2) (by omega) w)
  have HO1 := hid o1; have HO2 := hid o2
  have hw1 : IntKind.i64.wrap ((0 : Int) + (n1 : Int)) = (n1 : Int) := by rw [IntWalk.i64_in _ (by omega)]; omega
  have hw2 : IntKind.i64.wrap ((n1 : Int) + (n2 : Int)) = ((n1 + n2 : Nat) : Int) := by rw [IntWalk.i64_in _ (by omega)]; omega
  have HW1 := hid hw1; have HW2 := hid hw2
  clear s1 s2 o1 o2 hw1 hw2
  go_enter Tryz.func77, Tryz.ntmps77
  go_wp2
  go_loopw [3, 11] (fun s i wr => Ct1P n1 n2 w s i wr) (fun _ i _ => 2 - (intOf i).toNat)
  case atStart => exact ⟨0, by omega, rfl, rfl, rfl⟩
  case round =>
    obtain ⟨k, hk, rfl, rfl, rfl⟩ := hrel
    have hk3 : k = 0 ∨ k = 1 ∨ k = 2 := by omega
    rcases hk3 with rfl | rfl | rfl
    · simp only [if_true]
      have w1 := HW1.out
      go_wp2
      go_roundw
      case rel => exact ⟨1, by omega, by go_num, by simp, rfl⟩
      case measure => simp [intOf]
    · simp only [if_neg (show ¬ (1 = 0) by omega), if_true]
      have w1 := HW2.out
      have hnn : ¬ ((n1 : Int) + (n2 : Int) < 0) := by omega
      go_wp2
      go_roundw
      case rel => exact ⟨2, by omega, by go_num, by simp, rfl⟩
      case measure => simp [intOf]
    · simp only [if_neg (show ¬ (2 = 0) by omega), if_neg (show ¬ (2 = 1) by omega)]
      go_wp2_with fail
      refine HG.out.mono ?_
      rintro e w1 ⟨v, rfl, ho1, hb1⟩
      have hz1' := hb1.size
      have hN1 : N < w1.heap.size := by omega
      have HO := hid ho1; have HB := hid hb1
      clear ho1 hb1
      go_wp2
      go_loopw [6, 27] (fun s i wr => Ct2P n1 n2 xs1 xs2 w s i wr) (fun _ i _ => 2 - (intOf i).toNat)
      case atStart => exact ⟨0, by omega, rfl, HO.out, HB.out⟩
      case round =>
        clear HO HB
        obtain ⟨k, hk, rfl, ho, hb⟩ := hrel
        have hsb := hb.size
        have y0 := cellK hb hN h0
        have y1 := cellK hb hN h1
        have hk3 : k = 0 ∨ k = 1 ∨ k = 2 := by omega
        rcases hk3 with rfl | rfl | rfl
        · simp only [if_true] at ho
          have HB := hid hb; have HO := hid ho
          have HSR := hid ((HS1.out.below hb).src (tx := 97) Tryz.underlying97 HO1.out)
          clear hb ho
          go_wp2_with (at_builtin; refine stop_here ?_)
          refine go_on ?_
          refine app_own_at (.tmp 31) (.tmp 32) 97 97 rfl rfl w.heap.size 101 i0 (.agg #[.int .i64 0, .int .i64 0, .slice none 0 0]) 3 40 Tryz.underlying97 hi hz0 hz1 hz2 rfl (by decide) _ _ _ rfl HO.out (.slice A1 n1 c1) n1 xs1 rfl HSR.out (by simp only [maxLen]; omega) (by omega) (by omega) ?_
          intro v8 w8 hown8 hg8 hb8 hat8
          rw [Nat.zero_add, List.nil_append] at hown8
          have HO8 := hid hown8; have HB8 := hid (HB.out.trans hb8)
          clear hown8 hg8 hb8 hat8
          go_wp2
          go_roundw
          case rel => exact ⟨1, by omega, by go_num, by simpa using HO8.out, HB8.out⟩
          case measure => simp [intOf]
        · simp only [if_neg (show ¬ (1 = 0) by omega), if_true] at ho
          have HB := hid hb; have HO := hid ho
          have HSR := hid ((HS2.out.below hb).src (tx := 97) Tryz.underlying97 HO2.out)
          clear hb ho
          go_wp2_with (at_builtin; refine stop_here ?_)
          refine go_on ?_
          refine app_own_at (.tmp 31) (.tmp 32) 97 97 rfl rfl w.heap.size 101 i0 (.agg #[.int .i64 0, .int .i64 0, .slice none 0 0]) 3 40 Tryz.underlying97 hi hz0 hz1 hz2 rfl (by decide) _ _ _ rfl HO.out (.slice A2 n2 c2) n2 xs2 rfl HSR.out (by simp only [maxLen]; omega) (by omega) (by omega) ?_
          intro v8 w8 hown8 hg8 hb8 hat8
          have HO8 := hid hown8; have HB8 := hid (HB.out.trans hb8)
          clear hown8 hg8 hb8 hat8
          go_wp2
          go_roundw
          case rel => exact ⟨2, by omega, by go_num, by simpa using HO8.out, HB8.out⟩
          case measure => simp [intOf]
        · simp only [if_neg (show ¬ (2 = 0) by omega), if_neg (show ¬ (2 = 1) by omega)] at ho
          have HB := hid hb; have HO := hid ho
          clear hb ho
          go_wp2
          go_ret
          exact ⟨_, rfl, HO.out, HB.out⟩
end Go.Proofs.YtkgifbnkkmeoiaaGreatDoor
