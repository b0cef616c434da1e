/- 2 texts of this claim, in build order. -/
import Derived.Test.YtkgifbnkkmeoiaaGreatDoorPalgkbaji
import Derived.Lib.AppendZeros
import Derived.OwnWalk
import Derived.Test.YtkgifbnkkmeoiaaGreatDoorPbkbinjci
/- slices.Concat and slices.Grow at bytes. -/
namespace Go.Proofs.YtkgifbnkkmeoiaaGreatDoor
open Go.ChangeShapes Go.WideShapes Go.ChangeAt Go.RowKit
set_option linter.unusedVariables false
set_option linter.unusedSimpArgs false


set_option maxRecDepth 100000 in
set_option maxHeartbeats 800000 in
theorem growB_any (m : Nat) (hm : m ≤ 1000000) (w : World) : Calls Tryz.prog 71 #[.slice none 0 0, .int .i64 m] w fun e w' => ∃ v, e = .returned v ∧ w'.ownsRow w.heap.size 5 1 v 0 [] ∧ Below w.heap.size w w' := by
  obtain ⟨i0, hi, hz0, hz1, hz2⟩ := info_parts info_byte
  go_enter Tryz.func71, Tryz.ntmps71
  have hw0 : IntKind.i64.wrap ((m : Int) - 0) = (m : Int) := IntWalk.i64_in _ (by omega)
  by_cases h0 : m = 0
  · subst h0
    go_wp2
    go_ret
    exact ⟨_, rfl, World.ownsRow_nil _ _ _ _, Below.refl _ _⟩
  · have hpos : 0 < m := by omega
    have hrun := Lib.run_append_nil_zeros (P := Tryz.prog) w 23 3 23 5 i0 (.int .u8 0) .i64 .i64 Tryz.underlying23 Tryz.underlying3 hi hz0 m hpos (by omega) (by omega) (by rw [hz2]; omega)
    have hge := grownCap_ge w m 0 5
    have hcm := grownCap_le_maxLen w m 0 5 (by unfold maxLen; omega)
    obtain ⟨cap, hcap⟩ : ∃ cap, cap = grownCap w m 0 5 := ⟨_, rfl⟩
    rw [← hcap] at hrun hge hcm
    have hown : (w.drew.alloc (.cells (Builtin.zeroCells (Value.cells (.int .u8 0)) m ++ Builtin.zeroCells (Value.cells (.int .u8 0)) (cap - m)) 5)).ownsRow w.heap.size 5 1 (.slice (some ⟨w.heap.size, 0, none⟩) 0 cap) 0 [] := by
      refine ⟨rfl, .inr ⟨w.heap.size, cap, _, rfl, Nat.le_refl _, heap_alloc_new w.drew _, Nat.zero_le _, hcm, ?_, by simp⟩⟩
      rw [Array.size_append, size_zeroCells, size_zeroCells, show (Value.cells (.int .u8 0)).size = 1 from rfl, ← Nat.add_mul]
      congr 1
      omega
    have hb : Below w.heap.size w (w.drew.alloc (.cells (Builtin.zeroCells (Value.cells (.int .u8 0)) m ++ Builtin.zeroCells (Value.cells (.int .u8 0)) (cap - m)) 5)) := (Below.refl _ _).drew.alloc (Nat.le_refl _) _
    generalize (w.drew.alloc (.cells (Builtin.zeroCells (Value.cells (.int .u8 0)) m ++ Builtin.zeroCells (Value.cells (.int .u8 0)) (cap - m)) 5)) = w2 at *
    have HO := hid hown; have HB := hid hb; have HR := hid hrun
    clear hcap hown hb hrun
    unfold maxLen at hcm
    go_wp2_with (at_builtin; refine Lib.wpList_append_run _ rfl _ _ _ _ rfl _ _ rfl rfl _ _ HR.out ?_)
    go_ret
    exact ⟨_, rfl, HO.out, HB.out⟩
def Ct1B (n1 n2 : Nat) (w : World) (s i : Value) (wr : World) : Prop := ∃ k : Nat, k ≤ 2 ∧ i = .int .i64 k ∧ s = .int .i64 ((if k = 0 then 0 else if k = 1 then n1 else n1 + n2 : Nat) : Int) ∧ w = wr
def Ct2B (n1 n2 : Nat) (xs1 xs2 : List Value) (w : World) (s i : Value) (wr : World) : Prop :=
  ∃ k : Nat, k ≤ 2 ∧ i = .int .i64 k ∧ wr.ownsRow w.heap.size 5 1 s (if k = 0 then 0 else if k = 1 then n1 else n1 + n2) (if k = 0 then [] else if k = 1 then xs1 else xs1 ++ xs2) ∧ Below w.heap.size w wr
set_option maxRecDepth 100000 in
set_option maxHeartbeats 1600000 in
theorem concatB_any (N : Nat) (v1 v2 : Value) (n1 n2 : Nat) (xs1 xs2 : List Value) (w : World) (hN : N < w.heap.size) (h0 : w.cell? ⟨N, 0, none⟩ = some v1) (h1 : w.cell? ⟨N, 1, none⟩ = some v2) (s1 : SlK w w.heap.size 1 v1 n1 xs1) (s2 : SlK w w.heap.size 1 v2 n2 xs2)
    (o1 : ∀ u ∈ xs1, u.oneCell' = true) (o2 : ∀ u ∈ xs2, u.oneCell' = true) (hn1 : n1 ≤ 100000) (hn2 : n2 ≤ 100000) :
    Calls Tryz.prog 50 #[.slice (some ⟨N, 0, none⟩) 2 2] w fun e w' => ∃ v, e = .returned v ∧ w'.ownsRow w.heap.size 5 1 v (n1 + n2) (xs1 ++ xs2) ∧ Below w.heap.size w w' := by
  obtain ⟨i0, hi, hz0, hz1, hz2⟩ := info_parts info_byte
  have HS1 := hid s1; have HS2 := hid s2
  obtain ⟨A1, c1, rfl⟩ := s1.form
  obtain ⟨A2, c2, rfl⟩ := s2.form
  have HG := hid (growB_any (n1 + n2) (by omega) w)
  have HO1 := hid o1; have HO2 := hid o2
  have hw1 : IntKind.i64.wrap ((0 : Int) + (n1 : Int)) = (n1 : Int) := by rw [IntWalk.i64_in _ (by omega)]; omega
  have hw2 : IntKind.i64.wrap ((n1 : Int) + (n2 : Int)) = ((n1 + n2 : Nat) : Int) := by rw [IntWalk.i64_in _ (by omega)]; omega
  have HW1 := hid hw1; have HW2 := hid hw2
  clear s1 s2 o1 o2 hw1 hw2
  go_enter Tryz.func50, Tryz.ntmps50
  go_wp2
  go_loopw [3, 11] (fun s i wr => Ct1B n1 n2 w s i wr) (fun _ i _ => 2 - (intOf i).toNat)
  case atStart => exact ⟨0, by omega, rfl, rfl, rfl⟩
  case round =>
    obtain ⟨k, hk, rfl, rfl, rfl⟩ := hrel
    have hk3 : k = 0 ∨ k = 1 ∨ k = 2 := by omega
    rcases hk3 with rfl | rfl | rfl
    · simp only [if_true]
      have w1 := HW1.out
      go_wp2
      go_roundw
      case rel => exact ⟨1, by omega, by go_num, by simp, rfl⟩
      case measure => simp [intOf]
    · simp only [if_neg (show ¬ (1 = 0) by omega), if_true]
      have w1 := HW2.out
      have hnn : ¬ ((n1 : Int) + (n2 : Int) < 0) := by omega
      go_wp2
      go_roundw
      case rel => exact ⟨2, by omega, by go_num, by simp, rfl⟩
      case measure => simp [intOf]
    · simp only [if_neg (show ¬ (2 = 0) by omega), if_neg (show ¬ (2 = 1) by omega)]
      go_wp2_with fail
      refine HG.out.mono ?_
      rintro e w1 ⟨v, rfl, ho1, hb1⟩
      have hz1' := hb1.size
      have hN1 : N < w1.heap.size := by omega
      have HO := hid ho1; have HB := hid hb1
      clear ho1 hb1
      go_wp2
      go_loopw [6, 27] (fun s i wr => Ct2B n1 n2 xs1 xs2 w s i wr) (fun _ i _ => 2 - (intOf i).toNat)
      case atStart => exact ⟨0, by omega, rfl, HO.out, HB.out⟩
      case round =>
        clear HO HB
        obtain ⟨k, hk, rfl, ho, hb⟩ := hrel
        have hsb := hb.size
        have y0 := cellK hb hN h0
        have y1 := cellK hb hN h1
        have hk3 : k = 0 ∨ k = 1 ∨ k = 2 := by omega
        rcases hk3 with rfl | rfl | rfl
        · simp only [if_true] at ho
          have HB := hid hb; have HO := hid ho
          have HSR := hid ((HS1.out.below hb).src (tx := 23) Tryz.underlying23 HO1.out)
          clear hb ho
          go_wp2_with (at_builtin; refine stop_here ?_)
          refine go_on ?_
          refine app_own_at (.tmp 31) (.tmp 32) 23 23 rfl rfl w.heap.size 5 i0 (.int .u8 0) 1 1 Tryz.underlying23 hi hz0 hz1 hz2 rfl (by decide) _ _ _ rfl HO.out (.slice A1 n1 c1) n1 xs1 rfl HSR.out (by simp only [maxLen]; omega) (by omega) (by omega) ?_
          intro v8 w8 hown8 hg8 hb8 hat8
          rw [Nat.zero_add, List.nil_append] at hown8
          have HO8 := hid hown8; have HB8 := hid (HB.out.trans hb8)
          clear hown8 hg8 hb8 hat8
          go_wp2
          go_roundw
          case rel => exact ⟨1, by omega, by go_num, by simpa using HO8.out, HB8.out⟩
          case measure => simp [intOf]
        · simp only [if_neg (show ¬ (1 = 0) by omega), if_true] at ho
          have HB := hid hb; have HO := hid ho
          have HSR := hid ((HS2.out.below hb).src (tx := 23) Tryz.underlying23 HO2.out)
          clear hb ho
          go_wp2_with (at_builtin; refine stop_here ?_)
          refine go_on ?_
          refine app_own_at (.tmp 31) (.tmp 32) 23 23 rfl rfl w.heap.size 5 i0 (.int .u8 0) 1 1 Tryz.underlying23 hi hz0 hz1 hz2 rfl (by decide) _ _ _ rfl HO.out (.slice A2 n2 c2) n2 xs2 rfl HSR.out (by simp only [maxLen]; omega) (by omega) (by omega) ?_
          intro v8 w8 hown8 hg8 hb8 hat8
          have HO8 := hid hown8; have HB8 := hid (HB.out.trans hb8)
          clear hown8 hg8 hb8 hat8
          go_wp2
          go_roundw
          case rel => exact ⟨2, by omega, by go_num, by simpa using HO8.out, HB8.out⟩
          case measure => simp [intOf]
        · simp only [if_neg (show ¬ (2 = 0) by omega), if_neg (show ¬ (2 = 1) by omega)] at ho
          have HB := hid hb; have HO := hid ho
          clear hb ho
          go_wp2
          go_ret
          exact ⟨_, rfl, HO.out, HB.out⟩
end Go.Proofs.YtkgifbnkkmeoiaaGreatDoor
/- The program's frame.Put. -/
namespace Go.Proofs.YtkgifbnkkmeoiaaGreatDoor
open Go.ChangeShapes Go.WideShapes Go.ChangeAt Go.RowKit
set_option linter.unusedVariables false
set_option linter.unusedSimpArgs false

/-- A frame: its length, kind and body, and the sum of these. -/
def frameH (kind : Nat) (body : List UInt8) : List UInt8 := le4 body.length ++ [UInt8.ofNat kind] ++ body
def frameB (kind : Nat) (body : List UInt8) : List UInt8 := frameH kind body ++ le4 (crcSum (frameH kind body)).toNat
theorem le4_len (n : Nat) : (le4 n).length = 4 := rfl
theorem frameH_len (kind : Nat) (body : List UInt8) : (frameH kind body).length = body.length + 5 := by
  unfold frameH
  rw [List.length_append, List.length_append, le4_len, List.length_singleton]; omega
theorem frameB_len (kind : Nat) (body : List UInt8) : (frameB kind body).length = body.length + 9 := by
  unfold frameB
  rw [List.length_append, frameH_len, le4_len]
def Put8E (l : List UInt8) (er : Int) (w : World) (e : Ending) (w' : World) : Prop := ∃ v, e = .returned (.tuple #[v, .int .i64 er]) ∧ Own8 w' w.heap.size v l ∧ Below w.heap.size w w'
def framePut (b : List UInt8) (kind : Int) (body : List UInt8) : List UInt8 × Int := if 0 ≤ kind ∧ kind ≤ 255 ∧ body.length ≤ 65536 then (b ++ frameB kind.toNat body, 0) else ([], 1)
theorem slk_more {w w' : World} {B : Nat} {v : Value} {l : List UInt8} (h : Sl w B v (bvals l)) (hb : Below B w w') (hs : B ≤ w'.heap.size) : SlK w' w'.heap.size 1 v l.length (bvals l) := by
  have := SlK.of_sl ((h.below hb).more hs)
  rwa [bvals_len] at this
theorem Own8.nil_ (w : World) (B : Nat) : Own8 w B (.slice none 0 0) [] := World.ownsRow_nil _ _ _ _
set_option maxRecDepth 100000 in
set_option maxHeartbeats 1600000 in
theorem frameP_any (v x : Value) (b : List UInt8) (kind : Int) (body : List UInt8) (w : World) (hv : Sl w w.heap.size v (bvals b)) (hb : b.length ≤ 100000) (hx : Sl w w.heap.size x (bvals body)) (hk : InI64 kind) :
    Calls Tryz.prog 19 #[v, .int .i64 kind, x] w (Put8E (framePut b kind body).1 (framePut b kind body).2 w) := by
  obtain ⟨i0, hi, hz0, hz1, hz2⟩ := info_parts info_byte
  have HV := hid hv; have HX := hid hx
  obtain ⟨A, c, e1, ha1, ha2, -⟩ := hv
  obtain ⟨C, cc, e2, hc1, hc2, -⟩ := hx
  rw [bvals_len] at e1 ha1 e2 hc1
  subst e1; subst e2
  unfold maxLen at ha2 hc2
  by_cases h : 0 ≤ kind ∧ kind ≤ 255 ∧ body.length ≤ 65536
  · have hp : framePut b kind body = (b ++ frameB kind.toNat body, 0) := by unfold framePut; rw [if_pos h]
    rw [hp]
    clear hp
    obtain ⟨k, rfl⟩ : ∃ k : Nat, kind = (k : Int) := ⟨kind.toNat, by omega⟩
    obtain ⟨h1, h2, h3⟩ := h
    have hle := le4_vals body.length (by omega)
    obtain ⟨m, hm⟩ : ∃ m, m = body.length := ⟨_, rfl⟩
    rw [← hm] at h3 hc1 hle ⊢
    have HM := hid hm
    rw [Int.toNat_natCast]
    have HLE := hid (show bvals (le4 m ++ [UInt8.ofNat k]) = [.int .u8 ((m : Int) % 256), .int .u8 ((m : Int) / 256 % 256), .int .u8 ((m : Int) / 65536), .int .u8 ((m : Int) / 16777216), .int .u8 ((k : Int) % 256)] by
      rw [bvals_snoc _ k (by omega), hle, show ((k : Int) % 256) = (k : Int) by omega, show (m : Int) / 65536 % 256 = (m : Int) / 65536 by omega, show (m : Int) / 16777216 % 256 = (m : Int) / 16777216 by omega]; rfl)
    have hk' : IntKind.u8.wrap (k : Int) = (k : Int) % 256 := IntKind.wrap_u8 _
    clear hm hle
    go_enter Tryz.func19, Tryz.ntmps19
    go_wp2_with (at_builtin; refine stop_here ?_)
    refine go_on ?_
    have ho1 : (w.alloc (.cells #[.int .u8 ((m : Int) % 256), .int .u8 ((m : Int) / 256 % 256), .int .u8 ((m : Int) / 65536), .int .u8 ((m : Int) / 16777216), .int .u8 ((k : Int) % 256)] 5)).ownsRow w.heap.size 5 1 (.slice (some ⟨w.heap.size, 0, none⟩) 5 5) 5 (bvals (le4 m ++ [UInt8.ofNat k])) := by
      rw [HLE.out]
      exact ⟨rfl, .inr ⟨w.heap.size, 5, _, rfl, Nat.le_refl _, heap_alloc_new w _, Nat.le_refl _, by simp [maxLen], rfl, rfl⟩⟩
    have hsx : Sl (w.alloc (.cells #[.int .u8 ((m : Int) % 256), .int .u8 ((m : Int) / 256 % 256), .int .u8 ((m : Int) / 65536), .int .u8 ((m : Int) / 16777216), .int .u8 ((k : Int) % 256)] 5)) w.heap.size (.slice C m cc) (bvals body) := by
      have h := HX.out.below (bl1 w (.cells #[.int .u8 ((m : Int) % 256), .int .u8 ((m : Int) / 256 % 256), .int .u8 ((m : Int) / 65536), .int .u8 ((m : Int) / 16777216), .int .u8 ((k : Int) % 256)] 5))
      rwa [← HM.out] at h
    refine app_own (.tmp 37) (.tmp 38) 23 23 rfl rfl w.heap.size 5 i0 (.int .u8 0) 1 1 Tryz.underlying23 hi hz0 hz1 hz2 rfl (by omega) _ 5 _ rfl ho1 (.slice C m cc) m (bvals body) rfl (by have := src_sl _ Tryz.underlying23 hsx (bvals_one body); rwa [bvals_len, ← HM.out] at this) (by unfold maxLen; omega) (by omega) (by simp) ?_
    intro v2 w2 ho2 hg2 hb2
    have hb12 : Below w.heap.size w w2 := (bl1 w _).trans hb2
    have hH : Own8 w2 w.heap.size v2 (frameH k body) := by
      unfold Own8
      rw [frameH_len, ← HM.out, show m + 5 = 5 + m by omega]
      unfold frameH
      rw [← HM.out, bvals_app]
      exact ho2
    have hfl := frameH_len k body
    rw [← HM.out] at hfl
    have hfb : frameB k body = frameH k body ++ le4 (crcSum (frameH k body)).toNat := rfl
    have hcs := crcSum_bounds (frameH k body)
    generalize frameH k body = F at *
    obtain ⟨q, hq⟩ : ∃ q : Nat, crcSum F = (q : Int) := ⟨(crcSum F).toNat, by omega⟩
    rw [hq] at hcs hfb
    rw [Int.toNat_natCast] at hfb
    have HFB := hid hfb
    have HSUM := hid (show ∀ W, Sl W W.heap.size v2 (bvals F) → Calls Tryz.prog 49 #[v2] W fun e w' => e = .returned (.int .u32 q) ∧ W = w' from fun W h => by rw [← hq]; exact sum_any v2 F W h (by omega))
    have HBY := hid (fun W => bytes_any q (by omega) W)
    have HB2 := hid hb12; have HH := hid hH
    obtain ⟨U, cu, rfl⟩ := hH.form
    have HFL := hid hfl
    clear hb12 hH ho1 hsx ho2 hg2 hb2 hq hcs hfb hfl
    go_wp2_with fail
    refine (HSUM.out w2 HH.out.sl).mono ?_
    rintro e w3 ⟨rfl, rfl⟩
    go_wp2_with fail
    refine (HBY.out w2).mono ?_
    rintro e w4 ⟨u4, rfl, ho4, hb4⟩
    obtain ⟨U4, cu4, rfl⟩ := ho4.form
    have HO4 := hid ho4
    have HH4 := hid (HH.out.on hb4)
    have HB4 := hid (HB2.out.trans (hb4.mono HB2.out.size))
    have hz4 := hb4.size
    have hz2' := HB2.out.size
    rw [le4_len] at HO4 ⊢
    clear ho4 hb4
    go_wp2_with (at_builtin; refine stop_here ?_)
    refine go_on ?_
    refine app_own (.tmp 40) (.tmp 43) 23 23 rfl rfl w.heap.size 5 i0 (.int .u8 0) 1 1 Tryz.underlying23 hi hz0 hz1 hz2 rfl (by omega) _ F.length (bvals F) rfl HH4.out (.slice U4 4 cu4) 4 (bvals (le4 q)) rfl (src_sl _ Tryz.underlying23 HO4.out.sl (bvals_one _)) (by have := HFL.out; unfold maxLen; omega) (by have := HFL.out; omega) (by omega) ?_
    intro v5 w5 ho5 hg5 hb5
    have hb5' := HB4.out.trans hb5
    have hF : Own8 w5 w.heap.size v5 (F ++ le4 q) := by
      unfold Own8
      rw [List.length_append, le4_len, bvals_app]
      exact ho5
    have hz5 := hb5'.size
    obtain ⟨U5, cu5, rfl⟩ := hF.form
    rw [List.length_append, le4_len] at hF ⊢
    have HF := hid hF; have HB5 := hid hb5'
    obtain ⟨N, hN⟩ : ∃ N, N = w5.heap.size := ⟨_, rfl⟩
    have HCAT := hid (concatB_any w5.heap.size (.slice A b.length c) (.slice U5 (F.length + 4) cu5) b.length (F.length + 4) (bvals b) (bvals (F ++ le4 q)) (w5.alloc (.cells #[.slice A b.length c, .slice U5 (F.length + 4) cu5] 23)) (by simp) (by simp [go_sem]) (by simp [go_sem])
      (slk_more HV.out (hb5'.trans ((bl1 w5 _).mono hz5)) (by simp; omega))
      (by have := slk_more (w' := w5.alloc (.cells #[.slice A b.length c, .slice U5 (F.length + 4) cu5] 23)) hF.sl (bl1 w5 _) (by simp); rwa [List.length_append, le4_len] at this)
      (bvals_one _) (bvals_one _) (by omega) (by have := HFL.out; omega))
    clear ho5 hg5 hb5 hb5' hF
    go_wp2_with fail
    refine HCAT.out.mono ?_
    rintro e w6 ⟨v6, rfl, ho6, hb6⟩
    have HO6 := hid (show Own8 w6 w.heap.size v6 (b ++ (F ++ le4 q)) by
      unfold Own8
      rw [List.length_append, List.length_append, le4_len, bvals_app]
      exact own_mono ho6 (by simp; omega))
    have HB6 := hid ((HB5.out.trans ((bl1 w5 _).mono hz5)).trans (hb6.mono (by simp; omega)))
    clear ho6 hb6
    go_wp2
    go_ret2
    exact ⟨v6, rfl, by rw [HFB.out]; exact HO6.out, HB6.out⟩
  · have hp : framePut b kind body = ([], 1) := by unfold framePut; rw [if_neg h]
    rw [hp]
    have hc : kind < 0 ∨ (¬ kind < 0 ∧ 255 < kind) ∨ (¬ kind < 0 ∧ ¬ 255 < kind ∧ 65536 < body.length) := by omega
    clear hp h
    rcases hc with h1 | ⟨h1, h2⟩ | ⟨h1, h2, h3⟩
    all_goals
      go_enter Tryz.func19, Tryz.ntmps19
      go_wp2
      go_ret2
      exact ⟨_, rfl, Own8.nil_ _ _, Below.refl _ _⟩
end Go.Proofs.YtkgifbnkkmeoiaaGreatDoor
