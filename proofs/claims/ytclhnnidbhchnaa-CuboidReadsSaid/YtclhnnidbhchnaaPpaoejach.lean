/- 4 texts of this claim, in build order. -/
import Derived.Test.YtclhnnidbhchnaaPpgbkmnpm
import Derived.Test.YtclhnnidbhchnaaPnemimafh
import Derived.Test.YtclhnnidbhchnaaPfnkappbh
import Derived.Test.YtclhnnidbhchnaaPjpmfglhb
import Derived.Test.YtclhnnidbhchnaaPlamdoeic
import Derived.Test.YtclhnnidbhchnaaPipilkmim
/- slices.Clone at bytes, wire.New. -/
namespace Go.Proofs.Ytclhnnidbhchnaa
open Go.ChangeShapes Go.WideShapes Go.ChangeAt Go.RowKit
set_option linter.unusedVariables false

def CloneBP (l : List UInt8) (w : World) (e : Ending) (w' : World) : Prop := ∃ v, e = .returned v ∧ w'.ownsRow w.heap.size 5 1 v l.length (bvals l) ∧ Below w.heap.size w w'
set_option maxRecDepth 100000 in
set_option maxHeartbeats 400000 in
theorem clone_any (v : Value) (l : List UInt8) (w : World) (hv : Sl w w.heap.size v (bvals l)) (hl : l.length ≤ 140737488355328) :
    Calls Try.prog 64 #[v] w (CloneBP l w) := by
  obtain ⟨i0, hi, hz0, hz1, hz2⟩ := info_parts info_byte
  have hv' := hv
  obtain ⟨A, c, rfl, hc1, hc2, hA⟩ := hv
  simp only [bvals_len] at hc1 hv' ⊢
  have HV := hid hv'; have HA := hid hA
  clear hv' hA
  go_enter Try.func64, Try.ntmps64
  cases A with
  | none =>
    have h0 : l = [] := by
      cases l with
      | nil => rfl
      | cons x l => obtain ⟨b, off, h, _⟩ := HA.out (by simp [bvals]); cases h
    have H0 := hid h0; clear h0
    have hq : ∀ W : World, (binOp .eql 42 (.slice none l.length c) (.slice none 0 0)).run Try.prog W = .ok (.bool true) W := fun _ => rfl
    go_wp2
    go_ret
    exact ⟨_, rfl, by rw [H0.out]; exact World.ownsRow_nil _ _ _ _, Below.refl _ _⟩
  | some x =>
    have hq : ∀ W : World, (binOp .eql 42 (.slice (some x) l.length c) (.slice none 0 0)).run Try.prog W = .ok (.bool false) W := fun _ => rfl
    go_wp2_with (at_builtin; refine stop_here ?_)
    refine go_on ?_
    have hown : (w.alloc (.cells #[] 5)).ownsRow w.heap.size 5 1 (.slice (some ⟨w.heap.size, 0, none⟩) 0 0) 0 [] := by
      refine ⟨rfl, .inr ⟨w.heap.size, 0, #[], rfl, Nat.le_refl _, ?_, Nat.le_refl _, by simp [maxLen], rfl, rfl⟩⟩
      exact heap_alloc_new w _
    refine app_own (.tmp 5) (.tmp 6) 42 42 rfl rfl w.heap.size 5 i0 (.int .u8 0) 1 1 Try.underlying42 hi hz0 hz1 hz2 rfl (by omega) _ _ _ rfl hown (.slice (some x) l.length c) l.length (bvals l) rfl ?_ (by unfold maxLen; omega) (by omega) (by simp) ?_
    · have hs : Sl (w.alloc (.cells #[] 5)) w.heap.size (.slice (some x) l.length c) (bvals l) := by
        obtain ⟨A, c', g1, g2, g3, g4⟩ := HV.out
        refine ⟨A, c', g1, g2, g3, fun h0 => ?_⟩
        obtain ⟨b, off, g5, g6, g7⟩ := g4 h0
        exact ⟨b, off, g5, g6, fun j u hj => cell_alloc g6 (g7 j u hj)⟩
      have := src_sl _ Try.underlying42 hs (bvals_one l)
      rwa [bvals_len] at this
    · intro v2 w2 hown2 hg2 hb2
      go_wp2
      go_ret
      refine ⟨v2, rfl, by simpa using hown2, ?_⟩
      exact (bl1 w _).trans hb2
def NewPost (l : List UInt8) (w : World) (e : Ending) (w' : World) : Prop := ∃ p, e = .returned (.pointer (some ⟨p, 0, none⟩)) ∧ RW w' p p l 0 0 ∧ w.heap.size ≤ p ∧ Below w.heap.size w w'
set_option maxHeartbeats 400000 in
theorem new_any (v : Value) (l : List UInt8) (w : World) (hv : Sl w w.heap.size v (bvals l)) (hl : l.length ≤ 140737488355328) :
    Calls Try.prog 31 #[v] w (NewPost l w) := by
  have hc := clone_any v l w hv hl
  have HC := hid hc
  clear hc hv
  go_enter Try.func31, Try.ntmps31
  go_wp2_with fail
  refine HC.out.mono ?_
  rintro e w1 ⟨v1, rfl, hown, hb⟩
  have hs := Sl.of_bytes hown
  obtain ⟨A, c, rfl, -, -, -⟩ := id hs
  simp only [bvals_len] at hs
  have HS := hid hs; have HB := hid hb
  clear hs hb hown
  go_wp2
  go_ret
  refine ⟨w1.heap.size, rfl, ?_, HB.out.size, HB.out.trans (bl1' HB.out.size _)⟩
  refine ⟨Nat.le_refl _, by omega, hl, fun i hi => ?_, .slice A (bvals l).length c, by simp [go_sem], by simp [go_sem], by simp [go_sem], ?_⟩
  · simp [go_sem]
  · rw [bvals_len]; exact Sl.below HS.out (bl1 w1 _)
end Go.Proofs.Ytclhnnidbhchnaa
/- More words on readers (seats without texts). -/
namespace Go.Proofs.Ytclhnnidbhchnaa
open Go.ChangeShapes Go.WideShapes Go.ChangeAt Go.RowKit
set_option linter.unusedVariables false

theorem Sl.form {w : World} {B : Nat} {v : Value} {l : List UInt8} (h : Sl w B v (bvals l)) : ∃ A c, v = .slice A l.length c ∧ l.length ≤ c ∧ c ≤ maxLen := by
  obtain ⟨A, c, rfl, h1, h2, -⟩ := h
  rw [bvals_len] at h1 ⊢
  exact ⟨A, c, rfl, h1, h2⟩
theorem rw_mk {w : World} {H n c : Nat} {A : Option Addr} {s : List UInt8} {t : TypeId} (h : Sl w H (.slice A n c) (bvals s)) (hH : H ≤ w.heap.size) (hl : s.length ≤ 140737488355328) :
    RW (w.alloc (.cells #[.slice A n c, .int .i64 0, .int .i64 0] t)) H w.heap.size s 0 0 := by
  refine ⟨hH, by omega, hl, fun i hi => by simp [go_sem], _, by simp [go_sem]; rfl, by simp [go_sem], by simp [go_sem], ?_⟩
  exact Sl.below h ((Below.refl H w).alloc hH _)
theorem RW.cellA {w : World} {B p a : Nat} {l : List UInt8} {e : Int} (h : RW w B p l a e) : w.cell? ⟨p, 1, none⟩ = some (.int .i64 a) := by
  obtain ⟨_, _, _, _, _, _, h6, _, _⟩ := h
  exact h6
end Go.Proofs.Ytclhnnidbhchnaa
/- The walks of CuboidReads, CuboidRound. -/
namespace Go.Proofs.Ytclhnnidbhchnaa
open Go.ChangeShapes Go.WideShapes Go.ChangeAt Go.RowKit Go.Maps
set_option linter.unusedVariables false
set_option linter.unusedSimpArgs false

theorem RefC.updP {w w' : World} {R : Nat → Prop} {r q : Nat} {W M : Int} {L : List KC} (h : RefC w R r W M L) (hu : Upd q w w') (hq : ∀ k, R k → k ≠ q) : RefC w' R r W M L :=
  h.kept (fun k hk => hu.block k (h.2.1 k hk) (fun e => by injection e with e; exact hq k hk e)) hu.size
theorem readC_no (a b : Int) (q : Nat) (w : World) (h : ¬ (1 ≤ a ∧ a ≤ 3 ∧ 1 ≤ b ∧ b ≤ 2)) : Calls Try.prog 32 #[.pointer (some ⟨q, 0, none⟩), .int .i64 a, .int .i64 b] w (Stays (.pointer none) w) := by
  have HN := hid (newC_no a b w h)
  clear h
  go_enter Try.func32, Try.ntmps32
  go_wp2_with fail
  refine HN.out.mono ?_
  rintro e w1 ⟨rfl, hq⟩
  have HQ := hid hq
  clear hq
  go_wp2
  go_ret
  exact ⟨rfl, HQ.out⟩
theorem readR_no (a b : Int) (q : Nat) (w : World) (h : ¬ (1 ≤ a ∧ a ≤ 3 ∧ 1 ≤ b ∧ b ≤ 2)) : Calls Try.prog 34 #[.pointer (some ⟨q, 0, none⟩), .int .i64 a, .int .i64 b] w fun e w' => (∃ r, e = .returned (.tuple #[.pointer (some ⟨r, 0, none⟩), .bool false])) ∧ Below w.heap.size w w' := by
  have hc : (a < 1) ∨ (¬ a < 1 ∧ 3 < a) ∨ (¬ a < 1 ∧ ¬ 3 < a ∧ b < 1) ∨ (¬ a < 1 ∧ ¬ 3 < a ∧ ¬ b < 1 ∧ 2 < b) := by omega
  clear h
  rcases hc with h1 | ⟨h1, h2⟩ | ⟨h1, h2, h3⟩ | ⟨h1, h2, h3, h4⟩
  all_goals
    go_enter Try.func34, Try.ntmps34
    go_wp2
    go_ret2
    exact ⟨⟨_, rfl⟩, bl1 _ _⟩
set_option maxRecDepth 100000 in
set_option maxHeartbeats 6400000 in
theorem walk_CuboidReads (w : World) (v : Value) (l : List UInt8) (hv : Sl w w.heap.size v (bvals l)) (hz : l.length ≤ maxLen) (a : Int) (ha : -9223372036854775808 ≤ a ∧ a ≤ 9223372036854775807) (b : Int) (hb : -9223372036854775808 ≤ b ∧ b ≤ 9223372036854775807) :
    Calls Try.prog 10 #[v, .int .i64 a, .int .i64 b] w fun e w' => e = .returned (.bool true) ∧ Below w.heap.size w w' := by
  obtain ⟨A, c, rfl, hc1, hc2⟩ := hv.form
  obtain ⟨s, hs, hsl, hcase⟩ : ∃ s : List UInt8, s.length ≤ 500 ∧ Sl w w.heap.size (.slice A s.length c) (bvals s) ∧ ((500 < l.length ∧ s.length = 500) ∨ (l.length ≤ 500 ∧ s.length = l.length)) := by
    by_cases h : 500 < l.length
    · have e : (l.take 500).length = 500 := by rw [List.length_take]; omega
      refine ⟨l.take 500, by omega, ?_, .inl ⟨h, e⟩⟩
      rw [e, bvals_take]
      exact Sl.head 500 hv (by omega)
    · exact ⟨l, by omega, hv, .inr ⟨by omega, rfl⟩⟩
  have hn := new_any (.slice A s.length c) s w hsl (by omega)
  have HN := hid hn; have HSL := hid hsl
  unfold maxLen at hc2
  clear hn hsl hv hz
  have hrange : (∃ an bn : Nat, a = (an : Int) ∧ b = (bn : Int) ∧ 1 ≤ an ∧ an ≤ 3 ∧ 1 ≤ bn ∧ bn ≤ 2) ∨ ¬ (1 ≤ a ∧ a ≤ 3 ∧ 1 ≤ b ∧ b ≤ 2) := by
    by_cases h : 1 ≤ a ∧ a ≤ 3 ∧ 1 ≤ b ∧ b ≤ 2
    · exact .inl ⟨a.toNat, b.toNat, by omega, by omega, by omega, by omega, by omega, by omega⟩
    · exact .inr h
  have HRG := hid hrange
  clear hrange
  go_enter Try.func10, Try.ntmps10
  go_upto_if 15 with (fail)
  go_cut [0] (fun s0 wx => s0 = .slice A s.length c ∧ w = wx)
  case first =>
    rcases hcase with ⟨hgt, hlen⟩ | ⟨hle, hlen⟩
    · have h500 : 500 ≤ c := by omega
      go_wp2
      go_meet
      case rel => exact ⟨by rw [hlen], rfl⟩
    · have hle' : ¬ 500 < l.length := by omega
      go_wp2
      go_meet
      case rel => exact ⟨by rw [hlen], rfl⟩
  case rest =>
  obtain ⟨rfl, rfl⟩ := hcut
  clear hcase
  go_wp2_with fail
  refine HN.out.mono ?_
  rintro en w2 ⟨p, rfl, hr, hp, hb2⟩
  have hpl := hr.lt
  have hH2 := hb2.size
  obtain ⟨W2, hW2⟩ : ∃ W', W' = w2.alloc (.cells #[.slice A s.length c, .int .i64 0, .int .i64 0] 71) := ⟨_, rfl⟩
  have R1 := hid (show RW W2 p p s 0 0 by rw [hW2]; exact (hr.keep ((bl1 w2 (.cells #[.slice A s.length c, .int .i64 0, .int .i64 0] 71)).mono (by omega))))
  have X1 := hid (show RW W2 w.heap.size w2.heap.size s 0 0 by rw [hW2]; exact rw_mk (t := 71) (HSL.out.below hb2) hH2 (by omega))
  have B2 := hid (show Below w.heap.size w W2 by rw [hW2]; exact hb2.alloc hH2 (.cells #[.slice A s.length c, .int .i64 0, .int .i64 0] 71))
  have hz2 : W2.heap.size = w2.heap.size + 1 := by rw [hW2]; simp
  have HW2 := hid hW2
  clear hr hb2 HN hW2
  rcases HRG.out with ⟨an, bn, rfl, rfl, h1a, ha3, h1b, hb2'⟩ | hno
  · have HD := hid (readC_any p p s 0 0 an bn W2 R1.out h1a ha3 h1b hb2')
    have HRD := hid (fun W' (h : RW W' w.heap.size w2.heap.size s 0 0) => readR_any w.heap.size w2.heap.size s 0 an bn W' h h1a ha3 h1b hb2')
    have hok := readC_ok s an bn 0 0 (by omega)
    generalize readC s an bn 0 0 = T at *
    obtain ⟨L, a1, e1⟩ := T
    obtain ⟨hok1, hok2, hok3⟩ := hok
    simp only at hok1 hok2 hok3
    have HOK := hid hok1
    clear hok1
    go_wp2_with fail
    rw [← HW2.out]
    refine HD.out.mono ?_
    rintro en w3 ⟨hr3, hu3, hres⟩
    simp only at hr3 hres
    have HR3 := hid hr3
    have HX3 := hid (X1.out.far hu3 hp (by omega))
    have B3 := hid (B2.out.trans (hu3.below (B := w.heap.size) hp (by omega)))
    have hs3 := hu3.size
    have HRD3 := hid (HRD.out _ HX3.out)
    clear hr3 hu3 HD HRD R1 X1 B2
    rcases hres with ⟨he, rfl⟩ | ⟨he, pc, mc, D, rfl, hcw, hdk⟩
    · go_wp2_with fail
      refine HRD3.out.mono ?_
      rintro en w4 ⟨rr, hx4, hu4, hres⟩
      simp only at hx4 hres
      rcases hres with ⟨-, rfl⟩ | ⟨h, -⟩
      · have HR4 := hid (HR3.out.far hu4 (by omega) (by omega))
        have HX4 := hid hx4
        have B4 := hid (B3.out.trans (hu4.below (B := w.heap.size) hH2 HX3.out.lt))
        clear hx4 hu4
        have HE := hid (fun W' h => readEnd_any p p s a1 e1 W' h); have HF := hid (fun W' h => refReadEnd_any w.heap.size w2.heap.size s a1 e1 W' h)
        have HA := hid (fun W' h => readAt_any p p s a1 e1 W' h)
        have y1 := HX4.out.cellA
        generalize rEnd s a1 e1 = z1 at *
        have t1 : (z1 != z1) = false := by simp
        have t2 : ((a1 : Int) != (a1 : Int)) = false := by simp
        go_wp2
        go_quiet (first | (go_at_call 33; exact Calls.quiet_of (HE.out _ (HR4.out.qu ⟨_, rfl⟩))) | (go_at_call 36; exact Calls.quiet_of (HF.out _ (HX4.out.qu ⟨_, rfl⟩))) | (go_at_call 35; exact Calls.quiet_of (HA.out _ (HR4.out.qu ⟨_, rfl⟩))))
        have B5 := hid (below_drewN B4.out nq)
        go_wp2_with fail
        refine (lives_any _).mono ?_
        rintro e w9 ⟨rfl, hb9⟩
        have HB9 := hid (B5.out.trans (hb9.mono B5.out.size)); clear hb9
        go_wp2
        go_ret
        exact ⟨rfl, HB9.out⟩
      · exact absurd h he
    · go_wp2_with fail
      refine HRD3.out.mono ?_
      rintro en w4 ⟨rr, hx4, hu4, hres⟩
      simp only at hx4 hres
      rcases hres with ⟨h, -⟩ | ⟨-, rfl, R, hrc, hrk⟩
      · exact absurd he h
      · have HR4 := hid (HR3.out.far hu4 (by omega) (by omega))
        have HX4 := hid hx4
        have B4 := hid (B3.out.trans (hu4.below (B := w.heap.size) hH2 HX3.out.lt))
        have HC4 := hid (hcw.updP hu4 (fun k hk => by have := hdk k hk; omega))
        have HRC4 := hid hrc
        clear hx4 hu4 hcw hrc hdk hrk
        have HE := hid (fun W' h => readEnd_any p p s a1 e1 W' h); have HF := hid (fun W' h => refReadEnd_any w.heap.size w2.heap.size s a1 e1 W' h)
        have HA := hid (fun W' h => readAt_any p p s a1 e1 W' h)
        have y1 := HX4.out.cellA
        generalize rEnd s a1 e1 = z1 at *
        have t1 : (z1 != z1) = false := by simp
        have t2 : ((a1 : Int) != (a1 : Int)) = false := by simp
        go_wp2
        go_quiet (first | (go_at_call 33; exact Calls.quiet_of (HE.out _ (HR4.out.qu ⟨_, rfl⟩))) | (go_at_call 36; exact Calls.quiet_of (HF.out _ (HX4.out.qu ⟨_, rfl⟩))) | (go_at_call 35; exact Calls.quiet_of (HA.out _ (HR4.out.qu ⟨_, rfl⟩))))
        have B5 := hid (below_drewN B4.out nq)
        have HLK := hid (like_any D R pc mc rr an bn L _ (HC4.out.qu ⟨nq, rfl⟩) (HRC4.out.qu ⟨nq, rfl⟩) HOK.out h1a ha3 hb2' (by omega))
        go_wp2_with fail
        refine HLK.out.mono ?_
        rintro e w8 ⟨rfl, hb8⟩
        have B8 := hid (B5.out.trans (hb8.mono B5.out.size)); clear hb8
        go_wp2_with fail
        refine (lives_any _).mono ?_
        rintro e w9 ⟨rfl, hb9⟩
        have HB9 := hid (B8.out.trans (hb9.mono B8.out.size)); clear hb9
        go_wp2
        go_ret
        exact ⟨rfl, HB9.out⟩
  · have HD := hid (readC_no a b p W2 hno)
    have HRD := hid (fun W' => readR_no a b w2.heap.size W' hno)
    clear hno
    go_wp2_with fail
    rw [← HW2.out]
    refine HD.out.mono ?_
    rintro en w3 ⟨rfl, hq3⟩
    have HR3 := hid (R1.out.qu hq3)
    have HX3 := hid (X1.out.qu hq3)
    have B3 := hid (B2.out.trans (hq3.below w.heap.size))
    have hz3 := hq3.size
    clear hq3 R1 X1 B2
    go_wp2_with fail
    refine (HRD.out w3).mono ?_
    rintro en w4 ⟨⟨rr, rfl⟩, hb4⟩
    have HR4 := hid (HR3.out.keep (hb4.mono (by omega)))
    have HX4 := hid (HX3.out.keep (hb4.mono (by omega)))
    have B4 := hid (B3.out.trans (hb4.mono B3.out.size))
    clear hb4
    have HE := hid (fun W' h => readEnd_any p p s 0 0 W' h); have HF := hid (fun W' h => refReadEnd_any w.heap.size w2.heap.size s 0 0 W' h)
    have HA := hid (fun W' h => readAt_any p p s 0 0 W' h)
    have y1 := HX4.out.cellA
    generalize rEnd s 0 0 = z1 at *
    have t1 : (z1 != z1) = false := by simp
    go_wp2
    go_quiet (first | (go_at_call 33; exact Calls.quiet_of (HE.out _ (HR4.out.qu ⟨_, rfl⟩))) | (go_at_call 36; exact Calls.quiet_of (HF.out _ (HX4.out.qu ⟨_, rfl⟩))) | (go_at_call 35; exact Calls.quiet_of (HA.out _ (HR4.out.qu ⟨_, rfl⟩))))
    have B5 := hid (below_drewN B4.out nq)
    go_wp2_with fail
    refine (lives_any _).mono ?_
    rintro e w9 ⟨rfl, hb9⟩
    have HB9 := hid (B5.out.trans (hb9.mono B5.out.size)); clear hb9
    go_wp2
    go_ret
    exact ⟨rfl, HB9.out⟩
set_option maxRecDepth 100000 in
set_option maxHeartbeats 6400000 in
theorem walk_CuboidRound (w : World) (a : Int) (ha : -9223372036854775808 ≤ a ∧ a ≤ 9223372036854775807) (b : Int) (hb : -9223372036854775808 ≤ b ∧ b ≤ 9223372036854775807) (v2 : Value) (l2 : List DeedX) (s2 : rdSlice 5 rdDeed w w.heap.size [v2] l2) :
    Calls Try.prog 9 #[.int .i64 a, .int .i64 b, v2] w fun e w' => e = .returned (.bool true) ∧ Below w.heap.size w w' := by
  have hd := deeds_of_rd s2
  have HBT := hid (both_any a b v2 (l2.map DeedX.kc) w ha hb hd)
  obtain ⟨A2, c2, rfl, -, -, -⟩ := hd
  obtain ⟨h1W, hW, -⟩ := wOf_in a
  obtain ⟨h1M, hM, -⟩ := mOf_in b
  have hok := addAll_ok (wOf a) (mOf b) ((l2.map DeedX.kc).take 60)
  have hlen : (addAll (wOf a) (mOf b) ((l2.map DeedX.kc).take 60)).length ≤ 60 := by
    have := addAll_len (wOf a) (mOf b) ((l2.map DeedX.kc).take 60)
    rw [List.length_take] at this
    omega
  generalize addAll (wOf a) (mOf b) ((l2.map DeedX.kc).take 60) = L at *
  generalize wOf a = W at *
  generalize mOf b = M at *
  generalize (l2.map DeedX.kc).length = n2 at *
  have HOK := hid hok
  clear hok s2
  go_enter Try.func9, Try.ntmps9
  go_wp2_with fail
  refine HBT.out.mono ?_
  rintro e w1 ⟨p, m, r, D, R, rfl, hbo, hb1⟩
  have hz1 := hb1.size
  have HBO := hid hbo; have HB1 := hid hb1
  have HPA := hid (putC_any D p m W M L w1 hbo.1 HOK.out hW hM (by omega))
  have hpl := putCub_len HOK.out hW hM (by omega)
  have HRP := hid (readC_put HOK.out (by omega))
  clear hbo hb1
  generalize putCub L = bs at *
  go_wp2_with fail
  refine HPA.out.mono ?_
  rintro e w2 ⟨u1, rfl, ho1, hb2⟩
  have hz2 := hb2.size
  have HN := hid (new_any u1 bs w2 ho1.sl (by omega))
  have HB2 := hid hb2
  clear ho1 hb2
  go_wp2_with fail
  refine HN.out.mono ?_
  rintro e w3 ⟨q, rfl, hr, hq, hb3⟩
  have hz3 := hb3.size
  have hql := hr.lt
  have hB13 := HB2.out.trans (hb3.mono hz2)
  have HB3 := hid (HB1.out.trans (hB13.mono hz1))
  have HBO3 := hid (HBO.out.below hB13)
  have hrl : r < w1.heap.size := HBO.out.2.1.2.1 r HBO.out.2.1.1
  have y0 := HBO3.out.2.1.2.2.2.1
  have y1 := HBO3.out.2.1.2.2.2.2.1
  have HRD := hid (readC_any q q bs 0 0 W M w3.drew (hr.qu ⟨1, rfl⟩) h1W hW h1M hM)
  rw [HRP.out] at HRD
  clear hr hb3 hB13
  go_wp2
  go_region_held3 (fun w' => w'.cell? ⟨r, 0, none⟩ = some (.int .i64 W) ∧ w'.cell? ⟨r, 1, none⟩ = some (.int .i64 M)) (go_keep)
    (((with_reducible refine HRD.out.mono ?_); rintro e w4 ⟨hr4, hu4, hres⟩; simp only at hr4 hres; obtain ⟨pc, mc, D4, rfl, hc4, hd4⟩ : ∃ pc mc D, e = .returned (.pointer (some ⟨pc, 0, none⟩)) ∧ CubW w4 D pc mc W M L ∧ ∀ k, D k → w3.drew.heap.size ≤ k := (by rcases hres with ⟨h, -⟩ | ⟨-, h⟩; exact absurd rfl h; exact h); have hu4' : Upd q w3 w4 := (Upd.of_below (Below.refl w3.heap.size w3).drew).trans hu4; have y0 := hu4'.cellAt (by omega) (by omega) y0; have y1 := hu4'.cellAt (by omega) (by omega) y1; have HR4 := hid hr4; have HU4 := hid hu4'; have HC4 := hid hc4; clear hr4 hu4 hu4' hc4 hres hd4))
  have HE := hid (readEnd_any q q bs bs.length 0 w4 HR4.out)
  rw [show rEnd bs bs.length 0 = 0 by unfold rEnd; rw [if_neg (by simp), if_neg (by omega)]] at HE
  have HRC := hid (HBO3.out.2.1.updP HU4.out (fun k hk => by have := HBO.out.2.1.2.1 k hk; omega))
  have HB4 := hid (HB3.out.trans (HU4.out.below (show w.heap.size ≤ q by omega) hql))
  go_wp2_with fail
  refine HE.out.mono ?_
  rintro e w5 ⟨rfl, hq5⟩
  have HLK := hid (like_any D4 R pc mc r W M L w5 (HC4.out.qu hq5) (HRC.out.qu hq5) HOK.out h1W hW hM (by omega))
  have HB5 := hid (HB4.out.trans (hq5.below w.heap.size))
  clear hq5
  go_wp2_with fail
  refine HLK.out.mono ?_
  rintro e w8 ⟨rfl, hb8⟩
  have HB8 := hid (HB5.out.trans (hb8.mono HB5.out.size))
  clear hb8
  go_wp2_with fail
  refine (lives_any w8).mono ?_
  rintro e w9 ⟨rfl, hb9⟩
  have HB9 := hid (HB8.out.trans (hb9.mono HB8.out.size))
  clear hb9
  go_wp2
  go_ret
  exact ⟨rfl, HB9.out⟩
end Go.Proofs.Ytclhnnidbhchnaa
/- The statement CuboidReads: from the walk of the law's function (it returns true, and nothing that was there has turned) to the given row. No condition. -/
namespace Go.Proofs.Ytclhnnidbhchnaa.cuboidReads
open Go.ChangeShapes Go.WideShapes Go.ChangeAt Go.RowKit Go.WideMaps Go.WideElems Go.Joins
open Go.ChangeMaps (open_string shut_string)
set_option linter.unusedVariables false

set_option maxRecDepth 100000 in
theorem lifted (os : Os) (started : os.Started) (H : Type) (enc : TypeId × Value → H) :
    ReturnsInHanded {} Try.checked os 10 .any (Rows.cuboidReadsSpec.pre6 enc Try.prog Try.f10 Rows.cuboidReadsRow.domain false) (Rows.cuboidReadsSpec.post enc Try.prog Try.f10 false true false false) := by
  refine returnsInHanded_of_change (C := Try.checked) own started (by kernel_rfl) Try.func10
    (ChangeSpec.witness6 (enc := enc) (C := Try.checked) false ⟨#[], #[.slice none 0 0, .int .i64 0, .int .i64 0], []⟩ 8 (by kernel_rfl) (by kernel_rfl) (by kernel_rfl) (by kernel_rfl)) ?_
  intro W base args ds gs before hval0 hW hcnd _
  have hval : ∀ (j : Nat) t v, Try.f10.params[j]? = some t → args[j]? = some v → Value.okWide Try.prog W .any base t v := hval0
  have hW' := hW
  obtain ⟨p, q, hA0, hV, rfl, hfz, hnd⟩ := hW
  have hA : DataW.TrodAll enc Try.prog W 0 (fun _ => true) true Try.f10.params.toList args.toList ds p := hA0
  rw [Try.params10] at hA hval
  obtain ⟨v0, vs0, d0, ds0, p0, q0, hargs, rfl, rfl, h0, r0⟩ := trodAll_cons hA
  obtain ⟨v1, vs1, d1, ds1, p1, q1, rfl, rfl, rfl, h1, r1⟩ := trodAll_cons r0
  obtain ⟨v2, vs2, d2, ds2, p2, q2, rfl, rfl, rfl, h2, r2⟩ := trodAll_cons r1
  obtain ⟨rfl, rfl, rfl⟩ := trodAll_nil r2
  obtain rfl : args = #[v0, v1, v2] := by cases args; simp_all
  obtain ⟨rfl, rfl⟩ := trodVars_none hV
  obtain ⟨l0, s0, z0⟩ := open_bytes_sl Try.underlying42 Try.underlying5 (by kernel_rfl) (hval 0 42 v0 rfl rfl) h0
  obtain ⟨a1, rfl, rfl, rfl, w1⟩ := open_int Try.underlying3 (hval 1 3 v1 rfl rfl) h1
  have b1 := bounds_i64 w1
  obtain ⟨a2, rfl, rfl, rfl, w2⟩ := open_int Try.underlying3 (hval 2 3 v2 rfl rfl) h2
  have b2 := bounds_i64 w2
  clear hval0
  refine (walk_CuboidReads W v0 l0 s0 z0 a1 b1 a2 b2).mono fun e W' ⟨he, hb⟩ => ?_
  subst he
  exact ⟨_, rfl, post_of_below hW' (fun _ _ _ => (trodAll_cons_mk (shut_bool Try.underlying4 _) trodAll_mk0)) (fun sp hs => trodAll_stays laidOut hb (by kernel_rfl) hA0 (fun x hx => hW'.lt x (List.mem_append_left _ hx)) (fun x hx => hs x (List.mem_append_left _ hx)))
    (fun _ _ => rfl) rfl hb (ok_one (by kernel_rfl) rfl (okWide_bool_mk Try.underlying4 _))⟩

theorem over : Rows.cuboidReadsRow.holds Try.pinned (OpenSpec.ofChange Rows.cuboidReadsSpec) :=
  OpenClaim.holds_of_wide 10 Try.f10 rfl rfl rfl rfl rfl rfl rfl ⟨rfl, rfl, rfl, rfl, rfl⟩ rfl rfl rfl rfl rfl (by kernel_rfl) Try.func10 (by kernel_rfl)
    (of_decide_eq_true (by kernel_rfl)) (by unfold Func.isWrapper; first | (rw [if_pos (by decide +kernel)]; kernel_rfl) | (rw [if_neg (by decide +kernel)]; exact ⟨rfl, rfl⟩))
    (fun os started H enc _ => lifted os started H enc)

theorem proved : Rows.CuboidReadsSaid :=
  over
#print axioms proved
end Go.Proofs.Ytclhnnidbhchnaa.cuboidReads
