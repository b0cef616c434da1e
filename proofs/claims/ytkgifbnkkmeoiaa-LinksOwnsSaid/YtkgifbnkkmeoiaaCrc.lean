/- The program's crc: step, More, Sum, Bytes. -/
import Derived.Test.YtkgifbnkkmeoiaaPutI8
import Derived.ScopeJumps
import Derived.WalkMore
import Derived.Laws.Closers25b
namespace Go.Proofs.Ytkgifbnkkmeoiaa
open Go.ChangeShapes Go.WideShapes Go.ChangeAt Go.RowKit
set_option linter.unusedVariables false
set_option linter.unusedSimpArgs false

def crcBit (n : Int) : Int := if Go.bits .and .u32 n 1 = 1 then Go.bits .xor .u32 (n / 2) 3988292384 else n / 2
def crcBits : Nat → Int → Int
  | 0, n => n
  | k + 1, n => crcBit (crcBits k n)
def crcByte (n : Int) (c : UInt8) : Int := crcBits 8 (Go.bits .xor .u32 n c.toNat)
def StepJ (n : Int) (c : UInt8) (w : World) (a : Act) (wr : World) : Prop :=
  ∃ (x : Int) (k : Nat) (x6 x7 x8 x9 x10 x11 x12 x13 x14 x15 x16 x17 x18 x19 x20 x21 x22 x23 : Value), a = { tmps := #[.int .u32 x, .int .u8 c.toNat, undef, undef, .int .u32 0, .int .i64 k, x6, x7, x8, x9, x10, x11, x12, x13, x14, x15, x16, x17, x18, x19, x20, x21, x22, x23], defers := [] } ∧ k < 8 ∧ x = crcBits k (Go.bits .xor .u32 n c.toNat) ∧ w = wr
def StepM (a : Act) (_ : World) : Nat := 8 - (intOf (a.tmps.getD 5 undef)).toNat
set_option maxRecDepth 100000 in
set_option maxHeartbeats 800000 in
theorem step_any (n : Int) (c : UInt8) (w : World) : Calls Try.prog 69 #[.int .u32 n, .int .u8 c.toNat] w fun e w' => e = .returned (.int .u32 (crcByte n c)) ∧ w = w' := by
  have hc : (c.toNat : Int) % 4294967296 = c.toNat := by have := UInt8.toNat_lt c; omega
  unfold crcByte
  go_enter Try.func69, Try.ntmps69
  go_wp2_with fail
  refine wp_scope_jumps 0 (StepJ n c w) StepM rfl ?_ ?_
  · unfold StepJ
    have h1 : crcBits 1 (Go.bits .xor .u32 n c.toNat) = crcBit (Go.bits .xor .u32 n c.toNat) := rfl
    unfold crcBit at h1
    by_cases hb : Go.bits .and .u32 (Go.bits .xor .u32 n c.toNat) 1 = 1
    all_goals
      try (rw [if_pos hb] at h1; have t1 : (Go.bits .and .u32 (Go.bits .xor .u32 n c.toNat) 1 == 1) = true := by simp [hb])
      try (rw [if_neg hb] at h1; have t1 : (Go.bits .and .u32 (Go.bits .xor .u32 n c.toNat) 1 == 1) = false := by simpa using hb)
      have H1 := hid h1
      clear hb h1
      go_wp2_with fail
      go_step3
      go_wp2
      go_step3
      simp only [Exit.then, Exit.jump]
      refine ⟨rfl, _, 1, _, _, _, _, _, _, _, _, _, _, _, _, _, _, _, _, _, _, rfl, by decide, H1.out.symm, rfl⟩
  · rintro a' wr ⟨x, k, x6, x7, x8, x9, x10, x11, x12, x13, x14, x15, x16, x17, x18, x19, x20, x21, x22, x23, rfl, hk, hx, rfl⟩
    unfold StepJ
    have h1 : crcBits (k + 1) (Go.bits .xor .u32 n c.toNat) = crcBit x := by rw [hx]; rfl
    unfold crcBit at h1
    clear hx
    by_cases hb : Go.bits .and .u32 x 1 = 1
    all_goals
      try (rw [if_pos hb] at h1; have t1 : (Go.bits .and .u32 x 1 == 1) = true := by simp [hb])
      try (rw [if_neg hb] at h1; have t1 : (Go.bits .and .u32 x 1 == 1) = false := by simpa using hb)
      have H1 := hid h1
      clear hb h1
      by_cases hk8 : k + 1 < 8
      · go_wp2
        go_step3
        simp only [Exit.then]
        refine ⟨rfl, ⟨_, k + 1, _, _, _, _, _, _, _, _, _, _, _, _, _, _, _, _, _, _, rfl, hk8, H1.out.symm, rfl⟩, ?_⟩
        simp [StepM, intOf]
        omega
      · obtain rfl : k = 7 := by omega
        go_wp2
        simp only [Exit.jump]
        go_ret
        exact ⟨congrArg (fun z => Ending.returned (.int .u32 z)) H1.out.symm, rfl⟩
def crcRun (n : Int) (l : List UInt8) : Int := l.foldl crcByte n
def crcNot (n : Int) : Int := Go.bits .xor .u32 4294967295 n
def crcMore (n : Int) (l : List UInt8) : Int := crcNot (crcRun (crcNot n) l)
def crcSum (l : List UInt8) : Int := crcMore 0 l
theorem crcSum_bounds (l : List UInt8) : 0 ≤ crcSum l ∧ crcSum l ≤ 4294967295 := by
  unfold crcSum crcMore crcNot
  exact ⟨bits_lo_u32 _ _ _, bits_hi_u32 _ _ _⟩
theorem crcRun_take (n : Int) (l : List UInt8) (k : Nat) (hk : k < l.length) : crcRun n (l.take (k + 1)) = crcByte (crcRun n (l.take k)) (l.getD k 0) := by
  unfold crcRun
  rw [List.take_succ_eq_append_getElem hk, List.foldl_append, List.getD_eq_getElem?_getD, List.getElem?_eq_getElem hk]; rfl
theorem Sl.byteAt {w : World} {B n c : Nat} {A : Option Addr} {l : List UInt8} (h : Sl w B (.slice A n c) (bvals l)) {k : Nat} (hk : k < l.length) :
    ∃ b off, A = some ⟨b, off, none⟩ ∧ b < B ∧ w.cell? ⟨b, off + k, none⟩ = some (.int .u8 (l.getD k 0).toNat) := by
  obtain ⟨A', c', e, h2, h3, h4⟩ := h
  injection e with e1 e2 e3
  subst e1
  obtain ⟨b, off, h5, h6, h7⟩ := h4 (by rw [bvals_len]; omega)
  refine ⟨b, off, h5, h6, h7 k _ ?_⟩
  unfold bvals
  rw [List.getElem?_map, List.getElem?_eq_getElem hk, List.getD_eq_getElem?_getD, List.getElem?_eq_getElem hk]; rfl
def MoreRel (n : Int) (l : List UInt8) (w : World) (x i : Value) (wr : World) : Prop := ∃ k : Nat, k ≤ l.length ∧ i = .int .i64 k ∧ x = .int .u32 (crcRun (crcNot n) (l.take k)) ∧ w = wr
set_option maxRecDepth 100000 in
set_option maxHeartbeats 800000 in
theorem more_any (n : Int) (v : Value) (l : List UInt8) (w : World) (hv : Sl w w.heap.size v (bvals l)) (hl : l.length ≤ 140737488355328) : Calls Try.prog 60 #[.int .u32 n, v] w fun e w' => e = .returned (.int .u32 (crcMore n l)) ∧ w = w' := by
  obtain ⟨A, c, e, hc1, hc2, -⟩ := id hv
  rw [bvals_len] at e hc1
  subst e
  have HV := hid hv
  clear hv
  unfold maxLen at hc2
  have hmax : IntKind.u32.max = 4294967295 := by decide
  obtain ⟨s, hs⟩ : ∃ s, s = crcMore n l := ⟨_, rfl⟩
  rw [← hs]
  have HS := hid hs
  clear hs
  go_enter Try.func60, Try.ntmps60
  go_wp2
  go_loopw [5, 12] (fun x i wr => MoreRel n l w x i wr) (fun _ i _ => l.length - (intOf i).toNat)
  case atStart => exact ⟨0, by omega, rfl, by simp [crcRun, crcNot, hmax], rfl⟩
  case round =>
    obtain ⟨k, hk, rfl, rfl, rfl⟩ := hrel
    by_cases hlt : k < l.length
    · obtain ⟨b, off, rfl, hb, hcl⟩ := HV.out.byteAt hlt
      have hrun := crcRun_take (crcNot n) l k hlt
      generalize crcRun (crcNot n) (l.take k) = y at *
      generalize l.getD k 0 = z at *
      have HRUN := hid hrun
      clear hrun
      go_wp2_with fail
      refine (step_any _ _ _).mono ?_
      rintro e w1 ⟨rfl, rfl⟩
      go_wp2
      go_roundw
      case rel => exact ⟨k + 1, by omega, by go_num, by rw [HRUN.out], rfl⟩
      case measure => simp [intOf]; omega
    · obtain rfl : k = l.length := by omega
      have HCM := hid (show s = crcNot (crcRun (crcNot n) (l.take l.length)) by rw [HS.out, List.take_length]; rfl)
      generalize crcRun (crcNot n) (l.take l.length) = y at *
      go_wp2
      go_ret
      exact ⟨by rw [HCM.out]; simp [crcNot, hmax], rfl⟩
theorem sum_any (v : Value) (l : List UInt8) (w : World) (hv : Sl w w.heap.size v (bvals l)) (hl : l.length ≤ 140737488355328) : Calls Try.prog 46 #[v] w fun e w' => e = .returned (.int .u32 (crcSum l)) ∧ w = w' := by
  have HM := hid (more_any 0 v l w hv hl)
  clear hv
  go_enter Try.func46, Try.ntmps46
  go_wp2_with fail
  refine HM.out.mono ?_
  rintro e w1 ⟨rfl, rfl⟩
  go_wp2
  go_ret
  exact ⟨rfl, rfl⟩
/-- A number of 32 bits as four bytes. -/
def le4 (n : Nat) : List UInt8 := [UInt8.ofNat (n % 256), UInt8.ofNat (n / 256 % 256), UInt8.ofNat (n / 65536 % 256), UInt8.ofNat (n / 16777216 % 256)]
theorem le4_vals (n : Nat) (h : n < 4294967296) : bvals (le4 n) = [.int .u8 ((n : Int) % 256), .int .u8 ((n : Int) / 256 % 256), .int .u8 ((n : Int) / 65536 % 256), .int .u8 ((n : Int) / 16777216 % 256)] := by
  have e : ∀ m, m < 256 → ((UInt8.ofNat m).toNat : Int) = m := fun m hm => by rw [UInt8.toNat_ofNat']; omega
  simp only [bvals, le4, List.map_cons, List.map_nil]
  rw [e _ (by omega), e _ (by omega), e _ (by omega), e _ (by omega)]
  rfl
set_option maxRecDepth 100000 in
theorem bytes_any (n : Nat) (hn : n < 4294967296) (w : World) : Calls Try.prog 45 #[.int .u32 n] w (Put8 (le4 n) w) := by
  have hv := le4_vals n hn
  have HV := hid hv
  clear hv
  go_enter Try.func45, Try.ntmps45
  go_wp2
  go_ret
  refine ⟨_, rfl, ⟨by rw [HV.out]; rfl, .inr ⟨w.heap.size, 4, _, rfl, Nat.le_refl _, heap_alloc_new w _, by simp [le4], by simp [maxLen], rfl, ?_⟩⟩, bl1 _ _⟩
  rw [HV.out]
  simp [le4]
  omega
end Go.Proofs.Ytkgifbnkkmeoiaa
