/- 4 texts of this claim, in build order. -/
import Derived.Test.YtkgifbnkkmeoiaaGreatDoorPompjpmob
import Derived.ScopeJumps
import Derived.WalkMore
import Derived.Deep.Cut
import Derived.Deep.DeepCutAuto
import Derived.Test.YtkgifbnkkmeoiaaGreatDoorPodkhkmbg
import Derived.Test.YtkgifbnkkmeoiaaGreatDoorPcononjpe
import Derived.Test.YtkgifbnkkmeoiaaGreatDoorPdhonageh
import Derived.Laws.BytesArg
import Derived.Test.YtkgifbnkkmeoiaaGreatDoorPhoigjkig
/- Contracts of slices.Clip, slices.Clone at []byte, and of wire.PutInt (seats without PutText). -/
namespace Go.Proofs.YtkgifbnkkmeoiaaGreatDoor
open Go.ChangeShapes Go.WideShapes Go.ChangeAt Go.RowKit
set_option linter.unusedVariables false

theorem info_byte : (Tryz.prog.info? 5).map (fun i => (i.zero, i.size, i.bytes)) = some (some (.int .u8 0), 1, 1) := by kernel_rfl
def bvals (l : List UInt8) : List Value := l.map fun c => Value.int .u8 (c.toNat : Int)
theorem bvals_len (l : List UInt8) : (bvals l).length = l.length := by simp [bvals]
theorem bvals_app (l m : List UInt8) : bvals (l ++ m) = bvals l ++ bvals m := by simp [bvals]
theorem bvals_one (l : List UInt8) : ∀ u ∈ bvals l, u.oneCell' = true := by
  intro u hu
  obtain ⟨_, _, rfl⟩ := List.mem_map.1 hu
  rfl

theorem u64_not (x : Int) (h0 : 0 ≤ x) (h1 : x < 18446744073709551616) : Go.bits .xor .u64 IntKind.u64.max x = 18446744073709551615 - x := by
  show IntKind.u64.wrap ((BitVec.ofInt 64 IntKind.u64.max ^^^ BitVec.ofInt 64 x).toNat : Int) = _
  have e1 : BitVec.ofInt 64 IntKind.u64.max = BitVec.allOnes 64 := by decide
  have e2 : (BitVec.ofInt 64 x).toNat = x.toNat := by rw [BitVec.toNat_ofInt]; omega
  rw [e1, BitVec.allOnes_xor, BitVec.toNat_not, e2, IntKind.wrap_u64]
  omega
theorem or128 : ∀ x : Fin 256, (x.val ||| 128) = x.val % 128 + 128 := by decide +kernel
theorem u8_or128 (u : Nat) : Go.bits .or .u8 ((u : Int) % 256) 128 = ((u % 128 + 128 : Nat) : Int) := by
  show IntKind.u8.wrap ((BitVec.ofInt 8 ((u : Int) % 256) ||| BitVec.ofInt 8 128).toNat : Int) = _
  have e1 : (BitVec.ofInt 8 ((u : Int) % 256)).toNat = u % 256 := by rw [BitVec.toNat_ofInt]; omega
  have e2 : (BitVec.ofInt 8 128).toNat = 128 := rfl
  rw [BitVec.toNat_or, e1, e2, IntKind.wrap_u8]
  have := or128 ⟨u % 256, by omega⟩
  simp only at this
  rw [this]
  omega
theorem Sl.clip {w : World} {B n c : Nat} {A : Option Addr} {xs : List Value} (h : Sl w B (.slice A n c) xs) : Sl w B (.slice A n n) xs := by
  obtain ⟨A', c', e, h2, h3, h4⟩ := h
  injection e with e1 e2 e3
  subst e1; subst e3; subst e2
  exact ⟨A, _, rfl, Nat.le_refl _, by omega, h4⟩

/-- slices.Clip: the same bytes, full. -/
theorem clip_any (A : Option Addr) (n c : Nat) (w : World) (hn : n ≤ c) (hc : c ≤ maxLen) : Calls Tryz.prog 45 #[.slice A n c] w fun e w' => e = .returned (.slice A n n) ∧ w = w' := by
  unfold maxLen at hc
  go_enter Tryz.func45, Tryz.ntmps45
  go_wp2
  go_ret
  exact ⟨rfl, rfl⟩

theorem own_mono {w : World} {b b' : Nat} {e : TypeId} {sz n : Nat} {v : Value} {xs : List Value} (h : w.ownsRow b e sz v n xs) (hb : b' ≤ b) : w.ownsRow b' e sz v n xs := by
  refine ⟨h.1, ?_⟩
  rcases h.2 with h | ⟨g, cap, cur, hv, hg, r⟩
  · exact .inl h
  · exact .inr ⟨g, cap, cur, hv, by omega, r⟩
theorem bvals_snoc (l : List UInt8) (u : Nat) (hu : u < 256) : bvals (l ++ [UInt8.ofNat u]) = bvals l ++ [.int .u8 (u : Int)] := by
  simp [bvals, UInt8.toNat_ofNat']
  omega
def PutPost (l : List UInt8) (n : Int) (w : World) (e : Ending) (w' : World) : Prop :=
  ∃ v, e = .returned v ∧ w'.ownsRow w.heap.size 5 1 v (l.length + (putInt n).length) (bvals (l ++ putInt n)) ∧ Below w.heap.size w w'
/-- What holds at each jump back: the bytes so far are the call's own, and u is what is still to be put. -/
def PutJump (l : List UInt8) (n : Int) (w : World) (a : Act) (wr : World) : Prop :=
  ∃ (v : Value) (done : List UInt8) (f u : Nat) (x6 x7 x8 x9 x10 x11 x12 x13 x14 x15 x16 x17 x18 x19 x20 x21 x22 x23 x24 x25 x26 x27 x28 x29 : Value), a = { tmps := #[v, .int .i64 n, undef, undef, .slice none 0 0, .int .u64 u, x6, x7, x8, x9, x10, x11, x12, x13, x14, x15, x16, x17, x18, x19, x20, x21, x22, x23, x24, x25, x26, x27, x28, x29], defers := [] } ∧
    wr.ownsRow w.heap.size 5 1 v (l.length + done.length) (bvals (l ++ done)) ∧ Below w.heap.size w wr ∧ done ++ putF f u = putInt n ∧ done.length + f = 9 ∧ u < 128 ^ (f + 1) ∧ u < 18446744073709551616
set_option maxRecDepth 100000 in
set_option maxHeartbeats 400000 in
theorem putInt_any (v : Value) (l : List UInt8) (n : Int) (w : World) (hv : Sl w w.heap.size v (bvals l)) (hl : l.length + 10 ≤ 140737488355328) (h1 : -9223372036854775808 ≤ n) (h2 : n ≤ 9223372036854775807) :
    Calls Tryz.prog 17 #[v, .int .i64 n] w (PutPost l n w) := by
  obtain ⟨A, c, rfl, hc1, hc2, hA⟩ := id hv
  obtain ⟨i0, hi, hz0, hz1, hz2⟩ := info_parts info_byte
  have hu := numU_lt n h1 h2
  have HV := hid hv; have HA := hid hA; have HU := hid hu; have HN1 := hid h1; have HN2 := hid h2
  clear hv hA hu h1 h2
  go_enter Tryz.func17, Tryz.ntmps17
  go_wp2_with fail
  refine wp_scope_jumps 0 (PutJump l n w) (fun a' _ => (intOf (a'.tmps.getD 5 undef)).toNat) rfl ?_ ?_
  · go_wp2_with fail
    refine (clip_any _ _ _ _ hc1 hc2).mono ?_
    rintro e w1 ⟨rfl, rfl⟩
    go_upto_if 12 with (fail)
    go_cut [5] (fun s5 wx => s5 = .int .u64 (numU n : Int) ∧ w = wx)
    case first =>
      by_cases hn : n < 0
      · have e0 := HN1.out
        have e1 : IntKind.u64.wrap (IntKind.u64.wrap n * 2) = 18446744073709551616 + 2 * n := by rw [IntKind.wrap_u64, IntKind.wrap_u64]; omega
        have e2 := u64_not (18446744073709551616 + 2 * n) (by omega) (by omega)
        have e3 : (18446744073709551615 : Int) - (18446744073709551616 + 2 * n) = (numU n : Int) := by unfold numU; rw [if_pos hn]; omega
        rw [e1]
        generalize (18446744073709551616 : Int) + 2 * n = X at *
        have E := hid (e2.trans e3)
        clear e0 e1 e2 e3
        go_wp2
        go_meet
        case rel => exact ⟨by rw [E.out], rfl⟩
      · have e0 := HN2.out
        have e1 : IntKind.u64.wrap (IntKind.u64.wrap n * 2) = (numU n : Int) := by unfold numU; rw [if_neg hn, IntKind.wrap_u64, IntKind.wrap_u64]; omega
        rw [e1]
        clear e0 e1
        go_wp2
        go_meet
        case rel => exact ⟨rfl, rfl⟩
    case rest =>
    obtain ⟨rfl, rfl⟩ := hcut
    have hU := HU.out
    have HP := hid (show ([] : List UInt8) ++ putF 9 (numU n) = putInt n from rfl)
    generalize numU n = u at *
    have HU' := hid hU
    clear hU HU
    have hb0 : bvals l = bvals (l ++ []) := by simp
    by_cases hlt : u < 128
    · go_wp2
      go_step3
      go_wp2_with (at_builtin; refine stop_here ?_)
      refine go_on ?_
      refine app_full (.tmp 25) (.tmp 28) 23 23 rfl rfl 5 i0 (.int .u8 0) 1 Tryz.underlying23 hi hz0 hz1 hz2 rfl A w.heap.size (bvals l) rfl ((HV.out.clip).below (bl1 _ _)) (.slice (some ⟨w.heap.size, 0, none⟩) 1 1) 1 [_] rfl (Src.ofSlice _ Tryz.underlying23 _ 1 1 _ rfl (cell_one_new _ _ _) (by simp; rfl)) (by omega) (by rw [bvals_len]; unfold maxLen; omega) (by rw [bvals_len]; omega) ?_
      intro v1 w1 hown1 hb1
      go_wp2
      simp only [Exit.jump]
      go_ret
      have e : putInt n = [UInt8.ofNat u] := by rw [← HP.out]; simp [putF, hlt]
      refine ⟨v1, rfl, ?_, (bl1 _ _).trans (hb1.mono (by simp))⟩
      rw [e, bvals_snoc l u (by omega), List.length_singleton]
      rw [bvals_len] at hown1
      exact own_mono hown1 (by simp)
    · go_wp2
      go_step3
      go_wp2_with (at_builtin; refine stop_here ?_)
      refine go_on ?_
      refine app_full (.tmp 17) (.tmp 21) 23 23 rfl rfl 5 i0 (.int .u8 0) 1 Tryz.underlying23 hi hz0 hz1 hz2 rfl A w.heap.size (bvals l) rfl ((HV.out.clip).below (bl1 _ _)) (.slice (some ⟨w.heap.size, 0, none⟩) 1 1) 1 [_] rfl (Src.ofSlice _ Tryz.underlying23 _ 1 1 _ rfl (cell_one_new _ _ _) (by simp; rfl)) (by omega) (by rw [bvals_len]; unfold maxLen; omega) (by rw [bvals_len]; omega) ?_
      intro v1 w1 hown1 hb1
      go_wp2
      go_step3
      simp only [Exit.then, Exit.jump]
      have hU'' := HU'.out
      have e : putInt n = UInt8.ofNat (u % 128 + 128) :: putF 8 (u / 128) := by rw [← HP.out]; simp [putF, hlt]
      refine ⟨trivial, v1, [UInt8.ofNat (u % 128 + 128)], 8, u / 128, _, _, _, _, _, _, _, _, _, _, _, _, _, _, _, _, _, _, _, _, _, _, _, _, by rw [show ((u / 128 : Nat) : Int) = (u : Int) / 128 by omega], ?_, (bl1 _ _).trans (hb1.mono (by simp)), by rw [e]; rfl, by simp, by omega, by omega⟩
      rw [bvals_snoc l (u % 128 + 128) (by omega), List.length_singleton]
      rw [bvals_len, u8_or128] at hown1
      exact own_mono hown1 (by simp)
  · rintro a' wr ⟨v, done, f, u, _, _, _, _, _, _, _, _, _, _, _, _, _, _, _, _, _, _, _, _, _, _, _, _, rfl, hown, hb, hput, hlen, hu, hu64⟩
    have HP := hid hput; have HU := hid hu; have HL := hid hlen; have HU64 := hid hu64; have HOWN := hid hown
    clear hput hu hlen hown hu64
    have hB := hb.size
    have hlen' : done.length ≤ 9 := by have := HL.out; omega
    by_cases hlt : u < 128
    · go_wp2_with (at_builtin; refine stop_here ?_)
      refine go_on ?_
      refine app_own (.tmp 25) (.tmp 28) 23 23 rfl rfl w.heap.size 5 i0 (.int .u8 0) 1 1 Tryz.underlying23 hi hz0 hz1 hz2 rfl (by omega) v _ _ rfl (HOWN.out.alloc _) (.slice (some ⟨wr.heap.size, 0, none⟩) 1 1) 1 [_] rfl (Src.ofSlice _ Tryz.underlying23 _ 1 1 _ rfl (cell_one_new _ _ _) (by simp; rfl)) (by unfold maxLen; omega) (by omega) (by simp; omega) ?_
      intro v1 w1 hown1 hg1 hb1
      go_wp2
      simp only [Exit.jump]
      go_ret
      have e : putInt n = done ++ [UInt8.ofNat u] := by
        rw [← HP.out]; cases f <;> simp [putF, hlt]
      refine ⟨v1, rfl, ?_, (hb.alloc hB _).trans hb1⟩
      rw [e, ← List.append_assoc, bvals_snoc _ u (by omega), List.length_append, List.length_singleton, ← Nat.add_assoc]
      exact hown1
    · rcases f with _ | f
      · have := HU.out; omega
      · go_wp2_with (at_builtin; refine stop_here ?_)
        refine go_on ?_
        refine app_own (.tmp 17) (.tmp 21) 23 23 rfl rfl w.heap.size 5 i0 (.int .u8 0) 1 1 Tryz.underlying23 hi hz0 hz1 hz2 rfl (by omega) v _ _ rfl (HOWN.out.alloc _) (.slice (some ⟨wr.heap.size, 0, none⟩) 1 1) 1 [_] rfl (Src.ofSlice _ Tryz.underlying23 _ 1 1 _ rfl (cell_one_new _ _ _) (by simp; rfl)) (by unfold maxLen; omega) (by omega) (by simp; omega) ?_
        intro v1 w1 hown1 hg1 hb1
        go_wp2
        go_step3
        simp only [Exit.then]
        have e : (done ++ [UInt8.ofNat (u % 128 + 128)]) ++ putF f (u / 128) = putInt n := by
          rw [← HP.out]; simp [putF, hlt]
        have hu1 := HU.out
        have hu2 : u / 128 < 128 ^ (f + 1) := by
          rw [Nat.pow_succ] at hu1
          exact Nat.div_lt_of_lt_mul (by omega)
        have hl1 := HL.out
        have hu64 := HU64.out
        refine ⟨rfl, ⟨v1, done ++ [UInt8.ofNat (u % 128 + 128)], f, u / 128, _, _, _, _, _, _, _, _, _, _, _, _, _, _, _, _, _, _, _, _, _, _, _, _, by rw [show ((u / 128 : Nat) : Int) = (u : Int) / 128 by omega], ?_, (hb.alloc hB _).trans hb1, e, by simp; omega, hu2, by omega⟩, ?_⟩
        · rw [← List.append_assoc, bvals_snoc _ (u % 128 + 128) (by omega), List.length_append, List.length_singleton, ← Nat.add_assoc]
          rw [u8_or128] at hown1
          exact hown1
        · simp [intOf]; omega

theorem Sl.of_bytes {w : World} {base : Nat} {e : TypeId} {v : Value} {n : Nat} {xs : List Value} (h : w.ownsRow base e 1 v n xs) : Sl w w.heap.size v xs := Sl.of_own h
end Go.Proofs.YtkgifbnkkmeoiaaGreatDoor
/- Bytes that are put, one behind the other. -/
namespace Go.Proofs.YtkgifbnkkmeoiaaGreatDoor
open Go.ChangeShapes Go.WideShapes Go.ChangeAt Go.RowKit
set_option linter.unusedVariables false

theorem flat_len {α : Type} (l : List α) (f : α → List UInt8) (m : Nat) (h : ∀ x ∈ l, (f x).length ≤ m) : (l.flatMap f).length ≤ m * l.length := by
  induction l with
  | nil => simp
  | cons x l ih =>
    have h1 := h x List.mem_cons_self
    have h2 := ih (fun y hy => h y (List.mem_cons_of_mem _ hy))
    rw [List.flatMap_cons, List.length_append, List.length_cons, Nat.mul_succ]
    omega
theorem flat_drop {α : Type} {l : List α} {k : Nat} (hk : k < l.length) (f : α → List UInt8) : (l.drop k).flatMap f = f l[k] ++ (l.drop (k + 1)).flatMap f := by
  rw [List.drop_eq_getElem_cons hk, List.flatMap_cons]
theorem flat_done {α : Type} {l : List α} (f : α → List UInt8) : (l.drop l.length).flatMap f = [] := by simp
/-- Bytes of the call's own. -/
def Own8 (w : World) (base : Nat) (v : Value) (l : List UInt8) : Prop := w.ownsRow base 5 1 v l.length (bvals l)
theorem Own8.less {w : World} {base base' : Nat} {v : Value} {l : List UInt8} (h : Own8 w base v l) (hb : base' ≤ base) : Own8 w base' v l := by
  obtain ⟨h1, h2⟩ := h
  refine ⟨h1, ?_⟩
  rcases h2 with h2 | ⟨g, cap, cur, rfl, hbg, r⟩
  · exact .inl h2
  · exact .inr ⟨g, cap, cur, rfl, by omega, r⟩
theorem Own8.on {w w' : World} {base : Nat} {v : Value} {l : List UInt8} (h : Own8 w base v l) (hb : Below w.heap.size w w') : Own8 w' base v l := own_kept h (fun g hg => hb.block g (own_lt h g hg).2)
theorem Own8.sl {w : World} {base : Nat} {v : Value} {l : List UInt8} (h : Own8 w base v l) : Sl w w.heap.size v (bvals l) := Sl.of_own h
theorem Own8.form {w : World} {base : Nat} {v : Value} {l : List UInt8} (h : Own8 w base v l) : ∃ A c, v = .slice A l.length c := by
  rcases h.2 with ⟨rfl, h0⟩ | ⟨g, cap, cur, rfl, _⟩
  · exact ⟨none, 0, by rw [h0]⟩
  · exact ⟨_, _, rfl⟩
def Put8 (l : List UInt8) (w : World) (e : Ending) (w' : World) : Prop := ∃ v, e = .returned v ∧ Own8 w' w.heap.size v l ∧ Below w.heap.size w w'
theorem putI8 (v : Value) (l : List UInt8) (n : Int) (w : World) (hv : Sl w w.heap.size v (bvals l)) (hl : l.length ≤ 100000) (hn : InI64 n) :
    Calls Tryz.prog 17 #[v, .int .i64 n] w (Put8 (l ++ putInt n) w) := by
  unfold InI64 at hn
  refine (putInt_any v l n w hv (by omega) (by omega) (by omega)).mono ?_
  rintro e w' ⟨v', rfl, h, hb⟩
  exact ⟨v', rfl, by unfold Own8; rw [List.length_append]; exact h, hb⟩
end Go.Proofs.YtkgifbnkkmeoiaaGreatDoor
/- Contracts of slices.Clip, slices.Clone at []byte, and of wire.PutInt, wire.PutText. -/
namespace Go.Proofs.YtkgifbnkkmeoiaaGreatDoor
open Go.ChangeShapes Go.WideShapes Go.ChangeAt Go.RowKit
set_option linter.unusedVariables false

def PutTextPost (l : List UInt8) (s : ByteArray) (w : World) (e : Ending) (w' : World) : Prop :=
  ∃ v, e = .returned v ∧ w'.ownsRow w.heap.size 5 1 v (l.length + (putInt s.size).length + s.size) (bvals (l ++ putInt s.size ++ s.data.toList)) ∧ Below w.heap.size w w'
theorem byteCells_eq (s : ByteArray) : byteCells s = bvals s.data.toList := rfl
set_option maxHeartbeats 400000 in
theorem putText_any (v : Value) (l : List UInt8) (s : ByteArray) (w : World) (hv : Sl w w.heap.size v (bvals l)) (hl : l.length + s.size + 10 ≤ 140737488355328) :
    Calls Tryz.prog 20 #[v, .string s] w (PutTextPost l s w) := by
  obtain ⟨i0, hi, hz0, hz1, hz2⟩ := info_parts info_byte
  have hp := putInt_le (s.size : Int)
  go_enter Tryz.func20, Tryz.ntmps20
  go_wp2_with fail
  refine (putInt_any v l s.size w hv (by omega) (by omega) (by omega)).mono ?_
  rintro e w1 ⟨v1, rfl, hown, hb1⟩
  go_wp2_with (at_builtin; refine stop_here ?_)
  refine go_on ?_
  refine app_own (.tmp 8) (.tmp 9) 23 9 rfl rfl w.heap.size 5 i0 (.int .u8 0) 1 1 Tryz.underlying23 hi hz0 hz1 hz2 rfl (by omega) v1 _ _ rfl hown (.string s) s.size _ rfl (Src.ofString _ Tryz.underlying9 s) (by unfold maxLen; omega) (by omega) hb1.size ?_
  intro v2 w2 hown2 hg2 hb2
  go_wp2
  go_ret
  refine ⟨v2, rfl, ?_, hb1.trans hb2⟩
  rw [byteCells_eq, ← bvals_app] at hown2
  exact hown2
end Go.Proofs.YtkgifbnkkmeoiaaGreatDoor
/- Bytes that are put, one behind the other. -/
namespace Go.Proofs.YtkgifbnkkmeoiaaGreatDoor
open Go.ChangeShapes Go.WideShapes Go.ChangeAt Go.RowKit
set_option linter.unusedVariables false

/-- A path's bytes. -/
def putP (p : List ByteArray) : List UInt8 := putInt (textB p).size ++ (textB p).data.toList
/-- A row of paths' bytes. -/
def putM (ms : List (List ByteArray)) : List UInt8 := ms.flatMap putP
theorem putP_len {p : List ByteArray} (h : mayB p = true) : (putP p).length ≤ 48 := by
  have h1 := putInt_le ((textB p).size : Int)
  have h2 := textB_size h
  unfold putP
  have e : (textB p).data.toList.length = (textB p).size := by rw [Array.length_toList]; rfl
  rw [List.length_append, e]
  omega
theorem putT8 (v : Value) (l : List UInt8) (s : ByteArray) (w : World) (hv : Sl w w.heap.size v (bvals l)) (hl : l.length ≤ 100000) (hs : s.size ≤ 100000) :
    Calls Tryz.prog 20 #[v, .string s] w (Put8 (l ++ (putInt s.size ++ s.data.toList)) w) := by
  refine (putText_any v l s w hv (by omega)).mono ?_
  rintro e w' ⟨v', rfl, h, hb⟩
  refine ⟨v', rfl, ?_, hb⟩
  unfold Own8
  rw [← List.append_assoc]
  have : (l ++ putInt ↑s.size ++ s.data.toList).length = l.length + (putInt ↑s.size).length + s.size := by
    rw [List.length_append, List.length_append, Array.length_toList]; rfl
  rw [this]
  exact h
end Go.Proofs.YtkgifbnkkmeoiaaGreatDoor
