/- 5 texts of this claim, in build order. -/
import Derived.Test.YtkgifbnkkmeoiaaGreatDoorPodkhkmbg
import Derived.Test.YtkgifbnkkmeoiaaGreatDoorPpmbgbmgk
import Derived.Test.YtkgifbnkkmeoiaaGreatDoorPlommplbg
import Derived.Test.YtkgifbnkkmeoiaaGreatDoorPmfcnoomp
import Derived.ScopeJumps
import Derived.WalkMore
import Derived.Laws.Closers25b
import Derived.Test.YtkgifbnkkmeoiaaGreatDoorPcononjpe
/- Arguments opened: lists of numbers, of lists of texts. -/
namespace Go.Proofs.YtkgifbnkkmeoiaaGreatDoor
open Go.ChangeShapes Go.WideShapes Go.ChangeAt Go.RowKit Go.Deep
set_option linter.unusedVariables false
set_option linter.unusedSimpArgs false

theorem opens_intsQ : Opens Tryz.prog 43 1 rdInts := opens_slice (e := 3) good_int Tryz.underlying43 (opens_int Tryz.underlying3 (by kernel_rfl)) (by kernel_rfl) (by omega)
theorem opens_pathsQ : Opens Tryz.prog 125 1 (rdSlice 1 rdStrs) := opens_slice (e := 129) good_strs Tryz.underlying125 opens_strsQ (by kernel_rfl) (by omega)
theorem strs_sz {w : World} {B : Nat} {cs : List Value} {p : List ByteArray} (h : rdStrs w B cs p) : ∀ s ∈ p, s.size ≤ maxLen := by
  intro s hs
  obtain ⟨i, hi, rfl⟩ := List.mem_iff_getElem.1 hs
  obtain ⟨A, c, e, -, -⟩ := h.open_
  rw [e] at h
  exact (strs_at h hi).elim fun b h => h.elim fun off h => h.2.2.2
theorem paths_sz {w : World} {B : Nat} {cs : List Value} {l : List (List ByteArray)} (h : rdSlice 1 rdStrs w B cs l) : ∀ p ∈ l, ∀ s ∈ p, s.size ≤ maxLen := by
  intro p hp
  obtain ⟨i, hi, rfl⟩ := List.mem_iff_getElem.1 hp
  obtain ⟨A, c, e, -, -⟩ := h.open_
  rw [e] at h
  obtain ⟨b, off, AM, cM, -, -, -, h3⟩ := paths_at h hi
  exact strs_sz h3
end Go.Proofs.YtkgifbnkkmeoiaaGreatDoor
/- What the laws of facts use: arguments opened, few facts, what can be put. -/
namespace Go.Proofs.YtkgifbnkkmeoiaaGreatDoor
open Go.ChangeShapes Go.WideShapes Go.ChangeAt Go.RowKit Go.Deep
set_option linter.unusedVariables false
set_option linter.unusedSimpArgs false

theorem opens_fact : Opens Tryz.prog 127 2 rdFact := by
  refine opens_struct (k := 2) Tryz.underlying127 (by kernel_rfl) ?_
  exact opensF_cons (k2 := 1) (by rfl) opens_pathsQ (opensF_one (by rfl) opens_intsQ)
theorem opens_facts : Opens Tryz.prog 45 1 (rdSlice 2 rdFact) := opens_slice (e := 127) good_fact Tryz.underlying45 opens_fact (by kernel_rfl) (by omega)
theorem putE_zero {l : List FactX} (h : putE l = 0) : l.length ≤ 8 ∧ ∀ f ∈ l, plainFt f = true := by
  unfold putE at h
  split at h
  · cases h
  · split at h
    · rename_i h1 h2
      exact ⟨by omega, fun f hf => List.all_eq_true.1 h2 f hf⟩
    · cases h
theorem fewFs_small (l : List FactX) : (fewFs l).length ≤ 10 ∧ ∀ f ∈ fewFs l, f.1.length ≤ 5 ∧ f.2.length ≤ 5 := by
  refine ⟨by simp [fewFs]; omega, fun f hf => ?_⟩
  unfold fewFs at hf
  obtain ⟨g, -, rfl⟩ := List.mem_map.1 hf
  unfold fewFt
  simp only [List.length_map, List.length_take]
  omega
end Go.Proofs.YtkgifbnkkmeoiaaGreatDoor
/- Layers 15 and 22, plain: commands, entries and messages, and their bytes; how they are read as arguments. -/
namespace Go.Proofs.YtkgifbnkkmeoiaaGreatDoor
open Go.ChangeShapes Go.WideShapes Go.ChangeAt Go.RowKit
set_option linter.unusedVariables false
set_option linter.unusedSimpArgs false

/-- A command: its operation, session, number and facts. -/
abbrev CmdX := Int × Int × Int × List FactX
/-- An entry: its index, term and command. -/
abbrev EntX := Int × Int × CmdX
abbrev rdCmd : Rd CmdX := rdPair 1 rdInt (rdPair 1 rdInt (rdPair 1 rdInt (rdSlice 2 rdFact)))
abbrev rdEnt : Rd EntX := rdPair 1 rdInt (rdPair 1 rdInt rdCmd)
theorem good_cmd : Good rdCmd := good_pair good_int (good_pair good_int (good_pair good_int good_facts))
theorem good_ent : Good rdEnt := good_pair good_int (good_pair good_int good_cmd)
theorem good_ents : Good (rdSlice 6 rdEnt) := good_slice good_ent
theorem opens_cmd : Opens Tryz.prog 47 4 rdCmd := by
  refine opens_struct (k := 4) Tryz.underlying47 (by kernel_rfl) ?_
  exact opensF_cons (k2 := 3) (by rfl) (opens_int Tryz.underlying3 (by kernel_rfl)) (opensF_cons (k2 := 2) (by rfl) (opens_int Tryz.underlying3 (by kernel_rfl)) (opensF_cons (k2 := 1) (by rfl) (opens_int Tryz.underlying3 (by kernel_rfl)) (opensF_one (by rfl) opens_facts)))
theorem opens_ent : Opens Tryz.prog 49 6 rdEnt := by
  refine opens_struct (k := 6) Tryz.underlying49 (by kernel_rfl) ?_
  exact opensF_cons (k2 := 5) (by rfl) (opens_int Tryz.underlying3 (by kernel_rfl)) (opensF_cons (k2 := 4) (by rfl) (opens_int Tryz.underlying3 (by kernel_rfl)) (opensF_one (by rfl) opens_cmd))
theorem opens_ents : Opens Tryz.prog 22 1 (rdSlice 6 rdEnt) := opens_slice (e := 49) good_ent Tryz.underlying22 opens_ent (by kernel_rfl) (by omega)
/-- A command as a value. -/
def CmdV (w : World) (B : Nat) (v : Value) (c : CmdX) : Prop :=
  ∃ A k, v = .agg #[.int .i64 c.1, .int .i64 c.2.1, .int .i64 c.2.2.1, .slice A c.2.2.2.length k] ∧ rdSlice 2 rdFact w B [.slice A c.2.2.2.length k] c.2.2.2 ∧ InI64 c.1 ∧ InI64 c.2.1 ∧ InI64 c.2.2.1
def EntV (w : World) (B : Nat) (v : Value) (e : EntX) : Prop :=
  ∃ A k, v = .agg #[.int .i64 e.1, .int .i64 e.2.1, .int .i64 e.2.2.1, .int .i64 e.2.2.2.1, .int .i64 e.2.2.2.2.1, .slice A e.2.2.2.2.2.length k] ∧ rdSlice 2 rdFact w B [.slice A e.2.2.2.2.2.length k] e.2.2.2.2.2 ∧ InI64 e.1 ∧ InI64 e.2.1 ∧ InI64 e.2.2.1 ∧ InI64 e.2.2.2.1 ∧ InI64 e.2.2.2.2.1
theorem CmdV.below {w w' : World} {B : Nat} {v : Value} {c : CmdX} (h : CmdV w B v c) (hb : Below B w w') : CmdV w' B v c := by
  obtain ⟨A, k, h1, h2, h3⟩ := h
  exact ⟨A, k, h1, good_facts.stays h2 hb, h3⟩
theorem CmdV.more {w : World} {B B' : Nat} {v : Value} {c : CmdX} (h : CmdV w B v c) (hb : B ≤ B') : CmdV w B' v c := by
  obtain ⟨A, k, h1, h2, h3⟩ := h
  exact ⟨A, k, h1, good_facts.more h2 hb, h3⟩
theorem EntV.below {w w' : World} {B : Nat} {v : Value} {e : EntX} (h : EntV w B v e) (hb : Below B w w') : EntV w' B v e := by
  obtain ⟨A, k, h1, h2, h3⟩ := h
  exact ⟨A, k, h1, good_facts.stays h2 hb, h3⟩
theorem EntV.more {w : World} {B B' : Nat} {v : Value} {e : EntX} (h : EntV w B v e) (hb : B ≤ B') : EntV w B' v e := by
  obtain ⟨A, k, h1, h2, h3⟩ := h
  exact ⟨A, k, h1, good_facts.more h2 hb, h3⟩
theorem EntV.on {w w' : World} {v : Value} {e : EntX} (h : EntV w w.heap.size v e) (hb : Below w.heap.size w w') : EntV w' w'.heap.size v e := (h.below hb).more hb.size
theorem CmdV.on {w w' : World} {v : Value} {e : CmdX} (h : CmdV w w.heap.size v e) (hb : Below w.heap.size w w') : CmdV w' w'.heap.size v e := (h.below hb).more hb.size
/-- The cells of an entry that is read. -/
theorem ent_cells {w : World} {B : Nat} {cs : List Value} {e : EntX} (h : rdEnt w B cs e) : ∃ A k, cs = [.int .i64 e.1, .int .i64 e.2.1, .int .i64 e.2.2.1, .int .i64 e.2.2.2.1, .int .i64 e.2.2.2.2.1, .slice A e.2.2.2.2.2.length k] ∧
    rdSlice 2 rdFact w B [.slice A e.2.2.2.2.2.length k] e.2.2.2.2.2 ∧ InI64 e.1 ∧ InI64 e.2.1 ∧ InI64 e.2.2.1 ∧ InI64 e.2.2.2.1 ∧ InI64 e.2.2.2.2.1 := by
  obtain ⟨-, ⟨h1, i1⟩, -, ⟨h2, i2⟩, -, ⟨h3, i3⟩, -, ⟨h4, i4⟩, -, ⟨h5, i5⟩, h6⟩ := h
  obtain ⟨A, k, h7, -, -⟩ := h6.open_
  rw [h7] at h6
  refine ⟨A, k, ?_, h6, i1, i2, i3, i4, i5⟩
  rw [← List.take_append_drop 1 cs, h1, ← List.take_append_drop 1 (cs.drop 1), h2, ← List.take_append_drop 1 ((cs.drop 1).drop 1), h3, ← List.take_append_drop 1 (((cs.drop 1).drop 1).drop 1), h4,
    ← List.take_append_drop 1 ((((cs.drop 1).drop 1).drop 1).drop 1), h5, h7]
  rfl
/-- The entry at a place of a slice. -/
theorem ents_at {w : World} {B : Nat} {A : Option Addr} {n c : Nat} {l : List EntX} (h : rdSlice 6 rdEnt w B [.slice A n c] l) {k : Nat} (hk : k < l.length) :
    ∃ b off AF cF, A = some ⟨b, off, none⟩ ∧ b < B ∧ w.cell? ⟨b, off + k * 6, none⟩ = some (.int .i64 l[k].1) ∧ w.cell? ⟨b, off + k * 6 + 1, none⟩ = some (.int .i64 l[k].2.1) ∧
      w.cell? ⟨b, off + k * 6 + 2, none⟩ = some (.int .i64 l[k].2.2.1) ∧ w.cell? ⟨b, off + k * 6 + 3, none⟩ = some (.int .i64 l[k].2.2.2.1) ∧ w.cell? ⟨b, off + k * 6 + 4, none⟩ = some (.int .i64 l[k].2.2.2.2.1) ∧
      w.cell? ⟨b, off + k * 6 + 5, none⟩ = some (.slice AF l[k].2.2.2.2.2.length cF) ∧
      EntV w B (.agg #[.int .i64 l[k].1, .int .i64 l[k].2.1, .int .i64 l[k].2.2.1, .int .i64 l[k].2.2.2.1, .int .i64 l[k].2.2.2.2.1, .slice AF l[k].2.2.2.2.2.length cF]) l[k] := by
  obtain ⟨b, off, h1, h2, es, h3, h4, h5⟩ := h.at_ hk
  obtain ⟨AF, cF, h6, h7, i1, i2, i3, i4, i5⟩ := ent_cells h5
  subst h6
  refine ⟨b, off, AF, cF, h1, h2, ?_, ?_, ?_, ?_, ?_, ?_, ⟨AF, cF, rfl, h7, i1, i2, i3, i4, i5⟩⟩
  · exact h4 0 _ rfl
  · exact h4 1 _ rfl
  · exact h4 2 _ rfl
  · exact h4 3 _ rfl
  · exact h4 4 _ rfl
  · exact h4 5 _ rfl
/-- Is a number least to 2^40? -/
def numB (n least : Int) : Bool := decide (least ≤ n ∧ n ≤ 1099511627776)
def errC (c : CmdX) : Int := if c.1 < 0 ∨ 3 < c.1 then 24 else if numB c.2.1 0 && numB c.2.2.1 0 then putE c.2.2.2 else 1
def putC (c : CmdX) : List UInt8 := putInt c.1 ++ (putInt c.2.1 ++ (putInt c.2.2.1 ++ putFacts c.2.2.2))
def errN (e : EntX) : Int := if numB e.1 1 && numB e.2.1 1 then errC e.2.2 else 1
def putN (e : EntX) : List UInt8 := putInt e.1 ++ (putInt e.2.1 ++ putC e.2.2)
theorem putFacts_le {l : List FactX} (h : putE l = 0) : (putFacts l).length ≤ 1850 := by
  obtain ⟨h1, h2⟩ := putE_zero h
  exact putFacts_len (by omega) h2
theorem errC_zero {c : CmdX} (h : errC c = 0) : 0 ≤ c.1 ∧ c.1 ≤ 3 ∧ 0 ≤ c.2.1 ∧ c.2.1 ≤ 1099511627776 ∧ 0 ≤ c.2.2.1 ∧ c.2.2.1 ≤ 1099511627776 ∧ putE c.2.2.2 = 0 := by
  unfold errC at h
  split at h
  · cases h
  · split at h
    · rename_i h1 h2
      rw [Bool.and_eq_true] at h2
      have h3 := of_decide_eq_true h2.1
      have h4 := of_decide_eq_true h2.2
      exact ⟨by omega, by omega, h3.1, h3.2, h4.1, h4.2, h⟩
    · cases h
theorem errN_zero {e : EntX} (h : errN e = 0) : 1 ≤ e.1 ∧ e.1 ≤ 1099511627776 ∧ 1 ≤ e.2.1 ∧ e.2.1 ≤ 1099511627776 ∧ errC e.2.2 = 0 := by
  unfold errN at h
  split at h
  · rename_i h2
    rw [Bool.and_eq_true] at h2
    have h3 := of_decide_eq_true h2.1
    have h4 := of_decide_eq_true h2.2
    exact ⟨h3.1, h3.2, h4.1, h4.2, h⟩
  · cases h
theorem putN_le {e : EntX} (h : errN e = 0) : (putN e).length ≤ 1900 := by
  obtain ⟨-, -, -, -, h1⟩ := errN_zero h
  obtain ⟨-, -, -, -, -, -, h2⟩ := errC_zero h1
  have h3 := putFacts_le h2
  unfold putN putC
  have a1 := putInt_le e.1
  have a2 := putInt_le e.2.1
  have a3 := putInt_le e.2.2.1
  have a4 := putInt_le e.2.2.2.1
  have a5 := putInt_le e.2.2.2.2.1
  simp only [List.length_append]
  omega
/-- What is put, or the refusal. -/
def PutR (b bs : List UInt8) (er : Int) (w : World) (e : Ending) (w' : World) : Prop :=
  (er = 0 ∧ ∃ r, e = .returned (.tuple #[r, .int .i64 0]) ∧ Own8 w' w.heap.size r (b ++ bs) ∧ Below w.heap.size w w') ∨
  (er ≠ 0 ∧ e = .returned (.tuple #[.slice none 0 0, .int .i64 er]) ∧ Below w.heap.size w w')
end Go.Proofs.YtkgifbnkkmeoiaaGreatDoor
/- The program's crc: step, More, Sum, Bytes. -/
namespace Go.Proofs.YtkgifbnkkmeoiaaGreatDoor
open Go.ChangeShapes Go.WideShapes Go.ChangeAt Go.RowKit
set_option linter.unusedVariables false
set_option linter.unusedSimpArgs false

def crcBit (n : Int) : Int := if Go.bits .and .u32 n 1 = 1 then Go.bits .xor .u32 (n / 2) 3988292384 else n / 2
def crcBits : Nat → Int → Int
  | 0, n => n
  | k + 1, n => crcBit (crcBits k n)
def crcByte (n : Int) (c : UInt8) : Int := crcBits 8 (Go.bits .xor .u32 n c.toNat)
def StepJ (n : Int) (c : UInt8) (w : World) (a : Act) (wr : World) : Prop :=
  ∃ (x : Int) (k : Nat) (x6 x7 x8 x9 x10 x11 x12 x13 x14 x15 x16 x17 x18 x19 x20 x21 x22 x23 : Value), a = { tmps := #[.int .u32 x, .int .u8 c.toNat, undef, undef, .int .u32 0, .int .i64 k, x6, x7, x8, x9, x10, x11, x12, x13, x14, x15, x16, x17, x18, x19, x20, x21, x22, x23], defers := [] } ∧ k < 8 ∧ x = crcBits k (Go.bits .xor .u32 n c.toNat) ∧ w = wr
def StepM (a : Act) (_ : World) : Nat := 8 - (intOf (a.tmps.getD 5 undef)).toNat
set_option maxRecDepth 100000 in
set_option maxHeartbeats 800000 in
theorem step_any (n : Int) (c : UInt8) (w : World) : Calls Tryz.prog 84 #[.int .u32 n, .int .u8 c.toNat] w fun e w' => e = .returned (.int .u32 (crcByte n c)) ∧ w = w' := by
  have hc : (c.toNat : Int) % 4294967296 = c.toNat := by have := UInt8.toNat_lt c; omega
  unfold crcByte
  go_enter Tryz.func84, Tryz.ntmps84
  go_wp2_with fail
  refine wp_scope_jumps 0 (StepJ n c w) StepM rfl ?_ ?_
  · unfold StepJ
    have h1 : crcBits 1 (Go.bits .xor .u32 n c.toNat) = crcBit (Go.bits .xor .u32 n c.toNat) := rfl
    unfold crcBit at h1
    by_cases hb : Go.bits .and .u32 (Go.bits .xor .u32 n c.toNat) 1 = 1
    all_goals
      try (rw [if_pos hb] at h1; have t1 : (Go.bits .and .u32 (Go.bits .xor .u32 n c.toNat) 1 == 1) = true := by simp [hb])
      try (rw [if_neg hb] at h1; have t1 : (Go.bits .and .u32 (Go.bits .xor .u32 n c.toNat) 1 == 1) = false := by simpa using hb)
      have H1 := hid h1
      clear hb h1
      go_wp2_with fail
      go_step3
      go_wp2
      go_step3
      simp only [Exit.then, Exit.jump]
      refine ⟨rfl, _, 1, _, _, _, _, _, _, _, _, _, _, _, _, _, _, _, _, _, _, rfl, by decide, H1.out.symm, rfl⟩
  · rintro a' wr ⟨x, k, x6, x7, x8, x9, x10, x11, x12, x13, x14, x15, x16, x17, x18, x19, x20, x21, x22, x23, rfl, hk, hx, rfl⟩
    unfold StepJ
    have h1 : crcBits (k + 1) (Go.bits .xor .u32 n c.toNat) = crcBit x := by rw [hx]; rfl
    unfold crcBit at h1
    clear hx
    by_cases hb : Go.bits .and .u32 x 1 = 1
    all_goals
      try (rw [if_pos hb] at h1; have t1 : (Go.bits .and .u32 x 1 == 1) = true := by simp [hb])
      try (rw [if_neg hb] at h1; have t1 : (Go.bits .and .u32 x 1 == 1) = false := by simpa using hb)
      have H1 := hid h1
      clear hb h1
      by_cases hk8 : k + 1 < 8
      · go_wp2
        go_step3
        simp only [Exit.then]
        refine ⟨rfl, ⟨_, k + 1, _, _, _, _, _, _, _, _, _, _, _, _, _, _, _, _, _, _, rfl, hk8, H1.out.symm, rfl⟩, ?_⟩
        simp [StepM, intOf]
        omega
      · obtain rfl : k = 7 := by omega
        go_wp2
        simp only [Exit.jump]
        go_ret
        exact ⟨congrArg (fun z => Ending.returned (.int .u32 z)) H1.out.symm, rfl⟩
def crcRun (n : Int) (l : List UInt8) : Int := l.foldl crcByte n
def crcNot (n : Int) : Int := Go.bits .xor .u32 4294967295 n
def crcMore (n : Int) (l : List UInt8) : Int := crcNot (crcRun (crcNot n) l)
def crcSum (l : List UInt8) : Int := crcMore 0 l
theorem crcSum_bounds (l : List UInt8) : 0 ≤ crcSum l ∧ crcSum l ≤ 4294967295 := by
  unfold crcSum crcMore crcNot
  exact ⟨bits_lo_u32 _ _ _, bits_hi_u32 _ _ _⟩
theorem crcRun_take (n : Int) (l : List UInt8) (k : Nat) (hk : k < l.length) : crcRun n (l.take (k + 1)) = crcByte (crcRun n (l.take k)) (l.getD k 0) := by
  unfold crcRun
  rw [List.take_succ_eq_append_getElem hk, List.foldl_append, List.getD_eq_getElem?_getD, List.getElem?_eq_getElem hk]; rfl
theorem Sl.byteAt {w : World} {B n c : Nat} {A : Option Addr} {l : List UInt8} (h : Sl w B (.slice A n c) (bvals l)) {k : Nat} (hk : k < l.length) :
    ∃ b off, A = some ⟨b, off, none⟩ ∧ b < B ∧ w.cell? ⟨b, off + k, none⟩ = some (.int .u8 (l.getD k 0).toNat) := by
  obtain ⟨A', c', e, h2, h3, h4⟩ := h
  injection e with e1 e2 e3
  subst e1
  obtain ⟨b, off, h5, h6, h7⟩ := h4 (by rw [bvals_len]; omega)
  refine ⟨b, off, h5, h6, h7 k _ ?_⟩
  unfold bvals
  rw [List.getElem?_map, List.getElem?_eq_getElem hk, List.getD_eq_getElem?_getD, List.getElem?_eq_getElem hk]; rfl
def MoreRel (n : Int) (l : List UInt8) (w : World) (x i : Value) (wr : World) : Prop := ∃ k : Nat, k ≤ l.length ∧ i = .int .i64 k ∧ x = .int .u32 (crcRun (crcNot n) (l.take k)) ∧ w = wr
set_option maxRecDepth 100000 in
set_option maxHeartbeats 800000 in
theorem more_any (n : Int) (v : Value) (l : List UInt8) (w : World) (hv : Sl w w.heap.size v (bvals l)) (hl : l.length ≤ 140737488355328) : Calls Tryz.prog 70 #[.int .u32 n, v] w fun e w' => e = .returned (.int .u32 (crcMore n l)) ∧ w = w' := by
  obtain ⟨A, c, e, hc1, hc2, -⟩ := id hv
  rw [bvals_len] at e hc1
  subst e
  have HV := hid hv
  clear hv
  unfold maxLen at hc2
  have hmax : IntKind.u32.max = 4294967295 := by decide
  obtain ⟨s, hs⟩ : ∃ s, s = crcMore n l := ⟨_, rfl⟩
  rw [← hs]
  have HS := hid hs
  clear hs
  go_enter Tryz.func70, Tryz.ntmps70
  go_wp2
  go_loopw [5, 12] (fun x i wr => MoreRel n l w x i wr) (fun _ i _ => l.length - (intOf i).toNat)
  case atStart => exact ⟨0, by omega, rfl, by simp [crcRun, crcNot, hmax], rfl⟩
  case round =>
    obtain ⟨k, hk, rfl, rfl, rfl⟩ := hrel
    by_cases hlt : k < l.length
    · obtain ⟨b, off, rfl, hb, hcl⟩ := HV.out.byteAt hlt
      have hrun := crcRun_take (crcNot n) l k hlt
      generalize crcRun (crcNot n) (l.take k) = y at *
      generalize l.getD k 0 = z at *
      have HRUN := hid hrun
      clear hrun
      go_wp2_with fail
      refine (step_any _ _ _).mono ?_
      rintro e w1 ⟨rfl, rfl⟩
      go_wp2
      go_roundw
      case rel => exact ⟨k + 1, by omega, by go_num, by rw [HRUN.out], rfl⟩
      case measure => simp [intOf]; omega
    · obtain rfl : k = l.length := by omega
      have HCM := hid (show s = crcNot (crcRun (crcNot n) (l.take l.length)) by rw [HS.out, List.take_length]; rfl)
      generalize crcRun (crcNot n) (l.take l.length) = y at *
      go_wp2
      go_ret
      exact ⟨by rw [HCM.out]; simp [crcNot, hmax], rfl⟩
theorem sum_any (v : Value) (l : List UInt8) (w : World) (hv : Sl w w.heap.size v (bvals l)) (hl : l.length ≤ 140737488355328) : Calls Tryz.prog 49 #[v] w fun e w' => e = .returned (.int .u32 (crcSum l)) ∧ w = w' := by
  have HM := hid (more_any 0 v l w hv hl)
  clear hv
  go_enter Tryz.func49, Tryz.ntmps49
  go_wp2_with fail
  refine HM.out.mono ?_
  rintro e w1 ⟨rfl, rfl⟩
  go_wp2
  go_ret
  exact ⟨rfl, rfl⟩
/-- A number of 32 bits as four bytes. -/
def le4 (n : Nat) : List UInt8 := [UInt8.ofNat (n % 256), UInt8.ofNat (n / 256 % 256), UInt8.ofNat (n / 65536 % 256), UInt8.ofNat (n / 16777216 % 256)]
theorem le4_vals (n : Nat) (h : n < 4294967296) : bvals (le4 n) = [.int .u8 ((n : Int) % 256), .int .u8 ((n : Int) / 256 % 256), .int .u8 ((n : Int) / 65536 % 256), .int .u8 ((n : Int) / 16777216 % 256)] := by
  have e : ∀ m, m < 256 → ((UInt8.ofNat m).toNat : Int) = m := fun m hm => by rw [UInt8.toNat_ofNat']; omega
  simp only [bvals, le4, List.map_cons, List.map_nil]
  rw [e _ (by omega), e _ (by omega), e _ (by omega), e _ (by omega)]
  rfl
set_option maxRecDepth 100000 in
theorem bytes_any (n : Nat) (hn : n < 4294967296) (w : World) : Calls Tryz.prog 48 #[.int .u32 n] w (Put8 (le4 n) w) := by
  have hv := le4_vals n hn
  have HV := hid hv
  clear hv
  go_enter Tryz.func48, Tryz.ntmps48
  go_wp2
  go_ret
  refine ⟨_, rfl, ⟨by rw [HV.out]; rfl, .inr ⟨w.heap.size, 4, _, rfl, Nat.le_refl _, heap_alloc_new w _, by simp [le4], by simp [maxLen], rfl, ?_⟩⟩, bl1 _ _⟩
  rw [HV.out]
  simp [le4]
  omega
end Go.Proofs.YtkgifbnkkmeoiaaGreatDoor
/- Slices of ints that read as lists (seats without cells). -/
namespace Go.Proofs.YtkgifbnkkmeoiaaGreatDoor
open Go.ChangeShapes Go.WideShapes Go.ChangeAt Go.RowKit
set_option linter.unusedVariables false

theorem Sl.formI {w : World} {B : Nat} {v : Value} {l : List Int} (h : Sl w B v (ivals l)) : ∃ A c, v = .slice A l.length c ∧ l.length ≤ c ∧ c ≤ maxLen := by
  obtain ⟨A, c, rfl, h1, h2, -⟩ := h
  rw [ivals_len] at h1 ⊢
  exact ⟨A, c, rfl, h1, h2⟩
theorem Sl.of_int {w : World} {B : Nat} {A : Option Addr} {l : List Int} {k : Nat} (h : 0 < (ivals l).length → ∃ b off, A = some ⟨b, off, none⟩ ∧ b < B ∧ ∀ j u, (ivals l)[j]? = some u → w.cell? ⟨b, off + j, none⟩ = some u) (hk : k < l.length) :
    ∃ b off, A = some ⟨b, off, none⟩ ∧ b < B ∧ w.cell? ⟨b, off + k, none⟩ = some (.int .i64 (l.getD k 0)) := by
  obtain ⟨b, off, e, hb, hc⟩ := h (by rw [ivals_len]; omega)
  exact ⟨b, off, e, hb, hc k _ (by simp [ivals, List.getElem?_eq_getElem hk])⟩
theorem Sl.int {w : World} {B n c : Nat} {A : Option Addr} {l : List Int} {k : Nat} (h : Sl w B (.slice A n c) (ivals l)) (hk : k < l.length) :
    ∃ b off, A = some ⟨b, off, none⟩ ∧ b < B ∧ w.cell? ⟨b, off + k, none⟩ = some (.int .i64 (l.getD k 0)) := by
  obtain ⟨A', c', e, h1, h2, h3⟩ := h
  injection e with e1 _ _
  subst e1
  exact Sl.of_int h3 hk
theorem take_succ_getD (l : List Int) (k : Nat) (hk : k < l.length) : l.take (k + 1) = l.take k ++ [l.getD k 0] := by
  rw [List.take_succ_eq_append_getElem hk, List.getD_eq_getElem?_getD, List.getElem?_eq_getElem hk]; rfl
theorem getD_ne {l r : List Int} {k : Nat} (h : l.getD k 0 ≠ r.getD k 0) : l ≠ r := fun e => h (by rw [e])
def EqRel (l r : List Int) (w : World) (i : Value) (wr : World) : Prop := ∃ k : Nat, k ≤ l.length ∧ i = .int .i64 k ∧ l.take k = r.take k ∧ Qu w wr
end Go.Proofs.YtkgifbnkkmeoiaaGreatDoor
