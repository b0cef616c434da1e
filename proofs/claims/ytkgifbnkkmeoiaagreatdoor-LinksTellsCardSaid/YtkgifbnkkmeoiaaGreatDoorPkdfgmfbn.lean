/- 4 texts of this claim, in build order. -/
import Derived.Test.YtkgifbnkkmeoiaaGreatDoorPbkbinjci
import Derived.Test.YtkgifbnkkmeoiaaGreatDoorPajbicmld
import Derived.Test.YtkgifbnkkmeoiaaGreatDoorPmfcnoomp
/- Layer 22, plain: messages, their bytes, which may be sent. -/
namespace Go.Proofs.YtkgifbnkkmeoiaaGreatDoor
open Go.ChangeShapes Go.WideShapes Go.ChangeAt Go.RowKit
set_option linter.unusedVariables false
set_option linter.unusedSimpArgs false

structure MsgX where
  kind : Int
  src : Int
  dst : Int
  term : Int
  index : Int
  logTerm : Int
  commit : Int
  round : Int
  reject : Bool
  off : Int
  total : Int
  ents : List EntX
  data : List UInt8
def MsgIn (m : MsgX) : Prop := InI64 m.kind ∧ InI64 m.src ∧ InI64 m.dst ∧ InI64 m.term ∧ InI64 m.index ∧ InI64 m.logTerm ∧ InI64 m.commit ∧ InI64 m.round ∧ InI64 m.off ∧ InI64 m.total
/-- A message's cells. -/
def msgCs (m : MsgX) (E D : Value) : List Value := [.int .i64 m.kind, .int .i64 m.src, .int .i64 m.dst, .int .i64 m.term, .int .i64 m.index, .int .i64 m.logTerm, .int .i64 m.commit, .int .i64 m.round, .bool m.reject, .int .i64 m.off, .int .i64 m.total, E, D]
def rdMsg : Rd MsgX := fun w B cs m => ∃ A1 c1 A2 c2, cs = msgCs m (.slice A1 m.ents.length c1) (.slice A2 m.data.length c2) ∧ rdSlice 6 rdEnt w B [.slice A1 m.ents.length c1] m.ents ∧ Sl w B (.slice A2 m.data.length c2) (bvals m.data) ∧ MsgIn m
theorem Opens.map {P : Program} {t : TypeId} {k : Nat} {α β : Type} {R : Rd α} {S : Rd β} (h : Opens P t k R) (f : ∀ w B cs x, R w B cs x → ∃ y, S w B cs y) : Opens P t k S :=
  ⟨h.1, fun H enc W fuel cs x hx => by
    obtain ⟨d, hd⟩ := h.2 H enc W fuel cs x hx
    exact f _ _ _ _ hd⟩
theorem bytes_sl {w : World} {B : Nat} {v : Value} {l : List UInt8} (h : rdSlice 1 rdByte w B [v] l) : Sl w B v (bvals l) :=
  h.sl (fun (c : UInt8) => Value.int .u8 (c.toNat : Int)) (fun es x hx => hx)
theorem opens_msg : Opens Tryz.prog 25 13 rdMsg := by
  refine Opens.map (R := rdPair 1 rdInt (rdPair 1 rdInt (rdPair 1 rdInt (rdPair 1 rdInt (rdPair 1 rdInt (rdPair 1 rdInt (rdPair 1 rdInt (rdPair 1 rdInt (rdPair 1 rdBool (rdPair 1 rdInt (rdPair 1 rdInt (rdPair 1 (rdSlice 6 rdEnt) (rdSlice 1 rdByte))))))))))))) ?_ ?_
  · refine opens_struct (k := 13) Tryz.underlying25 (by kernel_rfl) ?_
    have oi := opens_int (P := Tryz.prog) Tryz.underlying3 (by kernel_rfl)
    have ob := opens_bool (P := Tryz.prog) Tryz.underlying4 (by kernel_rfl)
    have oy : Opens Tryz.prog 23 1 (rdSlice 1 rdByte) := opens_slice (e := 5) good_byte Tryz.underlying23 (opens_byte Tryz.underlying5 (by kernel_rfl)) (by kernel_rfl) (by omega)
    exact opensF_cons (k2 := 12) (by rfl) oi (opensF_cons (k2 := 11) (by rfl) oi (opensF_cons (k2 := 10) (by rfl) oi (opensF_cons (k2 := 9) (by rfl) oi (opensF_cons (k2 := 8) (by rfl) oi (opensF_cons (k2 := 7) (by rfl) oi (opensF_cons (k2 := 6) (by rfl) oi (opensF_cons (k2 := 5) (by rfl) oi
      (opensF_cons (k2 := 4) (by rfl) ob (opensF_cons (k2 := 3) (by rfl) oi (opensF_cons (k2 := 2) (by rfl) oi (opensF_cons (k2 := 1) (by rfl) opens_ents (opensF_one (by rfl) oy))))))))))))
  · rintro w B cs ⟨a1, a2, a3, a4, a5, a6, a7, a8, a9, a10, a11, a12, a13⟩ ⟨-, ⟨h1, i1⟩, -, ⟨h2, i2⟩, -, ⟨h3, i3⟩, -, ⟨h4, i4⟩, -, ⟨h5, i5⟩, -, ⟨h6, i6⟩, -, ⟨h7, i7⟩, -, ⟨h8, i8⟩, -, h9, -, ⟨h10, i10⟩, -, ⟨h11, i11⟩, -, h12, h13⟩
    simp only at h1 h2 h3 h4 h5 h6 h7 h8 h9 h10 h11 h12 h13 i1 i2 i3 i4 i5 i6 i7 i8 i10 i11
    obtain ⟨A1, c1, e12, -, -⟩ := h12.open_
    obtain ⟨A2, c2, e13, -, -⟩ := h13.open_
    rw [e12] at h12
    rw [e13] at h13
    refine ⟨⟨a1, a2, a3, a4, a5, a6, a7, a8, a9, a10, a11, a12, a13⟩, A1, c1, A2, c2, ?_, h12, bytes_sl h13, i1, i2, i3, i4, i5, i6, i7, i8, i10, i11⟩
    have tk : ∀ (l : List Value) (v : Value) (r : List Value), l.take 1 = [v] → l.drop 1 = r → l = v :: r := fun l v r h k => by rw [← List.take_append_drop 1 l, h, k]; rfl
    exact tk _ _ _ h1 (tk _ _ _ h2 (tk _ _ _ h3 (tk _ _ _ h4 (tk _ _ _ h5 (tk _ _ _ h6 (tk _ _ _ h7 (tk _ _ _ h8 (tk _ _ _ h9 (tk _ _ _ h10 (tk _ _ _ h11 (tk _ _ _ e12 e13)))))))))))
/-- A message as a value. -/
def MsgV (w : World) (B : Nat) (v : Value) (m : MsgX) : Prop :=
  ∃ A1 c1 A2 c2, v = .agg (msgCs m (.slice A1 m.ents.length c1) (.slice A2 m.data.length c2)).toArray ∧ rdSlice 6 rdEnt w B [.slice A1 m.ents.length c1] m.ents ∧ Sl w B (.slice A2 m.data.length c2) (bvals m.data) ∧ MsgIn m
theorem MsgV.of_rd {w : World} {B : Nat} {cs : Array Value} {m : MsgX} (h : rdMsg w B cs.toList m) : MsgV w B (.agg cs) m := by
  obtain ⟨A1, c1, A2, c2, h1, h2⟩ := h
  exact ⟨A1, c1, A2, c2, by rw [← h1], h2⟩
theorem MsgV.below {w w' : World} {B : Nat} {v : Value} {m : MsgX} (h : MsgV w B v m) (hb : Below B w w') : MsgV w' B v m := by
  obtain ⟨A1, c1, A2, c2, h1, h2, h3, h4⟩ := h
  exact ⟨A1, c1, A2, c2, h1, good_ents.stays h2 hb, h3.below hb, h4⟩
theorem MsgV.more {w : World} {B B' : Nat} {v : Value} {m : MsgX} (h : MsgV w B v m) (hb : B ≤ B') : MsgV w B' v m := by
  obtain ⟨A1, c1, A2, c2, h1, h2, h3, h4⟩ := h
  exact ⟨A1, c1, A2, c2, h1, good_ents.more h2 hb, h3.more hb, h4⟩
theorem MsgV.on {w w' : World} {v : Value} {m : MsgX} (h : MsgV w w.heap.size v m) (hb : Below w.heap.size w w') : MsgV w' w'.heap.size v m := (h.below hb).more hb.size
/-- The numbers that are put ahead of the entries. -/
def numsM (m : MsgX) : List Int := [m.src, m.dst, m.term, m.index, m.logTerm, m.commit, m.round, if m.reject = true then 1 else 0, m.off, m.total, (m.ents.length : Int)]
def headM (m : MsgX) : Prop := (1 ≤ m.kind ∧ m.kind ≤ 8) ∧ (1 ≤ m.src ∧ m.src ≤ 7) ∧ (1 ≤ m.dst ∧ m.dst ≤ 7) ∧ m.src ≠ m.dst ∧ m.ents.length ≤ 6 ∧ m.data.length ≤ 160
def MayM (m : MsgX) : Prop := headM m ∧ (∀ j, j < 11 → numB ((numsM m).getD j 0) 0 = true) ∧ ∀ j (h : j < m.ents.length), errN m.ents[j] = 0
def bodyM (m : MsgX) : List UInt8 := (numsM m).flatMap putInt ++ m.ents.flatMap putN ++ putInt (m.data.length : Nat) ++ m.data
def msgB (m : MsgX) : List UInt8 := frameB m.kind.toNat (bodyM m)
open Classical in
noncomputable def putMsg (m : MsgX) : List UInt8 × Int := if MayM m then (msgB m, 0) else ([], 1)
theorem putMsg_yes {m : MsgX} (h : MayM m) : putMsg m = (msgB m, 0) := if_pos h
theorem putMsg_no {m : MsgX} (h : ¬ MayM m) : putMsg m = ([], 1) := if_neg h
theorem numsM_len (m : MsgX) : (numsM m).length = 11 := rfl
theorem nums_le (m : MsgX) (k : Nat) (hk : k ≤ 11) : (((numsM m).take k).flatMap putInt).length ≤ 110 := by
  have := flat_len ((numsM m).take k) putInt 10 (fun n _ => putInt_le n)
  rw [List.length_take, numsM_len] at this
  omega
theorem ents_le {l : List EntX} {k : Nat} (hl : l.length ≤ 6) (h : ∀ j (h : j < l.length), j < k → errN l[j] = 0) : ((l.take k).flatMap putN).length ≤ 11400 := by
  have := flat_len (l.take k) putN 1900 (fun e he => by
    obtain ⟨j, hj, rfl⟩ := List.mem_iff_getElem.1 he
    rw [List.length_take] at hj
    rw [List.getElem_take]
    exact putN_le (h j (by omega) (by omega)))
  rw [List.length_take] at this
  have : 1900 * min k l.length ≤ 1900 * 6 := Nat.mul_le_mul_left _ (by omega)
  omega
theorem bodyM_le {m : MsgX} (h : MayM m) : (bodyM m).length ≤ 12000 := by
  obtain ⟨⟨-, -, -, -, h5, h6⟩, -, h8⟩ := h
  have a1 := nums_le m 11 (by omega)
  have a2 := ents_le (k := m.ents.length) h5 (fun j hj _ => h8 j hj)
  rw [List.take_length] at a2
  rw [show (numsM m).take 11 = numsM m from rfl] at a1
  have a3 := putInt_le ((m.data.length : Nat) : Int)
  unfold bodyM
  simp only [List.length_append]
  omega
/-- The ways in which a message's head may be refused. -/
theorem head_ways (m : MsgX) : (decide (1 ≤ m.kind ∧ m.kind ≤ 8) = false ∧ ¬ headM m) ∨ (decide (1 ≤ m.kind ∧ m.kind ≤ 8) = true ∧ decide (1 ≤ m.src ∧ m.src ≤ 7) = false ∧ ¬ headM m) ∨
    (decide (1 ≤ m.kind ∧ m.kind ≤ 8) = true ∧ decide (1 ≤ m.src ∧ m.src ≤ 7) = true ∧ decide (1 ≤ m.dst ∧ m.dst ≤ 7) = false ∧ ¬ headM m) ∨
    (decide (1 ≤ m.kind ∧ m.kind ≤ 8) = true ∧ decide (1 ≤ m.src ∧ m.src ≤ 7) = true ∧ decide (1 ≤ m.dst ∧ m.dst ≤ 7) = true ∧ (m.src == m.dst) = true ∧ ¬ headM m) ∨
    (decide (1 ≤ m.kind ∧ m.kind ≤ 8) = true ∧ decide (1 ≤ m.src ∧ m.src ≤ 7) = true ∧ decide (1 ≤ m.dst ∧ m.dst ≤ 7) = true ∧ (m.src == m.dst) = false ∧ 6 < m.ents.length ∧ ¬ headM m) ∨
    (decide (1 ≤ m.kind ∧ m.kind ≤ 8) = true ∧ decide (1 ≤ m.src ∧ m.src ≤ 7) = true ∧ decide (1 ≤ m.dst ∧ m.dst ≤ 7) = true ∧ (m.src == m.dst) = false ∧ ¬ 6 < m.ents.length ∧ 160 < m.data.length ∧ ¬ headM m) ∨
    (decide (1 ≤ m.kind ∧ m.kind ≤ 8) = true ∧ decide (1 ≤ m.src ∧ m.src ≤ 7) = true ∧ decide (1 ≤ m.dst ∧ m.dst ≤ 7) = true ∧ (m.src == m.dst) = false ∧ ¬ 6 < m.ents.length ∧ ¬ 160 < m.data.length ∧ headM m) := by
  unfold headM
  by_cases h1 : 1 ≤ m.kind ∧ m.kind ≤ 8
  · rw [decide_eq_true h1]
    by_cases h2 : 1 ≤ m.src ∧ m.src ≤ 7
    · rw [decide_eq_true h2]
      by_cases h3 : 1 ≤ m.dst ∧ m.dst ≤ 7
      · rw [decide_eq_true h3]
        by_cases h4 : m.src = m.dst
        · exact .inr (.inr (.inr (.inl ⟨rfl, rfl, rfl, by simp [h4], fun h => h.2.2.2.1 h4⟩)))
        · have h4' : (m.src == m.dst) = false := by simpa using h4
          by_cases h5 : 6 < m.ents.length
          · exact .inr (.inr (.inr (.inr (.inl ⟨rfl, rfl, rfl, h4', h5, fun h => by omega⟩))))
          · by_cases h6 : 160 < m.data.length
            · exact .inr (.inr (.inr (.inr (.inr (.inl ⟨rfl, rfl, rfl, h4', h5, h6, fun h => by omega⟩)))))
            · exact .inr (.inr (.inr (.inr (.inr (.inr ⟨rfl, rfl, rfl, h4', h5, h6, h1, h2, h3, h4, by omega, by omega⟩)))))
      · exact .inr (.inr (.inl ⟨rfl, rfl, decide_eq_false h3, fun h => h3 h.2.2.1⟩))
    · exact .inr (.inl ⟨rfl, decide_eq_false h2, fun h => h2 h.2.1⟩)
  · exact .inl ⟨decide_eq_false h1, fun h => h1 h.1⟩
end Go.Proofs.YtkgifbnkkmeoiaaGreatDoor
/- Laws behind wire's get and the reference's put. -/
namespace Go.Proofs.YtkgifbnkkmeoiaaGreatDoor
open Go.ChangeShapes Go.WideShapes Go.ChangeAt Go.RowKit
set_option linter.unusedVariables false

theorem and127 : ∀ x : Fin 256, (x.val &&& 127) = x.val % 128 := by decide +kernel
theorem u8_and127 (c : Nat) (h : c < 256) : Go.bits .and .u8 (c : Int) 127 = ((c % 128 : Nat) : Int) := by
  show IntKind.u8.wrap ((BitVec.ofInt 8 (c : Int) &&& BitVec.ofInt 8 127).toNat : Int) = _
  have e1 : (BitVec.ofInt 8 (c : Int)).toNat = c := by rw [BitVec.ofInt_natCast, BitVec.toNat_ofNat]; omega
  have e2 : (BitVec.ofInt 8 127).toNat = 127 := rfl
  rw [BitVec.toNat_and, e1, e2, IntKind.wrap_u8]
  have := and127 ⟨c, h⟩
  simp only at this
  rw [this]
  omega
theorem u64_or_shift (x a i : Nat) (hx : x < 2 ^ i) (hs : x + a * 2 ^ i < 18446744073709551616) : Go.bits .or .u64 (x : Int) (IntKind.u64.wrap (IntKind.u64.wrap (a : Int) * 2 ^ i)) = ((x + a * 2 ^ i : Nat) : Int) := by
  have hpos : 0 < 2 ^ i := Nat.pow_pos (by omega)
  have h1 : a ≤ a * 2 ^ i := Nat.le_mul_of_pos_right _ hpos
  have w1 : IntKind.u64.wrap (a : Int) = a := by rw [IntKind.wrap_u64]; omega
  have e0 : ((a * 2 ^ i : Nat) : Int) = (a : Int) * 2 ^ i := by simp
  have w2 : IntKind.u64.wrap ((a : Int) * 2 ^ i) = ((a * 2 ^ i : Nat) : Int) := by rw [← e0, IntKind.wrap_u64]; omega
  rw [w1, w2]
  show IntKind.u64.wrap ((BitVec.ofInt 64 (x : Int) ||| BitVec.ofInt 64 ((a * 2 ^ i : Nat) : Int)).toNat : Int) = _
  have e1 : (BitVec.ofInt 64 (x : Int)).toNat = x := by rw [BitVec.ofInt_natCast, BitVec.toNat_ofNat]; omega
  have e2 : (BitVec.ofInt 64 ((a * 2 ^ i : Nat) : Int)).toNat = a * 2 ^ i := by rw [BitVec.ofInt_natCast, BitVec.toNat_ofNat]; omega
  rw [BitVec.toNat_or, e1, e2, Nat.or_comm, Nat.mul_comm a, ← Nat.two_pow_add_eq_or_of_lt hx, IntKind.wrap_u64]
  rw [Nat.mul_comm a] at hs
  omega
theorem i64_not (h : Int) (h1 : -9223372036854775808 ≤ h) (h2 : h ≤ 9223372036854775807) : Go.bits .xor .i64 (-1) h = -h - 1 := by
  show IntKind.i64.wrap ((BitVec.ofInt 64 (-1) ^^^ BitVec.ofInt 64 h).toNat : Int) = _
  have e1 : BitVec.ofInt 64 (-1) = BitVec.allOnes 64 := by decide
  rw [e1, BitVec.allOnes_xor, BitVec.toNat_not, BitVec.toNat_ofInt, IntKind.wrap_i64]
  omega
/-- What the code reckons of a u. -/
theorem u_parts (y : Nat) (hy : y < 18446744073709551616) : Go.bits .and .u64 (y : Int) 1 = ((y % 2 : Nat) : Int) ∧ wrap64 ((y : Int) / 2) = ((y / 2 : Nat) : Int) ∧ Go.bits .xor .i64 (-1) ((y / 2 : Nat) : Int) = -((y / 2 : Nat) : Int) - 1 := by
  refine ⟨?_, ?_, i64_not _ (by omega) (by omega)⟩
  · rw [and_one_u64 _ (by omega) (by omega)]; omega
  · rw [wrap64_eq, IntKind.wrap_i64]; omega
def Got (r : Int × Int × Int) (w : World) (e : Ending) (w' : World) : Prop := e = .returned (.tuple #[.int .i64 r.1, .int .i64 r.2.1, .int .i64 r.2.2]) ∧ w = w'
def GetRelI (l : List UInt8) (u i : Value) : Prop := ∃ k x : Nat, k ≤ l.length ∧ k ≤ 9 ∧ i = .int .i64 k ∧ u = .int .u64 x ∧ x < 2 ^ (7 * k) ∧ getInt l = getF (l.drop k) k x
theorem Sl.byte {w : World} {B : Nat} {A : Option Addr} {l : List UInt8} {k : Nat} (h : 0 < (bvals l).length → ∃ b off, A = some ⟨b, off, none⟩ ∧ b < B ∧ ∀ j u, (bvals l)[j]? = some u → w.cell? ⟨b, off + j, none⟩ = some u) (hk : k < l.length) :
    ∃ b off, A = some ⟨b, off, none⟩ ∧ b < B ∧ w.cell? ⟨b, off + k, none⟩ = some (.int .u8 (l[k].toNat : Int)) := by
  obtain ⟨b, off, e, hb, hc⟩ := h (by rw [bvals_len]; omega)
  exact ⟨b, off, e, hb, hc k _ (by simp [bvals, List.getElem?_eq_getElem hk])⟩
theorem bvals_take (l : List UInt8) (m : Nat) : bvals (l.take m) = (bvals l).take m := by simp [bvals, List.map_take]
end Go.Proofs.YtkgifbnkkmeoiaaGreatDoor
/- Laws behind wire's get and the reference's put. -/
namespace Go.Proofs.YtkgifbnkkmeoiaaGreatDoor
open Go.ChangeShapes Go.WideShapes Go.ChangeAt Go.RowKit
set_option linter.unusedVariables false

def GetRel (l : List UInt8) (u i : Value) : Prop := ∃ k x : Nat, k ≤ l.length ∧ k ≤ 9 ∧ i = .int .i64 k ∧ u = .int .u64 x ∧ x < 2 ^ (7 * k) ∧ getInt l = getF (l.drop k) k x
end Go.Proofs.YtkgifbnkkmeoiaaGreatDoor
/- Contract of wire.GetInt. -/
namespace Go.Proofs.YtkgifbnkkmeoiaaGreatDoor
open Go.ChangeShapes Go.WideShapes Go.ChangeAt Go.RowKit
set_option linter.unusedVariables false

set_option maxRecDepth 100000 in
set_option maxHeartbeats 400000 in
theorem getInt_any (v : Value) (l : List UInt8) (w : World) (hv : Sl w w.heap.size v (bvals l)) (hl : l.length ≤ 140737488355328) :
    Calls Tryz.prog 56 #[v] w (Got (getInt l) w) := by
  obtain ⟨A, c, rfl, hc1, hc2, hA⟩ := hv
  simp only [bvals_len] at hc1 ⊢
  have HA := hid hA
  clear hA
  go_enter Tryz.func56, Tryz.ntmps56
  go_wp2
  go_loop [5, 11] (fun u i => GetRel l u i) (fun _ i => l.length - (intOf i).toNat)
  case atStart => exact ⟨0, 0, by omega, by omega, rfl, rfl, by omega, rfl⟩
  case round =>
    obtain ⟨k, x, hk, hk9, rfl, rfl, hx, hg⟩ := hrel
    have HX := hid hx; have HG := hid hg
    clear hx hg
    by_cases hlt : k < l.length
    · obtain ⟨b, off, rfl, hbl, hcell⟩ := Sl.byte HA.out hlt
      have hcu : l[k].toNat < 256 := UInt8.toNat_lt _
      have hd : l.drop k = l[k] :: l.drop (k + 1) := List.drop_eq_getElem_cons hlt
      generalize l[k] = ch at *
      generalize hcn : ch.toNat = cn at *
      have hfit : (k < 9 ∨ cn ≤ 1) → x + cn % 128 * 2 ^ (7 * k) < 18446744073709551616 ∧ (k < 9 → x + cn % 128 * 2 ^ (7 * k) < 2 ^ (7 * (k + 1))) := by
        intro hor
        have hx := HX.out
        have hm : cn % 128 < 128 := Nat.mod_lt _ (by omega)
        have hp : 2 ^ (7 * (k + 1)) = 2 ^ (7 * k) * 128 := by rw [Nat.mul_add, Nat.pow_add]
        have h1 : cn % 128 * 2 ^ (7 * k) ≤ 127 * 2 ^ (7 * k) := Nat.mul_le_mul_right _ (by omega)
        have h2 : x + cn % 128 * 2 ^ (7 * k) < 2 ^ (7 * (k + 1)) := by rw [hp]; omega
        refine ⟨?_, fun _ => h2⟩
        rcases hor with h | h
        · have h3 : 2 ^ (7 * (k + 1)) ≤ 2 ^ 63 := Nat.pow_le_pow_right (by omega) (by omega)
          omega
        · have h4 : 2 ^ (7 * k) ≤ 2 ^ 63 := Nat.pow_le_pow_right (by omega) (by omega)
          have h5 : cn % 128 * 2 ^ (7 * k) ≤ 1 * 2 ^ (7 * k) := Nat.mul_le_mul_right _ (by omega)
          omega
      have hor : (k < 9 ∨ cn ≤ 1) → Go.bits .or .u64 (x : Int) (IntKind.u64.wrap (IntKind.u64.wrap (Go.bits .and .u8 (cn : Int) 127) * 2 ^ (7 * k))) = ((x + cn % 128 * 2 ^ (7 * k) : Nat) : Int) := fun h => by
        rw [u8_and127 cn hcu]
        exact u64_or_shift x (cn % 128) (7 * k) HX.out (hfit h).1
      have hup : (k < 9 ∨ cn ≤ 1) → _ := fun h => u_parts _ (hfit h).1
      generalize hy : x + cn % 128 * 2 ^ (7 * k) = y at *
      have HD := hid hd; have HCN := hid hcn; have HF := hid hfit; have HO := hid hor; have HUP := hid hup; have HY := hid hy
      clear hd hcn hfit hor hup hy
      by_cases hk : k = 9
      · have t9 : ((k : Int) == 9) = true := by rw [beq_iff_eq]; omega
        have HK := hid hk; clear hk
        by_cases h1 : 1 < cn
        · go_wp2
          go_ret3
          exact ⟨by rw [HG.out, HD.out]; simp [getF, HK.out, HCN.out, h1], rfl⟩
        · by_cases h0 : cn = 0
          · have t0 : ((cn : Int) == 0) = true := by rw [beq_iff_eq]; omega
            have hk0 : 0 < k := by have := HK.out; omega
            have H0 := hid h0; clear h0
            go_wp2
            go_ret3
            exact ⟨by rw [HG.out, HD.out]; simp [getF, HK.out, HCN.out, H0.out], rfl⟩
          · have t0 : ((cn : Int) == 0) = false := by rw [beq_eq_false_iff_ne]; omega
            have hres : getInt l = (numOf y, (k : Int) + 1, 0) := by
              rw [HG.out, HD.out]; simp only [getF, HCN.out]
              rw [if_neg (by omega), if_neg (by omega), if_neg (by omega), ← HY.out, Nat.mod_eq_of_lt (by omega)]
            have E1 := HO.out (.inr (by omega))
            obtain ⟨E3, E4, E5⟩ := HUP.out (.inr (by omega))
            have hnum : numOf y = if y % 2 = 1 then -((y / 2 : Nat) : Int) - 1 else ((y / 2 : Nat) : Int) := rfl
            have HR := hid hres; have H0 := hid h0
            clear hres h0
            by_cases hp : y % 2 = 1
            · rw [hp] at E3
              rw [if_pos hp] at hnum
              have HN := hid hnum; clear hp hnum
              generalize y / 2 = z at *
              go_wp2
              go_ret3
              exact ⟨by rw [HR.out, HN.out]; rfl, rfl⟩
            · have hp' : y % 2 = 0 := by omega
              rw [hp'] at E3
              rw [if_neg hp] at hnum
              have HN := hid hnum; clear hp hp' hnum
              generalize y / 2 = z at *
              go_wp2
              go_ret3
              exact ⟨by rw [HR.out, HN.out]; rfl, rfl⟩
      · have t9 : ((k : Int) == 9) = false := by rw [beq_eq_false_iff_ne]; omega
        have hk8 : k < 9 := by omega
        have HK := hid hk; clear hk
        have E1 := HO.out (.inl hk8)
        by_cases h1 : 128 ≤ cn
        · have hs : getF (l.drop k) k x = getF (l.drop (k + 1)) (k + 1) y := by
            rw [HD.out]; simp only [getF, HCN.out]
            rw [if_neg (by omega), if_pos h1, HY.out]
          have hlt2 := (HF.out (.inl hk8)).2 hk8
          have HS := hid hs; have HL2 := hid hlt2
          clear hs hlt2
          go_wp2
          go_round
          case rel => exact ⟨k + 1, y, by omega, by omega, by go_num, rfl, HL2.out, by rw [HG.out, HS.out]⟩
          case measure => simp [intOf]; omega
        · by_cases h0 : cn = 0 ∧ 0 < k
          · obtain ⟨h0, h0'⟩ := h0
            have t0 : ((cn : Int) == 0) = true := by rw [beq_iff_eq]; omega
            have H0 := hid h0; clear h0
            go_wp2
            go_ret3
            exact ⟨by rw [HG.out, HD.out]; simp [getF, HK.out, HCN.out, H0.out, h0'], rfl⟩
          · have hres : getInt l = (numOf y, (k : Int) + 1, 0) := by
              rw [HG.out, HD.out]; simp only [getF, HCN.out]
              rw [if_neg (by omega), if_neg (by omega), if_neg h0, ← HY.out, Nat.mod_eq_of_lt (by omega)]
            obtain ⟨E3, E4, E5⟩ := HUP.out (.inl hk8)
            have hnum : numOf y = if y % 2 = 1 then -((y / 2 : Nat) : Int) - 1 else ((y / 2 : Nat) : Int) := rfl
            have hc : (((cn : Int) == 0) = false) ∨ (((cn : Int) == 0) = true ∧ ¬ (0 < (k : Int))) := by
              by_cases h : cn = 0
              · exact .inr ⟨by rw [beq_iff_eq]; omega, by omega⟩
              · exact .inl (by rw [beq_eq_false_iff_ne]; omega)
            have HR := hid hres; have H0 := hid h0
            clear hres h0
            by_cases hp : y % 2 = 1
            · rw [hp] at E3
              rw [if_pos hp] at hnum
              have HN := hid hnum; clear hp hnum
              generalize y / 2 = z at *
              rcases hc with hc | ⟨hc, hc'⟩
              all_goals
                go_wp2
                go_ret3
                exact ⟨by rw [HR.out, HN.out]; rfl, rfl⟩
            · have hp' : y % 2 = 0 := by omega
              rw [hp'] at E3
              rw [if_neg hp] at hnum
              have HN := hid hnum; clear hp hp' hnum
              generalize y / 2 = z at *
              rcases hc with hc | ⟨hc, hc'⟩
              all_goals
                go_wp2
                go_ret3
                exact ⟨by rw [HR.out, HN.out]; rfl, rfl⟩
    · obtain rfl : k = l.length := by omega
      go_wp2
      go_ret3
      exact ⟨by rw [HG.out, List.drop_length]; rfl, rfl⟩
end Go.Proofs.YtkgifbnkkmeoiaaGreatDoor
