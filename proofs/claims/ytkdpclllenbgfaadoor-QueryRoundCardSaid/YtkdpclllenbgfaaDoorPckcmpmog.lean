/- 4 texts of this claim, in build order. -/
import Derived.Test.YtkdpclllenbgfaaDoorPkgejacko
import Derived.Test.YtkdpclllenbgfaaDoorPgeebagdj
import Derived.Test.YtkdpclllenbgfaaDoorCards
import Derived.Test.YtkdpclllenbgfaaDoorTie
import Derived.Deep.DeepHandedRow
import Derived.Lib.LaidTab
import Derived.Shelf.Vars
/- A row's element at a place; all of a row. -/
namespace Go.Proofs.YtkdpclllenbgfaaDoor
open Go.ChangeShapes Go.WideShapes Go.ChangeAt Go.RowKit
set_option linter.unusedVariables false

theorem paths_at {w : World} {B : Nat} {A : Option Addr} {n c : Nat} {l : List (List ByteArray)} (h : rdSlice 1 rdStrs w B [.slice A n c] l) {k : Nat} (hk : k < l.length) :
    ∃ b off AM cM, A = some ⟨b, off, none⟩ ∧ b < B ∧ w.cell? ⟨b, off + k, none⟩ = some (.slice AM l[k].length cM) ∧ rdStrs w B [.slice AM l[k].length cM] l[k] := by
  obtain ⟨b, off, rfl, hb, es, hel, hcell, h3⟩ := h.at_ hk
  obtain ⟨AM, cM, rfl, -, -⟩ := h3.open_
  have := hcell 0 _ rfl
  rw [Nat.mul_one, Nat.add_zero] at this
  exact ⟨b, off, AM, cM, rfl, hb, this, h3⟩
theorem all_no {α : Type} {p : α → Bool} {l : List α} {k : Nat} (h : k < l.length) (hn : p l[k] = false) : l.all p = false := List.all_eq_false.2 ⟨_, List.getElem_mem h, by rw [hn]; simp⟩
theorem all_yes {α : Type} {p : α → Bool} {l : List α} (h : ∀ j (h : j < l.length), p l[j] = true) : l.all p = true := List.all_eq_true.2 (fun x hx => by
  obtain ⟨j, hj, rfl⟩ := List.mem_iff_getElem.1 hx
  exact h j hj)
theorem all_more {α : Type} {p : α → Bool} {l : List α} {k : Nat} (hall : ∀ j (h : j < l.length), j < k → p l[j] = true) (hk : k < l.length) (h : p l[k] = true) : ∀ j (h : j < l.length), j < k + 1 → p l[j] = true := fun j hj hjk => by
  by_cases e : j = k
  · subst e; exact h
  · exact hall j hj (by omega)
theorem strs_len {w : World} {B : Nat} {v : Value} {p : List ByteArray} (h : rdStrs w B [v] p) : p.length ≤ 9223372036854775807 := by
  obtain ⟨A, c, -, h1, h2⟩ := h.open_
  omega
theorem cut_ways {α : Type} {k m : Nat} {R : Rd α} {w : World} {B : Nat} {A : Option Addr} {c : Nat} {l : List α} (h : rdSlice k R w B [.slice A l.length c] l) :
    ∃ n : Nat, n = (l.take m).length ∧ rdSlice k R w B [.slice A n c] (l.take m) ∧ (((m : Int) < (l.length : Int) ∧ m ≤ l.length ∧ n = m) ∨ (¬ (m : Int) < (l.length : Int) ∧ n = l.length)) := by
  by_cases hm : m < l.length
  · exact ⟨m, by rw [List.length_take]; omega, h.head_ (by omega), .inl ⟨by omega, by omega, rfl⟩⟩
  · exact ⟨l.length, by rw [List.length_take]; omega, by rw [List.take_of_length_le (by omega)]; exact h, .inr ⟨by omega, rfl⟩⟩
theorem dim_at {w : World} {B : Nat} {A : Option Addr} {n c : Nat} {l : List DimX} (h : rdSlice 2 rdDim w B [.slice A n c] l) {k : Nat} (hk : k < l.length) :
    ∃ b off AL cL, A = some ⟨b, off, none⟩ ∧ b < B ∧ w.cell? ⟨b, off + k * 2, none⟩ = some (.string l[k].1) ∧ w.cell? ⟨b, off + k * 2 + 1, none⟩ = some (.slice AL l[k].2.length cL) ∧ rdStrs w B [.slice AL l[k].2.length cL] l[k].2 ∧ l[k].1.size ≤ maxLen := by
  obtain ⟨b, off, rfl, hb, es, hel, hcell, hl1, ⟨ex, hsz⟩, hlv⟩ := h.at_ hk
  obtain ⟨AL, cL, eL, -, -⟩ := hlv.open_
  obtain rfl : es = [.string l[k].1, .slice AL l[k].2.length cL] := by
    rw [← List.take_append_drop 1 es, ex, eL]; rfl
  exact ⟨b, off, AL, cL, rfl, hb, hcell 0 _ rfl, hcell 1 _ rfl, hlv, hsz⟩
theorem rows_at {w : World} {B : Nat} {A : Option Addr} {n c : Nat} {l : List (List Int)} (h : rdSlice 1 rdInts w B [.slice A n c] l) {k : Nat} (hk : k < l.length) :
    ∃ b off AM cM, A = some ⟨b, off, none⟩ ∧ b < B ∧ w.cell? ⟨b, off + k, none⟩ = some (.slice AM l[k].length cM) ∧ rdInts w B [.slice AM l[k].length cM] l[k] := by
  obtain ⟨b, off, rfl, hb, es, hel, hcell, h3⟩ := h.at_ hk
  obtain ⟨AM, cM, rfl, -, -⟩ := h3.open_
  have := hcell 0 _ rfl
  rw [Nat.mul_one, Nat.add_zero] at this
  exact ⟨b, off, AM, cM, rfl, hb, this, h3⟩
end Go.Proofs.YtkdpclllenbgfaaDoor
/- Arguments opened: lists of texts. -/
namespace Go.Proofs.YtkdpclllenbgfaaDoor
open Go.ChangeShapes Go.WideShapes Go.ChangeAt Go.RowKit Go.Deep
set_option linter.unusedVariables false
set_option linter.unusedSimpArgs false

theorem opens_strsQ : Opens Tryd.prog 41 1 rdStrs := opens_slice (e := 9) good_str Tryd.underlying41 (opens_str Tryd.underlying9 (by kernel_rfl)) (by kernel_rfl) (by omega)
end Go.Proofs.YtkdpclllenbgfaaDoor
/- What the laws of a door seat share: a world in which the library's tables lie as its text lays them; the library's variable holds a number. -/
namespace Go.Proofs.YtkdpclllenbgfaaDoor
open Go.ChangeShapes Go.WideShapes Go.ChangeAt Go.RowKit
set_option linter.unusedVariables false

def bytesV (l : List Nat) : Array Value := (l.map (fun n : Nat => Value.int .u8 n)).toArray
def layCells (cs : Array Value) : Obj → Obj
  | .cells _ t frozen => .cells cs t frozen
  | o => o
noncomputable def laidWorld (os : Os) : World :=
  { World.holding Tryd.prog os ⟨#[], #[], []⟩ with heap := ((World.holding Tryd.prog os ⟨#[], #[], []⟩).heap.modify 1 (layCells (bytesV Go.Pinned.utf8FirstZ))).modify 2 (layCells (bytesV [128, 191, 160, 191, 128, 159, 144, 191, 128, 143, 0, 0, 0, 0, 0, 0, 0, 0, 0, 0, 0, 0, 0, 0, 0, 0, 0, 0, 0, 0, 0, 0])) }
theorem maxL_of {w : World} (h : w.ShapedOpen Tryd.prog) : MaxL w :=
  cell_of_shapedOpen_int (zero := #[.int .i64 0]) (t := 3) h (of_decide_eq_true (by kernel_rfl)) (by kernel_rfl) rfl (by kernel_rfl) (by kernel_rfl) Tryd.underlying3
end Go.Proofs.YtkdpclllenbgfaaDoor
/- Plain facts on numbers as bytes, seven bits a byte. -/
namespace Go.Proofs.YtkdpclllenbgfaaDoor

/-- The number u of a number. -/
def numU (n : Int) : Nat := if n < 0 then (-2 * n - 1).toNat else (2 * n).toNat
/-- u in groups of seven bits, the lowest first; every byte but the last one bears 128. -/
def putF : Nat → Nat → List UInt8
  | 0, u => [UInt8.ofNat u]
  | f + 1, u => if u < 128 then [UInt8.ofNat u] else UInt8.ofNat (u % 128 + 128) :: putF f (u / 128)
def putInt (n : Int) : List UInt8 := putF 9 (numU n)

theorem numU_lt (n : Int) (h1 : -9223372036854775808 ≤ n) (h2 : n ≤ 9223372036854775807) : numU n < 18446744073709551616 := by
  unfold numU; split <;> omega
theorem putF_pos (f u : Nat) : 0 < (putF f u).length := by
  cases f <;> simp [putF]
  split <;> simp
theorem putF_le (f u : Nat) : (putF f u).length ≤ f + 1 := by
  induction f generalizing u with
  | zero => simp [putF]
  | succ f ih =>
    simp only [putF]
    split
    · simp
    · simp only [List.length_cons]; have := ih (u / 128); omega
theorem putInt_le (n : Int) : (putInt n).length ≤ 10 := putF_le 9 _
theorem putInt_pos (n : Int) : 0 < (putInt n).length := putF_pos 9 _

/-- The number of a u. -/
def numOf (u : Nat) : Int := if u % 2 = 1 then -((u / 2 : Nat) : Int) - 1 else ((u / 2 : Nat) : Int)
/-- What is got of bytes of which i are past, and were u. -/
def getF : List UInt8 → Nat → Nat → Int × Int × Int
  | [], _, _ => (0, 0, 3)
  | c :: l, i, u =>
    if i = 9 ∧ 1 < c.toNat then (0, 0, 2)
    else if 128 ≤ c.toNat then getF l (i + 1) (u + c.toNat % 128 * 2 ^ (7 * i))
    else if c.toNat = 0 ∧ 0 < i then (0, 0, 2)
    else (numOf (u + c.toNat * 2 ^ (7 * i)), (i : Int) + 1, 0)
def getInt (l : List UInt8) : Int × Int × Int := getF l 0 0
end Go.Proofs.YtkdpclllenbgfaaDoor
