/- 5 texts of this claim, in build order. -/
import Derived.Test.YtkgifbnkkmeoiaaGreatDoorPhoigjkig
import Derived.Test.YtkgifbnkkmeoiaaGreatDoorPjkhkmabk
import Derived.Test.YtkgifbnkkmeoiaaGreatDoorCards
import Derived.Test.YtkgifbnkkmeoiaaGreatDoorTie
import Derived.Deep.DeepHandedRow
import Derived.Lib.LaidTab
import Derived.Shelf.Vars
/- names.Path: a text is read as a path. -/
namespace Go.Proofs.YtkgifbnkkmeoiaaGreatDoor
open Go.ChangeShapes Go.WideShapes Go.ChangeAt Go.RowKit
set_option linter.unusedVariables false
set_option linter.unusedSimpArgs false

/-- The library's variable holds a number. -/
def MaxL (w : World) : Prop := ∃ m : Int, w.cell? ⟨0, 0, none⟩ = some (.int .i64 m)
theorem MaxL.lt {w : World} (h : MaxL w) : 0 < w.heap.size := by
  obtain ⟨m, hm⟩ := h
  exact World.block_lt_of_cell? w ⟨_, 0, none⟩ hm
theorem MaxL.below {w w' : World} {B : Nat} (h : MaxL w) (hb : Below B w w') (hB : 0 < B) : MaxL w' := by
  obtain ⟨m, hm⟩ := h
  exact ⟨m, cellK hb hB hm⟩
theorem MaxL.on {w w' : World} (h : MaxL w) (hb : Below w.heap.size w w') : MaxL w' := h.below hb h.lt
/-- What Path gives: a path of one's own, and the error. -/
def PathPost (r : List ByteArray × Int) (w : World) (e : Ending) (w' : World) : Prop :=
  ∃ v, e = .returned (.tuple #[v, .int .i64 r.2]) ∧ w'.ownsRow w.heap.size 9 1 v r.1.length (svals r.1) ∧ Below w.heap.size w w'
theorem star_eq (s : ByteArray) : (s.toList == [42]) = decide (s = ⟨#[42]⟩) := by
  have h : (⟨#[42]⟩ : ByteArray).toList = [42] := by decide +kernel
  have k := str_beq s ⟨#[42]⟩
  rw [h] at k; exact k
theorem cells_own (w : World) (l : List ByteArray) (n : Nat) (hn : l.length ≤ n) (hm : n ≤ maxLen) :
    (w.alloc (.cells (Lib.cellsOf l n) 9)).ownsRow w.heap.size 9 1 (.slice (some ⟨w.heap.size, 0, none⟩) l.length n) l.length (svals l) := by
  refine ⟨by rw [svals_len, Nat.mul_one], .inr ⟨w.heap.size, n, _, rfl, Nat.le_refl _, heap_alloc_new w _, hn, hm, ?_, ?_⟩⟩
  · rw [Lib.cellsOf_size hn, Nat.mul_one]
  · unfold Lib.cellsOf svals
    rw [Nat.mul_one]
    simp
set_option maxRecDepth 100000 in
set_option maxHeartbeats 800000 in
theorem path_any (s : ByteArray) (w : World) (hs : s.size < 4294967281) (hm : MaxL w) :
    Calls Tryz.prog 88 #[.string s] w (PathPost (pathR s) w) := by
  obtain ⟨m, hm⟩ := hm
  have HSP := hid (show Calls Tryz.prog 113 #[.string s, .string ⟨#[47]⟩, .int .i64 4] w fun e w' =>
      e = .returned (.slice (some ⟨w.heap.size, 0, none⟩) (Lib.splitB slash 0 (min 4 (s.size + 1) - 1) s).length (min 4 (s.size + 1))) ∧ w' = w.alloc (.cells (Lib.cellsOf (Lib.splitB slash 0 (min 4 (s.size + 1) - 1) s) (min 4 (s.size + 1))) 9)
    from strings_SplitN s slash 4 m w hs hm (by decide) (by decide) (by decide))
  have h4 := split4 s
  have hlen := Lib.splitB_length_le slash 0 (min 4 (s.size + 1) - 1) s
  have hsz : ∀ x ∈ Lib.splitB slash 0 (min 4 (s.size + 1) - 1) s, x.size ≤ s.size := splitB_size _ s
  have hpr : pathR s = if s = ⟨#[42]⟩ then ([], 0) else if mayB (piecesB s) then (piecesB s, 0) else ([], 10) := rfl
  have hmin : min 4 (s.size + 1) - 1 + 1 = min 4 (s.size + 1) := by omega
  have hm4 : min 4 (s.size + 1) ≤ 4 := by omega
  rw [hmin] at hlen
  generalize min 4 (s.size + 1) = N at *
  generalize Lib.splitB slash 0 (N - 1) s = l at *
  have hown := cells_own w l N hlen (by unfold maxLen; omega)
  have hb := bl1 w (.cells (Lib.cellsOf l N) 9)
  obtain ⟨W1, hW1⟩ : ∃ W, W = w.alloc (.cells (Lib.cellsOf l N) 9) := ⟨_, rfl⟩
  rw [← hW1] at hown hb HSP
  have HMY := hid (mayN_any (.slice (some ⟨w.heap.size, 0, none⟩) l.length N) l W1 (Sl.of_own hown) (fun x hx => by have := hsz x hx; omega) (by omega))
  have HB := hid hb; have HOWN := hid hown; have H4 := hid h4
  have HSB := hid (star_eq s)
  clear hW1 hown hb h4 hsz hmin
  by_cases hst : s = ⟨#[42]⟩
  · rw [if_pos hst] at hpr
    have HPR := hid hpr
    have t1 : (s.toList == [42]) = true := by rw [HSB.out]; exact decide_eq_true hst
    clear hpr hst
    go_enter Tryz.func88, Tryz.ntmps88
    go_wp2
    refine bodyPost_ret (v := .tuple #[.slice none 0 0, .int .i64 0]) (by simp [results, Tryz.results88, go_sem]) rfl ?_
    rw [HPR.out]
    exact ⟨_, rfl, World.ownsRow_nil _ _ _ _, Below.refl _ _⟩
  · rw [if_neg hst] at hpr
    have HPR := hid hpr
    have t1 : (s.toList == [42]) = false := by rw [HSB.out]; exact decide_eq_false hst
    clear hpr hst
    go_enter Tryz.func88, Tryz.ntmps88
    go_wp2_with fail
    refine HSP.out.mono ?_
    rintro e w1 ⟨rfl, rfl⟩
    go_wp2_with fail
    refine HMY.out.mono ?_
    rintro e w2 ⟨rfl, hb2⟩
    have HB2 := hid (HB.out.trans (hb2.mono HB.out.size))
    have HO2 := hid (own_kept HOWN.out (fun g hg => hb2.block g (HOWN.out.lt g hg).2))
    clear hb2
    have hw : (mayB l = true ∧ pathR s = (l, 0)) ∨ (mayB l = false ∧ pathR s = ([], 10)) := by
      rcases H4.out with h | ⟨h, h'⟩
      · subst h
        cases hm : mayB (piecesB s)
        · right; exact ⟨rfl, by rw [HPR.out, if_neg (by rw [hm]; simp)]⟩
        · left; exact ⟨rfl, by rw [HPR.out, if_pos hm]⟩
      · right; exact ⟨h', by rw [HPR.out, if_neg (by rw [h]; simp)]⟩
    rcases hw with ⟨hml, hpr2⟩ | ⟨hml, hpr2⟩
    · have HPR2 := hid hpr2
      rw [hml]
      clear hpr2 hml
      go_wp2
      refine bodyPost_ret (v := .tuple #[.slice (some ⟨w.heap.size, 0, none⟩) l.length N, .int .i64 0]) (by simp [results, Tryz.results88, go_sem]) rfl ?_
      rw [HPR2.out]
      exact ⟨_, rfl, HO2.out, HB2.out⟩
    · have HPR2 := hid hpr2
      rw [hml]
      clear hpr2 hml
      go_wp2
      refine bodyPost_ret (v := .tuple #[.slice none 0 0, .int .i64 10]) (by simp [results, Tryz.results88, go_sem]) rfl ?_
      rw [HPR2.out]
      exact ⟨_, rfl, World.ownsRow_nil _ _ _ _, HB2.out⟩
end Go.Proofs.YtkgifbnkkmeoiaaGreatDoor
/- A row's element at a place; all of a row. -/
namespace Go.Proofs.YtkgifbnkkmeoiaaGreatDoor
open Go.ChangeShapes Go.WideShapes Go.ChangeAt Go.RowKit
set_option linter.unusedVariables false

theorem paths_at {w : World} {B : Nat} {A : Option Addr} {n c : Nat} {l : List (List ByteArray)} (h : rdSlice 1 rdStrs w B [.slice A n c] l) {k : Nat} (hk : k < l.length) :
    ∃ b off AM cM, A = some ⟨b, off, none⟩ ∧ b < B ∧ w.cell? ⟨b, off + k, none⟩ = some (.slice AM l[k].length cM) ∧ rdStrs w B [.slice AM l[k].length cM] l[k] := by
  obtain ⟨b, off, rfl, hb, es, hel, hcell, h3⟩ := h.at_ hk
  obtain ⟨AM, cM, rfl, -, -⟩ := h3.open_
  have := hcell 0 _ rfl
  rw [Nat.mul_one, Nat.add_zero] at this
  exact ⟨b, off, AM, cM, rfl, hb, this, h3⟩
theorem all_no {α : Type} {p : α → Bool} {l : List α} {k : Nat} (h : k < l.length) (hn : p l[k] = false) : l.all p = false := List.all_eq_false.2 ⟨_, List.getElem_mem h, by rw [hn]; simp⟩
theorem all_yes {α : Type} {p : α → Bool} {l : List α} (h : ∀ j (h : j < l.length), p l[j] = true) : l.all p = true := List.all_eq_true.2 (fun x hx => by
  obtain ⟨j, hj, rfl⟩ := List.mem_iff_getElem.1 hx
  exact h j hj)
theorem all_more {α : Type} {p : α → Bool} {l : List α} {k : Nat} (hall : ∀ j (h : j < l.length), j < k → p l[j] = true) (hk : k < l.length) (h : p l[k] = true) : ∀ j (h : j < l.length), j < k + 1 → p l[j] = true := fun j hj hjk => by
  by_cases e : j = k
  · subst e; exact h
  · exact hall j hj (by omega)
theorem strs_len {w : World} {B : Nat} {v : Value} {p : List ByteArray} (h : rdStrs w B [v] p) : p.length ≤ 9223372036854775807 := by
  obtain ⟨A, c, -, h1, h2⟩ := h.open_
  omega
theorem cut_ways {α : Type} {k m : Nat} {R : Rd α} {w : World} {B : Nat} {A : Option Addr} {c : Nat} {l : List α} (h : rdSlice k R w B [.slice A l.length c] l) :
    ∃ n : Nat, n = (l.take m).length ∧ rdSlice k R w B [.slice A n c] (l.take m) ∧ (((m : Int) < (l.length : Int) ∧ m ≤ l.length ∧ n = m) ∨ (¬ (m : Int) < (l.length : Int) ∧ n = l.length)) := by
  by_cases hm : m < l.length
  · exact ⟨m, by rw [List.length_take]; omega, h.head_ (by omega), .inl ⟨by omega, by omega, rfl⟩⟩
  · exact ⟨l.length, by rw [List.length_take]; omega, by rw [List.take_of_length_le (by omega)]; exact h, .inr ⟨by omega, rfl⟩⟩
theorem dim_at {w : World} {B : Nat} {A : Option Addr} {n c : Nat} {l : List DimX} (h : rdSlice 2 rdDim w B [.slice A n c] l) {k : Nat} (hk : k < l.length) :
    ∃ b off AL cL, A = some ⟨b, off, none⟩ ∧ b < B ∧ w.cell? ⟨b, off + k * 2, none⟩ = some (.string l[k].1) ∧ w.cell? ⟨b, off + k * 2 + 1, none⟩ = some (.slice AL l[k].2.length cL) ∧ rdStrs w B [.slice AL l[k].2.length cL] l[k].2 ∧ l[k].1.size ≤ maxLen := by
  obtain ⟨b, off, rfl, hb, es, hel, hcell, hl1, ⟨ex, hsz⟩, hlv⟩ := h.at_ hk
  obtain ⟨AL, cL, eL, -, -⟩ := hlv.open_
  obtain rfl : es = [.string l[k].1, .slice AL l[k].2.length cL] := by
    rw [← List.take_append_drop 1 es, ex, eL]; rfl
  exact ⟨b, off, AL, cL, rfl, hb, hcell 0 _ rfl, hcell 1 _ rfl, hlv, hsz⟩
theorem rows_at {w : World} {B : Nat} {A : Option Addr} {n c : Nat} {l : List (List Int)} (h : rdSlice 1 rdInts w B [.slice A n c] l) {k : Nat} (hk : k < l.length) :
    ∃ b off AM cM, A = some ⟨b, off, none⟩ ∧ b < B ∧ w.cell? ⟨b, off + k, none⟩ = some (.slice AM l[k].length cM) ∧ rdInts w B [.slice AM l[k].length cM] l[k] := by
  obtain ⟨b, off, rfl, hb, es, hel, hcell, h3⟩ := h.at_ hk
  obtain ⟨AM, cM, rfl, -, -⟩ := h3.open_
  have := hcell 0 _ rfl
  rw [Nat.mul_one, Nat.add_zero] at this
  exact ⟨b, off, AM, cM, rfl, hb, this, h3⟩
end Go.Proofs.YtkgifbnkkmeoiaaGreatDoor
/- Arguments opened: lists of texts. -/
namespace Go.Proofs.YtkgifbnkkmeoiaaGreatDoor
open Go.ChangeShapes Go.WideShapes Go.ChangeAt Go.RowKit Go.Deep
set_option linter.unusedVariables false
set_option linter.unusedSimpArgs false

theorem opens_strsQ : Opens Tryz.prog 129 1 rdStrs := opens_slice (e := 9) good_str Tryz.underlying129 (opens_str Tryz.underlying9 (by kernel_rfl)) (by kernel_rfl) (by omega)
end Go.Proofs.YtkgifbnkkmeoiaaGreatDoor
/- What the laws of a door seat share: a world in which the library's tables lie as its text lays them; the library's variable holds a number. -/
namespace Go.Proofs.YtkgifbnkkmeoiaaGreatDoor
open Go.ChangeShapes Go.WideShapes Go.ChangeAt Go.RowKit
set_option linter.unusedVariables false

def bytesV (l : List Nat) : Array Value := (l.map (fun n : Nat => Value.int .u8 n)).toArray
def layCells (cs : Array Value) : Obj → Obj
  | .cells _ t frozen => .cells cs t frozen
  | o => o
noncomputable def laidWorld (os : Os) : World :=
  { World.holding Tryz.prog os ⟨#[], #[], []⟩ with heap := ((World.holding Tryz.prog os ⟨#[], #[], []⟩).heap.modify 1 (layCells (bytesV Go.Pinned.utf8FirstZ))).modify 2 (layCells (bytesV [128, 191, 160, 191, 128, 159, 144, 191, 128, 143, 0, 0, 0, 0, 0, 0, 0, 0, 0, 0, 0, 0, 0, 0, 0, 0, 0, 0, 0, 0, 0, 0])) }
theorem maxL_of {w : World} (h : w.ShapedOpen Tryz.prog) : MaxL w :=
  cell_of_shapedOpen_int (zero := #[.int .i64 0]) (t := 3) h (of_decide_eq_true (by kernel_rfl)) (by kernel_rfl) rfl (by kernel_rfl) (by kernel_rfl) Tryz.underlying3
end Go.Proofs.YtkgifbnkkmeoiaaGreatDoor
/- Plain facts on numbers as bytes, seven bits a byte. -/
namespace Go.Proofs.YtkgifbnkkmeoiaaGreatDoor

/-- The number u of a number. -/
def numU (n : Int) : Nat := if n < 0 then (-2 * n - 1).toNat else (2 * n).toNat
/-- u in groups of seven bits, the lowest first; every byte but the last one bears 128. -/
def putF : Nat → Nat → List UInt8
  | 0, u => [UInt8.ofNat u]
  | f + 1, u => if u < 128 then [UInt8.ofNat u] else UInt8.ofNat (u % 128 + 128) :: putF f (u / 128)
def putInt (n : Int) : List UInt8 := putF 9 (numU n)

theorem numU_lt (n : Int) (h1 : -9223372036854775808 ≤ n) (h2 : n ≤ 9223372036854775807) : numU n < 18446744073709551616 := by
  unfold numU; split <;> omega
theorem putF_pos (f u : Nat) : 0 < (putF f u).length := by
  cases f <;> simp [putF]
  split <;> simp
theorem putF_le (f u : Nat) : (putF f u).length ≤ f + 1 := by
  induction f generalizing u with
  | zero => simp [putF]
  | succ f ih =>
    simp only [putF]
    split
    · simp
    · simp only [List.length_cons]; have := ih (u / 128); omega
theorem putInt_le (n : Int) : (putInt n).length ≤ 10 := putF_le 9 _
theorem putInt_pos (n : Int) : 0 < (putInt n).length := putF_pos 9 _

/-- The number of a u. -/
def numOf (u : Nat) : Int := if u % 2 = 1 then -((u / 2 : Nat) : Int) - 1 else ((u / 2 : Nat) : Int)
/-- What is got of bytes of which i are past, and were u. -/
def getF : List UInt8 → Nat → Nat → Int × Int × Int
  | [], _, _ => (0, 0, 3)
  | c :: l, i, u =>
    if i = 9 ∧ 1 < c.toNat then (0, 0, 2)
    else if 128 ≤ c.toNat then getF l (i + 1) (u + c.toNat % 128 * 2 ^ (7 * i))
    else if c.toNat = 0 ∧ 0 < i then (0, 0, 2)
    else (numOf (u + c.toNat * 2 ^ (7 * i)), (i : Int) + 1, 0)
def getInt (l : List UInt8) : Int × Int × Int := getF l 0 0
end Go.Proofs.YtkgifbnkkmeoiaaGreatDoor
