/- 6 texts of this claim, in build order. -/
import Derived.Test.YtkgifbnkkmeoiaaGreatDoorPhoigjkig
import Derived.Test.YtkgifbnkkmeoiaaGreatDoorPjkhkmabk
import Derived.Test.YtkgifbnkkmeoiaaGreatDoorCards
import Derived.Test.YtkgifbnkkmeoiaaGreatDoorTie
import Derived.Deep.DeepHandedRow
import Derived.Lib.LaidTab
import Derived.Shelf.Vars
/- names.Path: a text is read as a path. -/
namespace Go.Proofs.YtkgifbnkkmeoiaaGreatDoor
open Go.ChangeShapes Go.WideShapes Go.ChangeAt Go.RowKit
set_option linter.unusedVariables false
set_option linter.unusedSimpArgs false

/-- The library's variable holds a number. -/
def MaxL (w : World) : Prop := ∃ m : Int, w.cell? ⟨0, 0, none⟩ = some (.int .i64 m)
theorem MaxL.lt {w : World} (h : MaxL w) : 0 < w.heap.size := by
  obtain ⟨m, hm⟩ := h
  exact World.block_lt_of_cell? w ⟨_, 0, none⟩ hm
theorem MaxL.below {w w' : World} {B : Nat} (h : MaxL w) (hb : Below B w w') (hB : 0 < B) : MaxL w' := by
  obtain ⟨m, hm⟩ := h
  exact ⟨m, cellK hb hB hm⟩
theorem MaxL.on {w w' : World} (h : MaxL w) (hb : Below w.heap.size w w') : MaxL w' := h.below hb h.lt
/-- What Path gives: a path of one's own, and the error. -/
def PathPost (r : List ByteArray × Int) (w : World) (e : Ending) (w' : World) : Prop :=
  ∃ v, e = .returned (.tuple #[v, .int .i64 r.2]) ∧ w'.ownsRow w.heap.size 9 1 v r.1.length (svals r.1) ∧ Below w.heap.size w w'
theorem star_eq (s : ByteArray) : (s.toList == [42]) = decide (s = ⟨#[42]⟩) := by
  have h : (⟨#[42]⟩ : ByteArray).toList = [42] := by decide +kernel
  have k := str_beq s ⟨#[42]⟩
  rw [h] at k; exact k
theorem cells_own (w : World) (l : List ByteArray) (n : Nat) (hn : l.length ≤ n) (hm : n ≤ maxLen) :
    (w.alloc (.cells (Lib.cellsOf l n) 9)).ownsRow w.heap.size 9 1 (.slice (some ⟨w.heap.size, 0, none⟩) l.length n) l.length (svals l) := by
  refine ⟨by rw [svals_len, Nat.mul_one], .inr ⟨w.heap.size, n, _, rfl, Nat.le_refl _, heap_alloc_new w _, hn, hm, ?_, ?_⟩⟩
  · rw [Lib.cellsOf_size hn, Nat.mul_one]
  · unfold Lib.cellsOf svals
    rw [Nat.mul_one]
    simp
set_option maxRecDepth 100000 in
set_option maxHeartbeats 800000 in
theorem path_any (s : ByteArray) (w : World) (hs : s.size < 4294967281) (hm : MaxL w) :
    Calls Tryz.prog 88 #[.string s] w (PathPost (pathR s) w) := by
  obtain ⟨m, hm⟩ := hm
  have HSP := hid (show Calls Tryz.prog 113 #[.string s, .string ⟨#[47]⟩, .int .i64 4] w fun e w' =>
      e = .returned (.slice (some ⟨w.heap.size, 0, none⟩) (Lib.splitB slash 0 (min 4 (s.size + 1) - 1) s).length (min 4 (s.size + 1))) ∧ w' = w.alloc (.cells (Lib.cellsOf (Lib.splitB slash 0 (min 4 (s.size + 1) - 1) s) (min 4 (s.size + 1))) 9)
    from strings_SplitN s slash 4 m w hs hm (by decide) (by decide) (by decide))
  have h4 := split4 s
  have hlen := Lib.splitB_length_le slash 0 (min 4 (s.size + 1) - 1) s
  have hsz : ∀ x ∈ Lib.splitB slash 0 (min 4 (s.size + 1) - 1) s, x.size ≤ s.size := splitB_size _ s
  have hpr : pathR s = if s = ⟨#[42]⟩ then ([], 0) else if mayB (piecesB s) then (piecesB s, 0) else ([], 10) := rfl
  have hmin : min 4 (s.size + 1) - 1 + 1 = min 4 (s.size + 1) := by omega
  have hm4 : min 4 (s.size + 1) ≤ 4 := by omega
  rw [hmin] at hlen
  generalize min 4 (s.size + 1) = N at *
  generalize Lib.splitB slash 0 (N - 1) s = l at *
  have hown := cells_own w l N hlen (by unfold maxLen; omega)
  have hb := bl1 w (.cells (Lib.cellsOf l N) 9)
  obtain ⟨W1, hW1⟩ : ∃ W, W = w.alloc (.cells (Lib.cellsOf l N) 9) := ⟨_, rfl⟩
  rw [← hW1] at hown hb HSP
  have HMY := hid (mayN_any (.slice (some ⟨w.heap.size, 0, none⟩) l.length N) l W1 (Sl.of_own hown) (fun x hx => by have := hsz x hx; omega) (by omega))
  have HB := hid hb; have HOWN := hid hown; have H4 := hid h4
  have HSB := hid (star_eq s)
  clear hW1 hown hb h4 hsz hmin
  by_cases hst : s = ⟨#[42]⟩
  · rw [if_pos hst] at hpr
    have HPR := hid hpr
    have t1 : (s.toList == [42]) = true := by rw [HSB.out]; exact decide_eq_true hst
    clear hpr hst
    go_enter Tryz.func88, Tryz.ntmps88
    go_wp2
    refine bodyPost_ret (v := .tuple #[.slice none 0 0, .int .i64 0]) (by simp [results, Tryz.results88, go_sem]) rfl ?_
    rw [HPR.out]
    exact ⟨_, rfl, World.ownsRow_nil _ _ _ _, Below.refl _ _⟩
  · rw [if_neg hst] at hpr
    have HPR := hid hpr
    have t1 : (s.toList == [42]) = false := by rw [HSB.out]; exact decide_eq_false hst
    clear hpr hst
    go_enter Tryz.func88, Tryz.ntmps88
    go_wp2_with fail
    refine HSP.out.mono ?_
    rintro e w1 ⟨rfl, rfl⟩
    go_wp2_with fail
    refine HMY.out.mono ?_
    rintro e w2 ⟨rfl, hb2⟩
    have HB2 := hid (HB.out.trans (hb2.mono HB.out.size))
    have HO2 := hid (own_kept HOWN.out (fun g hg => hb2.block g (HOWN.out.lt g hg).2))
    clear hb2
    have hw : (mayB l = true ∧ pathR s = (l, 0)) ∨ (mayB l = false ∧ pathR s = ([], 10)) := by
      rcases H4.out with h | ⟨h, h'⟩
      · subst h
        cases hm : mayB (piecesB s)
        · right; exact ⟨rfl, by rw [HPR.out, if_neg (by rw [hm]; simp)]⟩
        · left; exact ⟨rfl, by rw [HPR.out, if_pos hm]⟩
      · right; exact ⟨h', by rw [HPR.out, if_neg (by rw [h]; simp)]⟩
    rcases hw with ⟨hml, hpr2⟩ | ⟨hml, hpr2⟩
    · have HPR2 := hid hpr2
      rw [hml]
      clear hpr2 hml
      go_wp2
      refine bodyPost_ret (v := .tuple #[.slice (some ⟨w.heap.size, 0, none⟩) l.length N, .int .i64 0]) (by simp [results, Tryz.results88, go_sem]) rfl ?_
      rw [HPR2.out]
      exact ⟨_, rfl, HO2.out, HB2.out⟩
    · have HPR2 := hid hpr2
      rw [hml]
      clear hpr2 hml
      go_wp2
      refine bodyPost_ret (v := .tuple #[.slice none 0 0, .int .i64 10]) (by simp [results, Tryz.results88, go_sem]) rfl ?_
      rw [HPR2.out]
      exact ⟨_, rfl, World.ownsRow_nil _ _ _ _, HB2.out⟩
end Go.Proofs.YtkgifbnkkmeoiaaGreatDoor
/- A row's element at a place; all of a row. -/
namespace Go.Proofs.YtkgifbnkkmeoiaaGreatDoor
open Go.ChangeShapes Go.WideShapes Go.ChangeAt Go.RowKit
set_option linter.unusedVariables false

theorem paths_at {w : World} {B : Nat} {A : Option Addr} {n c : Nat} {l : List (List ByteArray)} (h : rdSlice 1 rdStrs w B [.slice A n c] l) {k : Nat} (hk : k < l.length) :
    ∃ b off AM cM, A = some ⟨b, off, none⟩ ∧ b < B ∧ w.cell? ⟨b, off + k, none⟩ = some (.slice AM l[k].length cM) ∧ rdStrs w B [.slice AM l[k].length cM] l[k] := by
  obtain ⟨b, off, rfl, hb, es, hel, hcell, h3⟩ := h.at_ hk
  obtain ⟨AM, cM, rfl, -, -⟩ := h3.open_
  have := hcell 0 _ rfl
  rw [Nat.mul_one, Nat.add_zero] at this
  exact ⟨b, off, AM, cM, rfl, hb, this, h3⟩
theorem all_no {α : Type} {p : α → Bool} {l : List α} {k : Nat} (h : k < l.length) (hn : p l[k] = false) : l.all p = false := List.all_eq_false.2 ⟨_, List.getElem_mem h, by rw [hn]; simp⟩
theorem all_yes {α : Type} {p : α → Bool} {l : List α} (h : ∀ j (h : j < l.length), p l[j] = true) : l.all p = true := List.all_eq_true.2 (fun x hx => by
  obtain ⟨j, hj, rfl⟩ := List.mem_iff_getElem.1 hx
  exact h j hj)
theorem all_more {α : Type} {p : α → Bool} {l : List α} {k : Nat} (hall : ∀ j (h : j < l.length), j < k → p l[j] = true) (hk : k < l.length) (h : p l[k] = true) : ∀ j (h : j < l.length), j < k + 1 → p l[j] = true := fun j hj hjk => by
  by_cases e : j = k
  · subst e; exact h
  · exact hall j hj (by omega)
theorem strs_len {w : World} {B : Nat} {v : Value} {p : List ByteArray} (h : rdStrs w B [v] p) : p.length ≤ 9223372036854775807 := by
  obtain ⟨A, c, -, h1, h2⟩ := h.open_
  omega
theorem cut_ways {α : Type} {k m : Nat} {R : Rd α} {w : World} {B : Nat} {A : Option Addr} {c : Nat} {l : List α} (h : rdSlice k R w B [.slice A l.length c] l) :
    ∃ n : Nat, n = (l.take m).length ∧ rdSlice k R w B [.slice A n c] (l.take m) ∧ (((m : Int) < (l.length : Int) ∧ m ≤ l.length ∧ n = m) ∨ (¬ (m : Int) < (l.length : Int) ∧ n = l.length)) := by
  by_cases hm : m < l.length
  · exact ⟨m, by rw [List.length_take]; omega, h.head_ (by omega), .inl ⟨by omega, by omega, rfl⟩⟩
  · exact ⟨l.length, by rw [List.length_take]; omega, by rw [List.take_of_length_le (by omega)]; exact h, .inr ⟨by omega, rfl⟩⟩
theorem dim_at {w : World} {B : Nat} {A : Option Addr} {n c : Nat} {l : List DimX} (h : rdSlice 2 rdDim w B [.slice A n c] l) {k : Nat} (hk : k < l.length) :
    ∃ b off AL cL, A = some ⟨b, off, none⟩ ∧ b < B ∧ w.cell? ⟨b, off + k * 2, none⟩ = some (.string l[k].1) ∧ w.cell? ⟨b, off + k * 2 + 1, none⟩ = some (.slice AL l[k].2.length cL) ∧ rdStrs w B [.slice AL l[k].2.length cL] l[k].2 ∧ l[k].1.size ≤ maxLen := by
  obtain ⟨b, off, rfl, hb, es, hel, hcell, hl1, ⟨ex, hsz⟩, hlv⟩ := h.at_ hk
  obtain ⟨AL, cL, eL, -, -⟩ := hlv.open_
  obtain rfl : es = [.string l[k].1, .slice AL l[k].2.length cL] := by
    rw [← List.take_append_drop 1 es, ex, eL]; rfl
  exact ⟨b, off, AL, cL, rfl, hb, hcell 0 _ rfl, hcell 1 _ rfl, hlv, hsz⟩
theorem rows_at {w : World} {B : Nat} {A : Option Addr} {n c : Nat} {l : List (List Int)} (h : rdSlice 1 rdInts w B [.slice A n c] l) {k : Nat} (hk : k < l.length) :
    ∃ b off AM cM, A = some ⟨b, off, none⟩ ∧ b < B ∧ w.cell? ⟨b, off + k, none⟩ = some (.slice AM l[k].length cM) ∧ rdInts w B [.slice AM l[k].length cM] l[k] := by
  obtain ⟨b, off, rfl, hb, es, hel, hcell, h3⟩ := h.at_ hk
  obtain ⟨AM, cM, rfl, -, -⟩ := h3.open_
  have := hcell 0 _ rfl
  rw [Nat.mul_one, Nat.add_zero] at this
  exact ⟨b, off, AM, cM, rfl, hb, this, h3⟩
end Go.Proofs.YtkgifbnkkmeoiaaGreatDoor
/- Arguments opened: lists of texts. -/
namespace Go.Proofs.YtkgifbnkkmeoiaaGreatDoor
open Go.ChangeShapes Go.WideShapes Go.ChangeAt Go.RowKit Go.Deep
set_option linter.unusedVariables false
set_option linter.unusedSimpArgs false

theorem opens_strsQ : Opens Tryz.prog 129 1 rdStrs := opens_slice (e := 9) good_str Tryz.underlying129 (opens_str Tryz.underlying9 (by kernel_rfl)) (by kernel_rfl) (by omega)
end Go.Proofs.YtkgifbnkkmeoiaaGreatDoor
/- What the laws of a door seat share: a world in which the library's tables lie as its text lays them; the library's variable holds a number. -/
namespace Go.Proofs.YtkgifbnkkmeoiaaGreatDoor
open Go.ChangeShapes Go.WideShapes Go.ChangeAt Go.RowKit
set_option linter.unusedVariables false

def bytesV (l : List Nat) : Array Value := (l.map (fun n : Nat => Value.int .u8 n)).toArray
def layCells (cs : Array Value) : Obj → Obj
  | .cells _ t frozen => .cells cs t frozen
  | o => o
noncomputable def laidWorld (os : Os) : World :=
  { World.holding Tryz.prog os ⟨#[], #[], []⟩ with heap := ((World.holding Tryz.prog os ⟨#[], #[], []⟩).heap.modify 1 (layCells (bytesV Go.Pinned.utf8FirstZ))).modify 2 (layCells (bytesV [128, 191, 160, 191, 128, 159, 144, 191, 128, 143, 0, 0, 0, 0, 0, 0, 0, 0, 0, 0, 0, 0, 0, 0, 0, 0, 0, 0, 0, 0, 0, 0])) }
theorem maxL_of {w : World} (h : w.ShapedOpen Tryz.prog) : MaxL w :=
  cell_of_shapedOpen_int (zero := #[.int .i64 0]) (t := 3) h (of_decide_eq_true (by kernel_rfl)) (by kernel_rfl) rfl (by kernel_rfl) (by kernel_rfl) Tryz.underlying3
end Go.Proofs.YtkgifbnkkmeoiaaGreatDoor
/- Plain facts on numbers as bytes, seven bits a byte. -/
namespace Go.Proofs.YtkgifbnkkmeoiaaGreatDoor

/-- The number u of a number. -/
def numU (n : Int) : Nat := if n < 0 then (-2 * n - 1).toNat else (2 * n).toNat
/-- u in groups of seven bits, the lowest first; every byte but the last one bears 128. -/
def putF : Nat → Nat → List UInt8
  | 0, u => [UInt8.ofNat u]
  | f + 1, u => if u < 128 then [UInt8.ofNat u] else UInt8.ofNat (u % 128 + 128) :: putF f (u / 128)
def putInt (n : Int) : List UInt8 := putF 9 (numU n)

theorem numU_lt (n : Int) (h1 : -9223372036854775808 ≤ n) (h2 : n ≤ 9223372036854775807) : numU n < 18446744073709551616 := by
  unfold numU; split <;> omega
theorem putF_pos (f u : Nat) : 0 < (putF f u).length := by
  cases f <;> simp [putF]
  split <;> simp
theorem putF_le (f u : Nat) : (putF f u).length ≤ f + 1 := by
  induction f generalizing u with
  | zero => simp [putF]
  | succ f ih =>
    simp only [putF]
    split
    · simp
    · simp only [List.length_cons]; have := ih (u / 128); omega
theorem putInt_le (n : Int) : (putInt n).length ≤ 10 := putF_le 9 _
theorem putInt_pos (n : Int) : 0 < (putInt n).length := putF_pos 9 _

/-- The number of a u. -/
def numOf (u : Nat) : Int := if u % 2 = 1 then -((u / 2 : Nat) : Int) - 1 else ((u / 2 : Nat) : Int)
/-- What is got of bytes of which i are past, and were u. -/
def getF : List UInt8 → Nat → Nat → Int × Int × Int
  | [], _, _ => (0, 0, 3)
  | c :: l, i, u =>
    if i = 9 ∧ 1 < c.toNat then (0, 0, 2)
    else if 128 ≤ c.toNat then getF l (i + 1) (u + c.toNat % 128 * 2 ^ (7 * i))
    else if c.toNat = 0 ∧ 0 < i then (0, 0, 2)
    else (numOf (u + c.toNat * 2 ^ (7 * i)), (i : Int) + 1, 0)
def getInt (l : List UInt8) : Int × Int × Int := getF l 0 0
end Go.Proofs.YtkgifbnkkmeoiaaGreatDoor
/- Plain laws on numbers as bytes: what is put is got again, a part of it is too short, no other bytes say the same number, lesser numbers have no more bytes. -/
namespace Go.Proofs.YtkgifbnkkmeoiaaGreatDoor

theorem ofNat_toNat (u : Nat) (h : u < 256) : (UInt8.ofNat u).toNat = u := by
  rw [UInt8.toNat_ofNat']; omega
theorem pow7 (i : Nat) : 2 ^ (7 * (i + 1)) = 128 * 2 ^ (7 * i) := by
  rw [Nat.mul_add, Nat.pow_add, Nat.mul_comm]
theorem split7 (x u i : Nat) : x + u % 128 * 2 ^ (7 * i) + u / 128 * 2 ^ (7 * (i + 1)) = x + u * 2 ^ (7 * i) := by
  have e : u * 2 ^ (7 * i) = u % 128 * 2 ^ (7 * i) + u / 128 * (128 * 2 ^ (7 * i)) := by
    rw [← Nat.mul_assoc, ← Nat.add_mul]; congr 1; omega
  rw [pow7, e]; omega
theorem next7 {u i : Nat} (h : u * 2 ^ (7 * i) < 18446744073709551616) : u / 128 * 2 ^ (7 * (i + 1)) < 18446744073709551616 := by
  have e : u * 2 ^ (7 * i) = u % 128 * 2 ^ (7 * i) + u / 128 * (128 * 2 ^ (7 * i)) := by
    rw [← Nat.mul_assoc, ← Nat.add_mul]; congr 1; omega
  rw [pow7]; omega
theorem nine_small {u i : Nat} (h : u * 2 ^ (7 * i) < 18446744073709551616) (hi : i = 9) : u ≤ 1 := by
  subst hi
  have : (2 : Nat) ^ (7 * 9) = 9223372036854775808 := by decide
  rw [this] at h; omega
theorem getF_putF (f u i x : Nat) (rest : List UInt8) (hf : f + i = 9) (hb : u * 2 ^ (7 * i) < 18446744073709551616) (h0 : 0 < i → 0 < u) :
    getF (putF f u ++ rest) i x = (numOf (x + u * 2 ^ (7 * i)), ((i + (putF f u).length : Nat) : Int), 0) := by
  induction f generalizing u i x with
  | zero =>
    have h1 := nine_small hb (by omega)
    have h2 := h0 (by omega)
    simp only [putF, List.cons_append, List.nil_append, getF, ofNat_toNat u (by omega)]
    rw [if_neg (by omega), if_neg (by omega), if_neg (by omega)]
    simp
  | succ f ih =>
    simp only [putF]
    by_cases hu : u < 128
    · rw [if_pos hu]
      simp only [List.cons_append, List.nil_append, getF, ofNat_toNat u (by omega)]
      rw [if_neg (by omega), if_neg (by omega), if_neg (by omega)]
      simp
    · rw [if_neg hu]
      simp only [List.cons_append, getF, ofNat_toNat (u % 128 + 128) (by omega)]
      rw [if_neg (by omega), if_pos (by omega), ih (u / 128) (i + 1) _ (by omega) (next7 hb) (by omega)]
      rw [show (u % 128 + 128) % 128 = u % 128 by omega, split7]
      simp; omega
theorem getF_cut (f u i x k : Nat) (hf : f + i = 9) (hb : u * 2 ^ (7 * i) < 18446744073709551616) (h0 : 0 < i → 0 < u) (hk : k < (putF f u).length) :
    getF ((putF f u).take k) i x = (0, 0, 3) := by
  induction f generalizing u i x k with
  | zero =>
    simp only [putF, List.length_singleton] at hk
    obtain rfl : k = 0 := by omega
    simp [getF]
  | succ f ih =>
    cases k with
    | zero => simp [getF]
    | succ k =>
      simp only [putF] at hk ⊢
      by_cases hu : u < 128
      · rw [if_pos hu] at hk; simp at hk
      · rw [if_neg hu] at hk ⊢
        simp only [List.take_succ_cons, getF, ofNat_toNat (u % 128 + 128) (by omega)]
        rw [if_neg (by omega), if_pos (by omega)]
        exact ih (u / 128) (i + 1) _ k (by omega) (next7 hb) (by omega) (by simpa using hk)
theorem numOf_numU (n : Int) : numOf (numU n) = n := by
  unfold numOf numU; split <;> split <;> omega
theorem numU_numOf (u : Nat) : numU (numOf u) = u := by
  unfold numOf numU; split <;> split <;> omega
theorem numOf_range (u : Nat) (h : u < 18446744073709551616) : -9223372036854775808 ≤ numOf u ∧ numOf u ≤ 9223372036854775807 := by
  unfold numOf; split <;> omega
/-- What is put is got again. -/
theorem getInt_putInt (n : Int) (h1 : -9223372036854775808 ≤ n) (h2 : n ≤ 9223372036854775807) (rest : List UInt8) :
    getInt (putInt n ++ rest) = (n, ((putInt n).length : Int), 0) := by
  have := getF_putF 9 (numU n) 0 0 rest rfl (by have := numU_lt n h1 h2; simpa using this) (by omega)
  simp only [Nat.mul_zero, Nat.pow_zero, Nat.mul_one, Nat.zero_add, numOf_numU] at this
  exact this
/-- A part is too short. -/
theorem getInt_cut (n : Int) (h1 : -9223372036854775808 ≤ n) (h2 : n ≤ 9223372036854775807) (k : Nat) (hk : k < (putInt n).length) :
    getInt ((putInt n).take k) = (0, 0, 3) :=
  getF_cut 9 (numU n) 0 0 k rfl (by have := numU_lt n h1 h2; simpa using this) (by omega) hk
theorem toNat_eq_ofNat (c : UInt8) (u : Nat) (h : c.toNat = u) : c = UInt8.ofNat u := by
  rw [← h, UInt8.ofNat_toNat]
theorem getF_ok (l : List UInt8) (i x : Nat) (n k : Int) (hi : i ≤ 9) (h : getF l i x = (n, k, 0)) :
    ∃ u m : Nat, k = ((i + m : Nat) : Int) ∧ 0 < m ∧ m ≤ l.length ∧ l.take m = putF (9 - i) u ∧ n = numOf (x + u * 2 ^ (7 * i)) ∧ (0 < i → 0 < u) ∧ (i = 9 → u ≤ 1) ∧ u < 128 ^ m := by
  induction l generalizing i x with
  | nil => simp [getF] at h
  | cons c l ih =>
    have hc : c.toNat < 256 := UInt8.toNat_lt _
    simp only [getF] at h
    by_cases h9 : i = 9 ∧ 1 < c.toNat
    · rw [if_pos h9] at h; simp at h
    · rw [if_neg h9] at h
      by_cases h128 : 128 ≤ c.toNat
      · rw [if_pos h128] at h
        obtain ⟨u, m, h3, h4, h5, h6, h7, h8, h10, h11⟩ := ih (i + 1) _ (by omega) h
        have hu := h8 (by omega)
        refine ⟨c.toNat % 128 + 128 * u, m + 1, by rw [h3]; omega, by omega, by simp; omega, ?_, ?_, by omega, by omega, ?_⟩
        · rw [List.take_succ_cons, h6, show 9 - i = (9 - (i + 1)) + 1 by omega, putF, if_neg (by omega)]
          congr 1
          · apply toNat_eq_ofNat; omega
          · congr 1; omega
        · rw [h7]; congr 1
          have := split7 x (c.toNat % 128 + 128 * u) i
          rw [show (c.toNat % 128 + 128 * u) % 128 = c.toNat % 128 by omega, show (c.toNat % 128 + 128 * u) / 128 = u by omega] at this
          exact this
        · rw [Nat.pow_succ]; omega
      · rw [if_neg h128] at h
        by_cases hz : c.toNat = 0 ∧ 0 < i
        · rw [if_pos hz] at h; simp at h
        · rw [if_neg hz] at h
          injection h with h1 h2
          injection h2 with h2 _
          refine ⟨c.toNat, 1, by rw [← h2]; omega, by omega, by simp, ?_, h1.symm, by omega, by omega, by omega⟩
          rw [List.take_succ_cons, List.take_zero]
          have e : putF (9 - i) c.toNat = [UInt8.ofNat c.toNat] := by
            cases 9 - i <;> simp [putF]
            omega
          rw [e, UInt8.ofNat_toNat]
/-- Bytes that begin with a number begin with just what is put for it. -/
theorem getInt_ok (l : List UInt8) (n k : Int) (h : getInt l = (n, k, 0)) : ∃ m : Nat, k = (m : Int) ∧ 0 < m ∧ m ≤ l.length ∧ l.take m = putInt n := by
  obtain ⟨u, m, h1, h2, h3, h4, h5, _⟩ := getF_ok l 0 0 n k (by omega) h
  refine ⟨m, by rw [h1]; simp, h2, h3, ?_⟩
  rw [h4, h5]
  simp only [Nat.mul_zero, Nat.pow_zero, Nat.mul_one, Nat.zero_add]
  unfold putInt; rw [numU_numOf]
theorem putF_mono (f u v : Nat) (h : u / 2 ≤ v / 2) : (putF f u).length ≤ (putF f v).length := by
  induction f generalizing u v with
  | zero => simp [putF]
  | succ f ih =>
    simp only [putF]
    by_cases hv : v < 128
    · rw [if_pos hv, if_pos (by omega : u < 128)]; simp
    · rw [if_neg hv]
      by_cases hu : u < 128
      · rw [if_pos hu]; have := putF_pos f (v / 128); simp
      · rw [if_neg hu]; simp only [List.length_cons]; have := ih (u / 128) (v / 128) (by omega); omega
/-- A number of lesser size has no more bytes. -/
theorem putInt_mono (a b : Int) (h : (if a < 0 then -(a + 1) else a) ≤ (if b < 0 then -(b + 1) else b)) : (putInt a).length ≤ (putInt b).length := by
  apply putF_mono
  unfold numU
  by_cases ha : a < 0 <;> by_cases hb : b < 0 <;> simp only [ha, hb, if_true, if_false] at h ⊢ <;> omega
/-- The bytes, by their places: T is the last one's. -/
def refF : Nat → Nat → List UInt8
  | 0, u => [UInt8.ofNat u]
  | T + 1, u => UInt8.ofNat (u % 128 + 128) :: refF T (u / 128)
theorem putF_ref (T f u : Nat) (hT : T ≤ f) (h1 : T = 0 ∨ 128 ^ T ≤ u) (h2 : u < 128 ^ (T + 1)) : putF f u = refF T u := by
  induction T generalizing f u with
  | zero => cases f <;> simp [putF, refF]; intro h; omega
  | succ T ih =>
    obtain ⟨f, rfl⟩ : ∃ g, f = g + 1 := ⟨f - 1, by omega⟩
    have hp : 0 < 128 ^ T := Nat.pow_pos (by omega)
    rw [Nat.pow_succ] at h1
    have h128 : ¬ u < 128 := by omega
    rw [Nat.pow_succ, Nat.mul_comm] at h2
    simp only [putF, refF, if_neg h128]
    rw [ih f (u / 128) (by omega) (by right; omega) (Nat.div_lt_of_lt_mul h2)]
end Go.Proofs.YtkgifbnkkmeoiaaGreatDoor
