/- 5 texts of this claim, in build order. -/
import Derived.Test.YtkgifbnkkmeoiaaGreatDoorPinglbimp
import Derived.Test.YtkgifbnkkmeoiaaGreatDoorPcononjpe
import Derived.Test.YtkgifbnkkmeoiaaGreatDoorPdhonageh
import Derived.Test.YtkgifbnkkmeoiaaGreatDoorPoekohcfp
import Derived.Test.YtkgifbnkkmeoiaaGreatDoorPhoigjkig
import Derived.Test.YtkgifbnkkmeoiaaGreatDoorPjkhkmabk
/- Plain laws on numbers as bytes: what is put is got again, a part of it is too short, no other bytes say the same number, lesser numbers have no more bytes. -/
namespace Go.Proofs.YtkgifbnkkmeoiaaGreatDoor

theorem ofNat_toNat (u : Nat) (h : u < 256) : (UInt8.ofNat u).toNat = u := by
  rw [UInt8.toNat_ofNat']; omega
theorem pow7 (i : Nat) : 2 ^ (7 * (i + 1)) = 128 * 2 ^ (7 * i) := by
  rw [Nat.mul_add, Nat.pow_add, Nat.mul_comm]
theorem split7 (x u i : Nat) : x + u % 128 * 2 ^ (7 * i) + u / 128 * 2 ^ (7 * (i + 1)) = x + u * 2 ^ (7 * i) := by
  have e : u * 2 ^ (7 * i) = u % 128 * 2 ^ (7 * i) + u / 128 * (128 * 2 ^ (7 * i)) := by
    rw [← Nat.mul_assoc, ← Nat.add_mul]; congr 1; omega
  rw [pow7, e]; omega
theorem next7 {u i : Nat} (h : u * 2 ^ (7 * i) < 18446744073709551616) : u / 128 * 2 ^ (7 * (i + 1)) < 18446744073709551616 := by
  have e : u * 2 ^ (7 * i) = u % 128 * 2 ^ (7 * i) + u / 128 * (128 * 2 ^ (7 * i)) := by
    rw [← Nat.mul_assoc, ← Nat.add_mul]; congr 1; omega
  rw [pow7]; omega
theorem nine_small {u i : Nat} (h : u * 2 ^ (7 * i) < 18446744073709551616) (hi : i = 9) : u ≤ 1 := by
  subst hi
  have : (2 : Nat) ^ (7 * 9) = 9223372036854775808 := by decide
  rw [this] at h; omega
theorem getF_putF (f u i x : Nat) (rest : List UInt8) (hf : f + i = 9) (hb : u * 2 ^ (7 * i) < 18446744073709551616) (h0 : 0 < i → 0 < u) :
    getF (putF f u ++ rest) i x = (numOf (x + u * 2 ^ (7 * i)), ((i + (putF f u).length : Nat) : Int), 0) := by
  induction f generalizing u i x with
  | zero =>
    have h1 := nine_small hb (by omega)
    have h2 := h0 (by omega)
    simp only [putF, List.cons_append, List.nil_append, getF, ofNat_toNat u (by omega)]
    rw [if_neg (by omega), if_neg (by omega), if_neg (by omega)]
    simp
  | succ f ih =>
    simp only [putF]
    by_cases hu : u < 128
    · rw [if_pos hu]
      simp only [List.cons_append, List.nil_append, getF, ofNat_toNat u (by omega)]
      rw [if_neg (by omega), if_neg (by omega), if_neg (by omega)]
      simp
    · rw [if_neg hu]
      simp only [List.cons_append, getF, ofNat_toNat (u % 128 + 128) (by omega)]
      rw [if_neg (by omega), if_pos (by omega), ih (u / 128) (i + 1) _ (by omega) (next7 hb) (by omega)]
      rw [show (u % 128 + 128) % 128 = u % 128 by omega, split7]
      simp; omega
theorem getF_cut (f u i x k : Nat) (hf : f + i = 9) (hb : u * 2 ^ (7 * i) < 18446744073709551616) (h0 : 0 < i → 0 < u) (hk : k < (putF f u).length) :
    getF ((putF f u).take k) i x = (0, 0, 3) := by
  induction f generalizing u i x k with
  | zero =>
    simp only [putF, List.length_singleton] at hk
    obtain rfl : k = 0 := by omega
    simp [getF]
  | succ f ih =>
    cases k with
    | zero => simp [getF]
    | succ k =>
      simp only [putF] at hk ⊢
      by_cases hu : u < 128
      · rw [if_pos hu] at hk; simp at hk
      · rw [if_neg hu] at hk ⊢
        simp only [List.take_succ_cons, getF, ofNat_toNat (u % 128 + 128) (by omega)]
        rw [if_neg (by omega), if_pos (by omega)]
        exact ih (u / 128) (i + 1) _ k (by omega) (next7 hb) (by omega) (by simpa using hk)
theorem numOf_numU (n : Int) : numOf (numU n) = n := by
  unfold numOf numU; split <;> split <;> omega
theorem numU_numOf (u : Nat) : numU (numOf u) = u := by
  unfold numOf numU; split <;> split <;> omega
theorem numOf_range (u : Nat) (h : u < 18446744073709551616) : -9223372036854775808 ≤ numOf u ∧ numOf u ≤ 9223372036854775807 := by
  unfold numOf; split <;> omega
/-- What is put is got again. -/
theorem getInt_putInt (n : Int) (h1 : -9223372036854775808 ≤ n) (h2 : n ≤ 9223372036854775807) (rest : List UInt8) :
    getInt (putInt n ++ rest) = (n, ((putInt n).length : Int), 0) := by
  have := getF_putF 9 (numU n) 0 0 rest rfl (by have := numU_lt n h1 h2; simpa using this) (by omega)
  simp only [Nat.mul_zero, Nat.pow_zero, Nat.mul_one, Nat.zero_add, numOf_numU] at this
  exact this
/-- A part is too short. -/
theorem getInt_cut (n : Int) (h1 : -9223372036854775808 ≤ n) (h2 : n ≤ 9223372036854775807) (k : Nat) (hk : k < (putInt n).length) :
    getInt ((putInt n).take k) = (0, 0, 3) :=
  getF_cut 9 (numU n) 0 0 k rfl (by have := numU_lt n h1 h2; simpa using this) (by omega) hk
theorem toNat_eq_ofNat (c : UInt8) (u : Nat) (h : c.toNat = u) : c = UInt8.ofNat u := by
  rw [← h, UInt8.ofNat_toNat]
theorem getF_ok (l : List UInt8) (i x : Nat) (n k : Int) (hi : i ≤ 9) (h : getF l i x = (n, k, 0)) :
    ∃ u m : Nat, k = ((i + m : Nat) : Int) ∧ 0 < m ∧ m ≤ l.length ∧ l.take m = putF (9 - i) u ∧ n = numOf (x + u * 2 ^ (7 * i)) ∧ (0 < i → 0 < u) ∧ (i = 9 → u ≤ 1) ∧ u < 128 ^ m := by
  induction l generalizing i x with
  | nil => simp [getF] at h
  | cons c l ih =>
    have hc : c.toNat < 256 := UInt8.toNat_lt _
    simp only [getF] at h
    by_cases h9 : i = 9 ∧ 1 < c.toNat
    · rw [if_pos h9] at h; simp at h
    · rw [if_neg h9] at h
      by_cases h128 : 128 ≤ c.toNat
      · rw [if_pos h128] at h
        obtain ⟨u, m, h3, h4, h5, h6, h7, h8, h10, h11⟩ := ih (i + 1) _ (by omega) h
        have hu := h8 (by omega)
        refine ⟨c.toNat % 128 + 128 * u, m + 1, by rw [h3]; omega, by omega, by simp; omega, ?_, ?_, by omega, by omega, ?_⟩
        · rw [List.take_succ_cons, h6, show 9 - i = (9 - (i + 1)) + 1 by omega, putF, if_neg (by omega)]
          congr 1
          · apply toNat_eq_ofNat; omega
          · congr 1; omega
        · rw [h7]; congr 1
          have := split7 x (c.toNat % 128 + 128 * u) i
          rw [show (c.toNat % 128 + 128 * u) % 128 = c.toNat % 128 by omega, show (c.toNat % 128 + 128 * u) / 128 = u by omega] at this
          exact this
        · rw [Nat.pow_succ]; omega
      · rw [if_neg h128] at h
        by_cases hz : c.toNat = 0 ∧ 0 < i
        · rw [if_pos hz] at h; simp at h
        · rw [if_neg hz] at h
          injection h with h1 h2
          injection h2 with h2 _
          refine ⟨c.toNat, 1, by rw [← h2]; omega, by omega, by simp, ?_, h1.symm, by omega, by omega, by omega⟩
          rw [List.take_succ_cons, List.take_zero]
          have e : putF (9 - i) c.toNat = [UInt8.ofNat c.toNat] := by
            cases 9 - i <;> simp [putF]
            omega
          rw [e, UInt8.ofNat_toNat]
/-- Bytes that begin with a number begin with just what is put for it. -/
theorem getInt_ok (l : List UInt8) (n k : Int) (h : getInt l = (n, k, 0)) : ∃ m : Nat, k = (m : Int) ∧ 0 < m ∧ m ≤ l.length ∧ l.take m = putInt n := by
  obtain ⟨u, m, h1, h2, h3, h4, h5, _⟩ := getF_ok l 0 0 n k (by omega) h
  refine ⟨m, by rw [h1]; simp, h2, h3, ?_⟩
  rw [h4, h5]
  simp only [Nat.mul_zero, Nat.pow_zero, Nat.mul_one, Nat.zero_add]
  unfold putInt; rw [numU_numOf]
theorem putF_mono (f u v : Nat) (h : u / 2 ≤ v / 2) : (putF f u).length ≤ (putF f v).length := by
  induction f generalizing u v with
  | zero => simp [putF]
  | succ f ih =>
    simp only [putF]
    by_cases hv : v < 128
    · rw [if_pos hv, if_pos (by omega : u < 128)]; simp
    · rw [if_neg hv]
      by_cases hu : u < 128
      · rw [if_pos hu]; have := putF_pos f (v / 128); simp
      · rw [if_neg hu]; simp only [List.length_cons]; have := ih (u / 128) (v / 128) (by omega); omega
/-- A number of lesser size has no more bytes. -/
theorem putInt_mono (a b : Int) (h : (if a < 0 then -(a + 1) else a) ≤ (if b < 0 then -(b + 1) else b)) : (putInt a).length ≤ (putInt b).length := by
  apply putF_mono
  unfold numU
  by_cases ha : a < 0 <;> by_cases hb : b < 0 <;> simp only [ha, hb, if_true, if_false] at h ⊢ <;> omega
/-- The bytes, by their places: T is the last one's. -/
def refF : Nat → Nat → List UInt8
  | 0, u => [UInt8.ofNat u]
  | T + 1, u => UInt8.ofNat (u % 128 + 128) :: refF T (u / 128)
theorem putF_ref (T f u : Nat) (hT : T ≤ f) (h1 : T = 0 ∨ 128 ^ T ≤ u) (h2 : u < 128 ^ (T + 1)) : putF f u = refF T u := by
  induction T generalizing f u with
  | zero => cases f <;> simp [putF, refF]; intro h; omega
  | succ T ih =>
    obtain ⟨f, rfl⟩ : ∃ g, f = g + 1 := ⟨f - 1, by omega⟩
    have hp : 0 < 128 ^ T := Nat.pow_pos (by omega)
    rw [Nat.pow_succ] at h1
    have h128 : ¬ u < 128 := by omega
    rw [Nat.pow_succ, Nat.mul_comm] at h2
    simp only [putF, refF, if_neg h128]
    rw [ih f (u / 128) (by omega) (by right; omega) (Nat.div_lt_of_lt_mul h2)]
end Go.Proofs.YtkgifbnkkmeoiaaGreatDoor
/- Bytes that are put, one behind the other. -/
namespace Go.Proofs.YtkgifbnkkmeoiaaGreatDoor
open Go.ChangeShapes Go.WideShapes Go.ChangeAt Go.RowKit
set_option linter.unusedVariables false

theorem flat_len {α : Type} (l : List α) (f : α → List UInt8) (m : Nat) (h : ∀ x ∈ l, (f x).length ≤ m) : (l.flatMap f).length ≤ m * l.length := by
  induction l with
  | nil => simp
  | cons x l ih =>
    have h1 := h x List.mem_cons_self
    have h2 := ih (fun y hy => h y (List.mem_cons_of_mem _ hy))
    rw [List.flatMap_cons, List.length_append, List.length_cons, Nat.mul_succ]
    omega
theorem flat_drop {α : Type} {l : List α} {k : Nat} (hk : k < l.length) (f : α → List UInt8) : (l.drop k).flatMap f = f l[k] ++ (l.drop (k + 1)).flatMap f := by
  rw [List.drop_eq_getElem_cons hk, List.flatMap_cons]
theorem flat_done {α : Type} {l : List α} (f : α → List UInt8) : (l.drop l.length).flatMap f = [] := by simp
/-- Bytes of the call's own. -/
def Own8 (w : World) (base : Nat) (v : Value) (l : List UInt8) : Prop := w.ownsRow base 5 1 v l.length (bvals l)
theorem Own8.less {w : World} {base base' : Nat} {v : Value} {l : List UInt8} (h : Own8 w base v l) (hb : base' ≤ base) : Own8 w base' v l := by
  obtain ⟨h1, h2⟩ := h
  refine ⟨h1, ?_⟩
  rcases h2 with h2 | ⟨g, cap, cur, rfl, hbg, r⟩
  · exact .inl h2
  · exact .inr ⟨g, cap, cur, rfl, by omega, r⟩
theorem Own8.on {w w' : World} {base : Nat} {v : Value} {l : List UInt8} (h : Own8 w base v l) (hb : Below w.heap.size w w') : Own8 w' base v l := own_kept h (fun g hg => hb.block g (own_lt h g hg).2)
theorem Own8.sl {w : World} {base : Nat} {v : Value} {l : List UInt8} (h : Own8 w base v l) : Sl w w.heap.size v (bvals l) := Sl.of_own h
theorem Own8.form {w : World} {base : Nat} {v : Value} {l : List UInt8} (h : Own8 w base v l) : ∃ A c, v = .slice A l.length c := by
  rcases h.2 with ⟨rfl, h0⟩ | ⟨g, cap, cur, rfl, _⟩
  · exact ⟨none, 0, by rw [h0]⟩
  · exact ⟨_, _, rfl⟩
def Put8 (l : List UInt8) (w : World) (e : Ending) (w' : World) : Prop := ∃ v, e = .returned v ∧ Own8 w' w.heap.size v l ∧ Below w.heap.size w w'
theorem putI8 (v : Value) (l : List UInt8) (n : Int) (w : World) (hv : Sl w w.heap.size v (bvals l)) (hl : l.length ≤ 100000) (hn : InI64 n) :
    Calls Tryz.prog 17 #[v, .int .i64 n] w (Put8 (l ++ putInt n) w) := by
  unfold InI64 at hn
  refine (putInt_any v l n w hv (by omega) (by omega) (by omega)).mono ?_
  rintro e w' ⟨v', rfl, h, hb⟩
  exact ⟨v', rfl, by unfold Own8; rw [List.length_append]; exact h, hb⟩
end Go.Proofs.YtkgifbnkkmeoiaaGreatDoor
/- Bytes that are put, one behind the other. -/
namespace Go.Proofs.YtkgifbnkkmeoiaaGreatDoor
open Go.ChangeShapes Go.WideShapes Go.ChangeAt Go.RowKit
set_option linter.unusedVariables false

/-- A path's bytes. -/
def putP (p : List ByteArray) : List UInt8 := putInt (textB p).size ++ (textB p).data.toList
/-- A row of paths' bytes. -/
def putM (ms : List (List ByteArray)) : List UInt8 := ms.flatMap putP
theorem putP_len {p : List ByteArray} (h : mayB p = true) : (putP p).length ≤ 48 := by
  have h1 := putInt_le ((textB p).size : Int)
  have h2 := textB_size h
  unfold putP
  have e : (textB p).data.toList.length = (textB p).size := by rw [Array.length_toList]; rfl
  rw [List.length_append, e]
  omega
theorem putT8 (v : Value) (l : List UInt8) (s : ByteArray) (w : World) (hv : Sl w w.heap.size v (bvals l)) (hl : l.length ≤ 100000) (hs : s.size ≤ 100000) :
    Calls Tryz.prog 20 #[v, .string s] w (Put8 (l ++ (putInt s.size ++ s.data.toList)) w) := by
  refine (putText_any v l s w hv (by omega)).mono ?_
  rintro e w' ⟨v', rfl, h, hb⟩
  refine ⟨v', rfl, ?_, hb⟩
  unfold Own8
  rw [← List.append_assoc]
  have : (l ++ putInt ↑s.size ++ s.data.toList).length = l.length + (putInt ↑s.size).length + s.size := by
    rw [List.length_append, List.length_append, Array.length_toList]; rfl
  rw [this]
  exact h
end Go.Proofs.YtkgifbnkkmeoiaaGreatDoor
/- Facts: readings, and what may be, plainly. -/
namespace Go.Proofs.YtkgifbnkkmeoiaaGreatDoor
open Go.ChangeShapes Go.WideShapes Go.ChangeAt Go.RowKit
set_option linter.unusedVariables false

abbrev FactX := List (List ByteArray) × List Int
abbrev rdFact : Rd FactX := rdPair 1 (rdSlice 1 rdStrs) rdInts
theorem good_fact : Good rdFact := good_pair good_paths good_ints
theorem good_facts : Good (rdSlice 2 rdFact) := good_slice good_fact
/-- A fact as a value. -/
def FactV (w : World) (B : Nat) (v : Value) (f : FactX) : Prop :=
  ∃ A1 c1 A2 c2, v = .agg #[.slice A1 f.1.length c1, .slice A2 f.2.length c2] ∧ rdSlice 1 rdStrs w B [.slice A1 f.1.length c1] f.1 ∧ rdInts w B [.slice A2 f.2.length c2] f.2
theorem FactV.below {w w' : World} {B : Nat} {v : Value} {f : FactX} (h : FactV w B v f) (hb : Below B w w') : FactV w' B v f := by
  obtain ⟨A1, c1, A2, c2, e, h1, h2⟩ := h
  exact ⟨A1, c1, A2, c2, e, good_paths.stays h1 hb, good_ints.stays h2 hb⟩
theorem FactV.more {w : World} {B B' : Nat} {v : Value} {f : FactX} (h : FactV w B v f) (hb : B ≤ B') : FactV w B' v f := by
  obtain ⟨A1, c1, A2, c2, e, h1, h2⟩ := h
  exact ⟨A1, c1, A2, c2, e, good_paths.more h1 hb, good_ints.more h2 hb⟩
theorem FactV.on {w w' : World} {v : Value} {f : FactX} (h : FactV w w.heap.size v f) (hb : Below w.heap.size w w') : FactV w' w'.heap.size v f := (h.below hb).more hb.size
theorem fact_of_rd {w : World} {B : Nat} {cs : List Value} {f : FactX} (h : rdFact w B cs f) : ∃ A1 c1 A2 c2, cs = [.slice A1 f.1.length c1, .slice A2 f.2.length c2] ∧ rdSlice 1 rdStrs w B [.slice A1 f.1.length c1] f.1 ∧ rdInts w B [.slice A2 f.2.length c2] f.2 := by
  obtain ⟨l1, h1, h2⟩ := h
  obtain ⟨A1, c1, e1, -, -⟩ := h1.open_
  obtain ⟨A2, c2, e2, -, -⟩ := h2.open_
  rw [e1] at h1; rw [e2] at h2
  refine ⟨A1, c1, A2, c2, ?_, h1, h2⟩
  rw [← List.take_append_drop 1 cs, e1, e2]
  rfl
theorem facts_at {w : World} {B : Nat} {A : Option Addr} {n c : Nat} {l : List FactX} (h : rdSlice 2 rdFact w B [.slice A n c] l) {k : Nat} (hk : k < l.length) :
    ∃ b off AP cP AV cV, A = some ⟨b, off, none⟩ ∧ b < B ∧ w.cell? ⟨b, off + k * 2, none⟩ = some (.slice AP l[k].1.length cP) ∧ w.cell? ⟨b, off + k * 2 + 1, none⟩ = some (.slice AV l[k].2.length cV) ∧
      rdSlice 1 rdStrs w B [.slice AP l[k].1.length cP] l[k].1 ∧ rdInts w B [.slice AV l[k].2.length cV] l[k].2 := by
  obtain ⟨b, off, rfl, hb, es, hel, hcell, hr⟩ := h.at_ hk
  obtain ⟨AP, cP, AV, cV, rfl, h1, h2⟩ := fact_of_rd hr
  exact ⟨b, off, AP, cP, AV, cV, rfl, hb, hcell 0 _ rfl, hcell 1 _ rfl, h1, h2⟩
/-! ### Plain words -/
def valB (n : Int) : Bool := decide (-2305843009213693952 ≤ n) && decide (n ≤ 2305843009213693952)
def plainFt (f : FactX) : Bool := (!(f.1.any fun p => !mayB p) && !(f.2.any fun n => !valB n)) && decide (f.1.length ≤ 3) && decide (f.2.length ≤ 2)
def fitsB (s : SchemaX) (f : FactX) : Bool := (plainFt f && decide (f.1.length = s.1.length) && decide (f.2.length = s.2.1.length)) && (List.range f.1.length).all fun i => decide ((f.1.getD i []).length = (s.1.getD i (⟨#[]⟩, [])).2.length)
def mayBt (s : SchemaX) (l : List FactX) : Int := if !mayS s then 11 else if l.length = 0 ∨ 8 < l.length then 13 else if l.any (fun f => !fitsB s f) then 12 else 0
def putFact (f : FactX) : List UInt8 := putInt f.1.length ++ (putM f.1 ++ (putInt f.2.length ++ f.2.flatMap putInt))
def putFacts (l : List FactX) : List UInt8 := putInt l.length ++ l.flatMap putFact
def fewFt (f : FactX) : FactX := ((f.1.take 5).map (fun p => p.take 5), f.2.take 5)
def fewFs (l : List FactX) : List FactX := (l.take 10).map fewFt
theorem any_not {α : Type} (p : α → Bool) (l : List α) : (!(l.any fun x => !p x)) = l.all p := by
  induction l with
  | nil => rfl
  | cons x l ih => rw [List.any_cons, List.all_cons, Bool.not_or, ih, Bool.not_not]
theorem plainFt_parts {f : FactX} (h : plainFt f = true) : f.1.length ≤ 3 ∧ f.2.length ≤ 2 ∧ (∀ p ∈ f.1, mayB p = true) ∧ ∀ n ∈ f.2, valB n = true := by
  unfold plainFt at h
  rw [any_not, any_not, Bool.and_eq_true, Bool.and_eq_true, Bool.and_eq_true] at h
  exact ⟨of_decide_eq_true h.1.2, of_decide_eq_true h.2, fun p hp => List.all_eq_true.1 h.1.1.1 p hp, fun n hn => List.all_eq_true.1 h.1.1.2 n hn⟩
theorem putFact_len {f : FactX} (h : plainFt f = true) : (putFact f).length ≤ 184 := by
  obtain ⟨h1, h2, h3, h4⟩ := plainFt_parts h
  have a := flat_len f.1 putP 48 (fun p hp => putP_len (h3 p hp))
  have b := flat_len f.2 putInt 10 (fun n _ => putInt_le n)
  have c := putInt_le (f.1.length : Int)
  have d := putInt_le (f.2.length : Int)
  unfold putFact putM
  simp only [List.length_append]
  omega
theorem putFacts_len {l : List FactX} (hl : l.length ≤ 10) (h : ∀ f ∈ l, plainFt f = true) : (putFacts l).length ≤ 1850 := by
  have a := flat_len l putFact 184 (fun f hf => putFact_len (h f hf))
  have c := putInt_le (l.length : Int)
  unfold putFacts
  simp only [List.length_append]
  omega
end Go.Proofs.YtkgifbnkkmeoiaaGreatDoor
/- Rows of one's own, of lists of texts that were handed in. -/
namespace Go.Proofs.YtkgifbnkkmeoiaaGreatDoor
open Go.ChangeShapes Go.WideShapes Go.ChangeAt Go.RowKit
set_option linter.unusedVariables false
set_option linter.unusedSimpArgs false

/-- A row of one's own, from base on; its lists lie below B. -/
def RowP (w : World) (base B : Nat) (out : Value) (M : List (List ByteArray)) : Prop :=
  ∃ vs : List Value, vs.length = M.length ∧ w.ownsRow base 129 1 out M.length vs ∧ ∀ j, j < M.length → rdStrs w B [vs.getD j undef] (M.getD j [])
theorem RowP.nil_ (w : World) (base B : Nat) : RowP w base B (.slice none 0 0) [] := ⟨[], rfl, World.ownsRow_nil _ _ _ _, fun j hj => by simp at hj⟩
theorem RowP.kept {w w' : World} {base B : Nat} {out : Value} {M : List (List ByteArray)} (h : RowP w base B out M) (hb : Below B w w') (k : ∀ g, out.ownBlock = some g → w'.heap[g]? = w.heap[g]?) : RowP w' base B out M := by
  obtain ⟨vs, h1, h2, h3⟩ := h
  exact ⟨vs, h1, own_kept h2 k, fun j hj => good_strs.stays (h3 j hj) hb⟩
theorem RowP.lt {w : World} {base B : Nat} {out : Value} {M : List (List ByteArray)} (h : RowP w base B out M) : ∀ g, out.ownBlock = some g → base ≤ g ∧ g < w.heap.size := by
  obtain ⟨vs, h1, h2, h3⟩ := h
  exact h2.lt
theorem RowP.app {w w' : World} {base B : Nat} {v' u : Value} {M : List (List ByteArray)} {vs : List Value} {x : List ByteArray} (h1 : vs.length = M.length) (h3 : ∀ j, j < M.length → rdStrs w B [vs.getD j undef] (M.getD j []))
    (hu : rdStrs w B [u] x) (hb : Below B w w') (ho : w'.ownsRow base 129 1 v' (M.length + 1) (vs ++ [u])) : RowP w' base B v' (M ++ [x]) := by
  refine ⟨vs ++ [u], by simp [h1], by rw [List.length_append]; exact ho, fun j hj => ?_⟩
  rw [List.length_append] at hj
  rcases Nat.lt_or_ge j M.length with hlt | hge
  · rw [List.getD_eq_getElem?_getD, List.getElem?_append_left (by omega), ← List.getD_eq_getElem?_getD, List.getD_eq_getElem?_getD (l := M ++ [x]), List.getElem?_append_left hlt, ← List.getD_eq_getElem?_getD]
    exact good_strs.stays (h3 j hlt) hb
  · obtain rfl : j = M.length := by simp at hj; omega
    rw [List.getD_eq_getElem?_getD, List.getElem?_append_right (by omega), List.getD_eq_getElem?_getD (l := M ++ [x]), List.getElem?_append_right (by omega), h1, Nat.sub_self]
    exact good_strs.stays hu hb
theorem RowP.rows {w : World} {base B N : Nat} {out : Value} {M : List (List ByteArray)} (h : RowP w base B out M) (hB : B ≤ N) (hN : w.heap.size ≤ N) : rdSlice 1 rdStrs w N [out] M := by
  obtain ⟨vs, h1, h2, h3⟩ := h
  obtain ⟨A, c, rfl, g1, g2, g3⟩ := own_cells h2
  refine ⟨A, c, rfl, g1, g2, fun h0 => ?_⟩
  obtain ⟨g, rfl, -, hg, -⟩ := g3 h0
  refine ⟨g, 0, rfl, by omega, fun i x hx => ?_⟩
  have hil := (List.getElem?_eq_some_iff.1 hx).1
  have hgd : M.getD i [] = x := by rw [List.getD_eq_getElem?_getD, hx]; rfl
  have hc2 := h2.cellAt (g := g) i (by omega)
  refine ⟨[vs.getD i undef], rfl, fun j u hu => ?_, ?_⟩
  · cases j with
    | succ j => simp at hu
    | zero =>
      simp at hu; subst hu
      rw [Nat.mul_one, Nat.add_zero, Nat.zero_add, hc2, List.getElem?_eq_getElem (show i < vs.length by omega)]; rfl
  · have := h3 i hil
    rw [hgd] at this
    exact good_strs.more this hB
theorem RowP.less {w : World} {base base' B : Nat} {out : Value} {M : List (List ByteArray)} (h : RowP w base B out M) (hb : base' ≤ base) : RowP w base' B out M := by
  obtain ⟨vs, h1, ⟨h2, h2'⟩, h3⟩ := h
  refine ⟨vs, h1, ⟨h2, ?_⟩, h3⟩
  rcases h2' with h2' | ⟨g, cap, cur, rfl, hbg, r⟩
  · exact .inl h2'
  · exact .inr ⟨g, cap, cur, rfl, by omega, r⟩
end Go.Proofs.YtkgifbnkkmeoiaaGreatDoor
