/- 4 texts of this claim, in build order. -/
import Derived.Test.YtclhnnidbhchnaaPlamdoeic
import Derived.Deep.Slices
import Derived.Deep.Fields
import Derived.ChangeSame
import Derived.Test.YtclhnnidbhchnaaPipilkmim
import Derived.Test.YtclhnnidbhchnaaPbfcailpg
import Derived.Test.YtclhnnidbhchnaaPgmfaoheo
import Derived.Test.YtclhnnidbhchnaaPlknfmgpc
/- What values read as: numbers, texts, slices of anything, structs; how an argument is opened to its reading, whatever its type. -/
namespace Go.Proofs.Ytclhnnidbhchnaa
open Go.ChangeShapes Go.WideShapes Go.ChangeAt Go.RowKit Go.WideMaps Go.WideElems Go.Joins Go.Deep
set_option linter.unusedVariables false

/-- A reading: in the world, with all its memory below B, the cells read as x. -/
abbrev Rd (α : Type) := World → Nat → List Value → α → Prop
structure Good {α : Type} (R : Rd α) : Prop where
  stays : ∀ {w w' : World} {B : Nat} {cs : List Value} {x : α}, R w B cs x → Below B w w' → R w' B cs x
  more : ∀ {w : World} {B B' : Nat} {cs : List Value} {x : α}, R w B cs x → B ≤ B' → R w B' cs x
def InI64 (n : Int) : Prop := -9223372036854775808 ≤ n ∧ n ≤ 9223372036854775807
def rdInt : Rd Int := fun _ _ cs n => cs = [.int .i64 n] ∧ InI64 n
def rdByte : Rd UInt8 := fun _ _ cs c => cs = [.int .u8 (c.toNat : Int)]
def rdBool : Rd Bool := fun _ _ cs b => cs = [.bool b]
def rdStr : Rd ByteArray := fun _ _ cs s => cs = [.string s] ∧ s.size ≤ maxLen
def rdSlice {α : Type} (k : Nat) (R : Rd α) : Rd (List α) := fun w B cs l =>
  ∃ A c, cs = [.slice A l.length c] ∧ l.length ≤ c ∧ c ≤ maxLen ∧
    (0 < l.length → ∃ b off, A = some ⟨b, off, none⟩ ∧ b < B ∧ ∀ i x, l[i]? = some x → ∃ es : List Value, es.length = k ∧ (∀ j u, es[j]? = some u → w.cell? ⟨b, off + i * k + j, none⟩ = some u) ∧ R w B es x)
def rdPair {α β : Type} (k : Nat) (R : Rd α) (S : Rd β) : Rd (α × β) := fun w B cs x => (cs.take k).length = k ∧ R w B (cs.take k) x.1 ∧ S w B (cs.drop k) x.2
theorem good_int : Good rdInt := ⟨fun h _ => h, fun h _ => h⟩
theorem good_byte : Good rdByte := ⟨fun h _ => h, fun h _ => h⟩
theorem good_bool : Good rdBool := ⟨fun h _ => h, fun h _ => h⟩
theorem good_str : Good rdStr := ⟨fun h _ => h, fun h _ => h⟩
theorem good_pair {α β : Type} {k : Nat} {R : Rd α} {S : Rd β} (h1 : Good R) (h2 : Good S) : Good (rdPair k R S) :=
  ⟨fun h hb => ⟨h.1, h1.stays h.2.1 hb, h2.stays h.2.2 hb⟩, fun h hb => ⟨h.1, h1.more h.2.1 hb, h2.more h.2.2 hb⟩⟩
theorem good_slice {α : Type} {k : Nat} {R : Rd α} (h1 : Good R) : Good (rdSlice k R) := by
  constructor
  · rintro w w' B cs l ⟨A, c, e1, e2, e3, e4⟩ hb
    refine ⟨A, c, e1, e2, e3, fun h0 => ?_⟩
    obtain ⟨b, off, e5, e6, e7⟩ := e4 h0
    refine ⟨b, off, e5, e6, fun i x hx => ?_⟩
    obtain ⟨es, g1, g2, g3⟩ := e7 i x hx
    exact ⟨es, g1, fun j u hj => cellK hb e6 (g2 j u hj), h1.stays g3 hb⟩
  · rintro w B B' cs l ⟨A, c, e1, e2, e3, e4⟩ hb
    refine ⟨A, c, e1, e2, e3, fun h0 => ?_⟩
    obtain ⟨b, off, e5, e6, e7⟩ := e4 h0
    refine ⟨b, off, e5, by omega, fun i x hx => ?_⟩
    obtain ⟨es, g1, g2, g3⟩ := e7 i x hx
    exact ⟨es, g1, g2, h1.more g3 hb⟩

section
variable {P : Program}
/-- Whatever of type t was handed in reads by R; it has k cells. -/
def Opens {α : Type} (P : Program) (t : TypeId) (k : Nat) (R : Rd α) : Prop :=
  P.cellsOf t = k ∧ ∀ (H : Type) (enc : TypeId × Value → H) (W : World) (fuel : Nat) (cs : List Value) (x : DataW H × List MemPlace), DataW.trod enc P W 0 (fun _ => true) true fuel t cs = some x → ∃ d : α, R W W.heap.size cs d
theorem opens_int {t : TypeId} (ht : P.underlying t = some (.int .i64)) (hk : P.cellsOf t = 1) : Opens P t 1 rdInt := by
  refine ⟨hk, fun H enc W fuel cs x h => ?_⟩
  obtain ⟨n, e1, -, e2⟩ := DataW.trod_int ht h
  exact ⟨n, e1, bounds_i64 e2⟩
theorem opens_byte {t : TypeId} (ht : P.underlying t = some (.int .u8)) (hk : P.cellsOf t = 1) : Opens P t 1 rdByte := by
  refine ⟨hk, fun H enc W fuel cs x h => ?_⟩
  obtain ⟨n, e1, -, e2⟩ := DataW.trod_int ht h
  simp [Lit.wf, IntKind.min, IntKind.max, IntKind.signed, IntKind.bits] at e2
  refine ⟨UInt8.ofNat n.toNat, ?_⟩
  show cs = [.int .u8 _]
  rw [e1, UInt8.toNat_ofNat']
  congr 2
  omega
theorem opens_bool {t : TypeId} (ht : P.underlying t = some .bool) (hk : P.cellsOf t = 1) : Opens P t 1 rdBool := by
  refine ⟨hk, fun H enc W fuel cs x h => ?_⟩
  obtain ⟨b, e1, -⟩ := DataW.trod_bool ht h
  exact ⟨b, e1⟩
theorem opens_str {t : TypeId} (ht : P.underlying t = some .string) (hk : P.cellsOf t = 1) : Opens P t 1 rdStr := by
  refine ⟨hk, fun H enc W fuel cs x h => ?_⟩
  obtain ⟨s, e1, -, e2⟩ := DataW.trod_string ht h
  exact ⟨s, e1, e2⟩
theorem choose_list {α : Type} (Q : Nat → α → Prop) (n : Nat) (h : ∀ i, i < n → ∃ x, Q i x) : ∃ l : List α, l.length = n ∧ ∀ i x, l[i]? = some x → Q i x := by
  induction n with
  | zero => exact ⟨[], rfl, by simp⟩
  | succ n ih =>
    obtain ⟨l, e1, e2⟩ := ih (fun i hi => h i (by omega))
    obtain ⟨x, hx⟩ := h n (by omega)
    refine ⟨l ++ [x], by simp [e1], fun i y hy => ?_⟩
    rcases Nat.lt_or_ge i n with hi | hi
    · rw [List.getElem?_append_left (by omega)] at hy; exact e2 i y hy
    · rw [List.getElem?_append_right (by omega)] at hy
      have : i - l.length = 0 := by
        rcases Nat.eq_zero_or_pos (i - l.length) with h | h
        · exact h
        · rw [List.getElem?_eq_none (by simp; omega)] at hy; cases hy
      rw [this] at hy
      simp at hy
      obtain rfl : i = n := by omega
      exact hy ▸ hx
theorem opens_slice {α : Type} {k : Nat} {R : Rd α} {t e : TypeId} (hg : Good R) (ht : P.underlying t = some (.slice e)) (he : Opens P e k R) (hk : P.cellsOf t = 1) (hk0 : 0 < k) : Opens P t 1 (rdSlice k R) := by
  refine ⟨hk, fun H enc W fuel cs x h => ?_⟩
  obtain ⟨hke, he⟩ := he
  rcases open_slice ht h with ⟨rfl, _⟩ | ⟨a, len, cap, m, n, D, Pl, rfl, hb, hl, hm, hmm, hx, hi⟩
  · exact ⟨[], none, 0, rfl, by simp, by simp [maxLen], by simp⟩
  · simp only [if_true] at hmm
    subst hmm
    rw [hke] at hi
    obtain ⟨l, e1, e2⟩ := choose_list (fun i (x : α) => ∃ es : List Value, es.length = k ∧ (∀ j u, es[j]? = some u → W.cell? (a.add (i * k + j)) = some u) ∧ R W W.heap.size es x) len (fun i hil => by
      obtain ⟨cs', g1, g2⟩ := hi i (by omega)
      obtain ⟨_, g3, g4⟩ := World.cells?_some g1
      obtain ⟨d, hd⟩ := he _ _ _ _ _ _ g2
      refine ⟨d, cs', g3, fun j u hj => ?_, hd⟩
      have hj' : j < k := by have := (List.getElem?_eq_some_iff.1 hj).1; omega
      rw [← add_add, g4 j hj', hj])
    refine ⟨l, some a, m, by rw [e1], by omega, hm, fun h0 => ?_⟩
    obtain ⟨es0, q1, q2, q3⟩ := e2 0 (l[0]'h0) (List.getElem?_eq_getElem h0)
    have h00 := q2 0 (es0[0]'(by omega)) (List.getElem?_eq_getElem (by omega))
    simp only [Nat.zero_mul, Nat.zero_add] at h00
    have ha0 : a.add 0 = a := by simp [Addr.add]
    rw [ha0] at h00
    have ha := addr_of_cell h00
    refine ⟨a.block, a.off, congrArg some ha, World.block_lt_of_cell? W a h00, fun i x hx => ?_⟩
    obtain ⟨es, q1, q2, q3⟩ := e2 i x hx
    refine ⟨es, q1, fun j u hj => ?_, q3⟩
    have := q2 j u hj
    rw [ha, add_eq, ← Nat.add_assoc] at this
    exact this
/-- A struct's fields from offset o on. -/
def OpensF {α : Type} (P : Program) (fs : List Field) (o k : Nat) (R : Rd α) : Prop :=
  ∀ (H : Type) (enc : TypeId × Value → H) (W : World) (n : Nat) (cs : List Value) (xs : List (DataW H × List MemPlace)), xs.length = fs.length →
    (∀ (i : Nat) (f : Field), fs[i]? = some f → DataW.trod enc P W 0 (fun _ => true) true n f.type ((cs.drop f.offset).take (P.cellsOf f.type)) = xs[i]?) → cs.length = o + k → ∃ d : α, R W W.heap.size (cs.drop o) d
theorem opensF_one {α : Type} {f : Field} {o k : Nat} {R : Rd α} (ho : f.offset = o) (h : Opens P f.type k R) : OpensF P [f] o k R := by
  intro H enc W n cs xs hl hx hcs
  match xs, hl with
  | [x], _ =>
    have := hx 0 f rfl
    rw [ho, h.1, List.take_of_length_le (by rw [List.length_drop]; omega)] at this
    exact h.2 _ _ _ _ _ _ this
theorem opensF_cons {α β : Type} {f : Field} {fs : List Field} {o k1 k2 : Nat} {R : Rd α} {S : Rd β} (ho : f.offset = o) (h : Opens P f.type k1 R) (hs : OpensF P fs (o + k1) k2 S) : OpensF P (f :: fs) o (k1 + k2) (rdPair k1 R S) := by
  intro H enc W n cs xs hl hx hcs
  match xs, hl with
  | x :: xs, hl =>
    have h0 := hx 0 f rfl
    rw [ho, h.1] at h0
    obtain ⟨d, hd⟩ := h.2 _ _ _ _ _ _ h0
    obtain ⟨e, he⟩ := hs H enc W n cs xs (by simpa using hl) (fun i g hg => hx (i + 1) g (by simpa using hg)) (by omega)
    refine ⟨(d, e), ?_, hd, ?_⟩
    · rw [List.length_take, List.length_drop]; omega
    · rw [List.drop_drop]; exact he
theorem opens_struct {α : Type} {t : TypeId} {fs : Array Field} {k : Nat} {R : Rd α} (ht : P.underlying t = some (.struct fs)) (hk : P.cellsOf t = k) (h : OpensF P fs.toList 0 k R) : Opens P t k R := by
  refine ⟨hk, fun H enc W fuel cs x hx => ?_⟩
  obtain ⟨xs, n, _, _, hc, hl, hf⟩ := DataW.trod_struct ht hx
  have := h H enc W n cs xs (by simpa using hl) (fun i f hi => hf i f (by simpa using hi)) (by omega)
  simpa using this

variable {H : Type} {enc : TypeId × Value → H}
/-- An argument that is a slice. -/
theorem open_read_slice {α : Type} {k : Nat} {R : Rd α} {W : World} {t e : TypeId} {v : Value} {d : DataW H} {ps : List MemPlace} (ht : P.underlying t = some (.slice e)) (ho : Opens P t 1 (rdSlice k R))
    (hv : Value.okWide P W .any 0 t v) (h : DataW.Trod enc P W 0 (fun _ => true) true t v d ps) : ∃ l : List α, rdSlice k R W W.heap.size [v] l := by
  obtain ⟨a0, len, cap, rfl⟩ := okWide_slice ht hv
  obtain ⟨fuel, hf⟩ := h
  exact ho.2 _ _ _ _ _ _ hf
/-- An argument that is a struct. -/
theorem open_read_struct {α : Type} {k : Nat} {R : Rd α} {W : World} {t : TypeId} {fs : Array Field} {v : Value} {d : DataW H} {ps : List MemPlace} (ht : P.underlying t = some (.struct fs)) (ho : Opens P t k R)
    (hv : Value.okWide P W .any 0 t v) (h : DataW.Trod enc P W 0 (fun _ => true) true t v d ps) : ∃ (cs : Array Value) (x : α), v = .agg cs ∧ cs.size = k ∧ R W W.heap.size cs.toList x := by
  obtain ⟨cs, rfl, hsz⟩ := okWide_struct ht hv
  obtain ⟨fuel, hf⟩ := h
  obtain ⟨x, hx⟩ := ho.2 _ _ _ _ _ _ hf
  exact ⟨cs, x, rfl, hsz.trans ho.1, hx⟩
end
/-- The element at a place of a slice. -/
theorem rdSlice.at_ {α : Type} {k : Nat} {R : Rd α} {w : World} {B n c : Nat} {A : Option Addr} {l : List α} (h : rdSlice k R w B [.slice A n c] l) {i : Nat} (hi : i < l.length) :
    ∃ b off, A = some ⟨b, off, none⟩ ∧ b < B ∧ ∃ es : List Value, es.length = k ∧ (∀ j u, es[j]? = some u → w.cell? ⟨b, off + i * k + j, none⟩ = some u) ∧ R w B es l[i] := by
  obtain ⟨A', c', e1, e2, e3, e4⟩ := h
  injection e1 with e1 _
  injection e1 with e1 _ _
  subst e1
  obtain ⟨b, off, e5, e6, e7⟩ := e4 (by omega)
  obtain ⟨es, g1, g2, g3⟩ := e7 i l[i] (List.getElem?_eq_getElem hi)
  exact ⟨b, off, e5, e6, es, g1, g2, g3⟩
theorem rdSlice.form {α : Type} {k : Nat} {R : Rd α} {w : World} {B : Nat} {v : Value} {l : List α} (h : rdSlice k R w B [v] l) : ∃ A c, v = .slice A l.length c ∧ l.length ≤ c ∧ c ≤ maxLen := by
  obtain ⟨A, c, e1, e2, e3, -⟩ := h
  injection e1 with e1 _
  exact ⟨A, c, e1, e2, e3⟩
/-- A slice of one-cell elements, as a list of values. -/
theorem rdSlice.sl {α : Type} {R : Rd α} {w : World} {B : Nat} {v : Value} {l : List α} (f : α → Value) (hf : ∀ es x, R w B es x → es = [f x]) (h : rdSlice 1 R w B [v] l) : Sl w B v (l.map f) := by
  obtain ⟨A, c, e1, e2, e3, e4⟩ := h
  injection e1 with e1 _
  refine ⟨A, c, by rw [List.length_map]; exact e1, by rw [List.length_map]; exact e2, e3, fun h0 => ?_⟩
  rw [List.length_map] at h0
  obtain ⟨b, off, e5, e6, e7⟩ := e4 h0
  refine ⟨b, off, e5, e6, fun j u hu => ?_⟩
  rw [List.getElem?_map, Option.map_eq_some_iff] at hu
  obtain ⟨x, hx, rfl⟩ := hu
  obtain ⟨es, g1, g2, g3⟩ := e7 j x hx
  rw [hf es x g3] at g2
  have := g2 0 _ rfl
  simpa using this
end Go.Proofs.Ytclhnnidbhchnaa
/- Plain laws on numbers as bytes: what is put is got again, a part of it is too short, no other bytes say the same number, lesser numbers have no more bytes. -/
namespace Go.Proofs.Ytclhnnidbhchnaa

theorem ofNat_toNat (u : Nat) (h : u < 256) : (UInt8.ofNat u).toNat = u := by
  rw [UInt8.toNat_ofNat']; omega
theorem pow7 (i : Nat) : 2 ^ (7 * (i + 1)) = 128 * 2 ^ (7 * i) := by
  rw [Nat.mul_add, Nat.pow_add, Nat.mul_comm]
theorem split7 (x u i : Nat) : x + u % 128 * 2 ^ (7 * i) + u / 128 * 2 ^ (7 * (i + 1)) = x + u * 2 ^ (7 * i) := by
  have e : u * 2 ^ (7 * i) = u % 128 * 2 ^ (7 * i) + u / 128 * (128 * 2 ^ (7 * i)) := by
    rw [← Nat.mul_assoc, ← Nat.add_mul]; congr 1; omega
  rw [pow7, e]; omega
theorem next7 {u i : Nat} (h : u * 2 ^ (7 * i) < 18446744073709551616) : u / 128 * 2 ^ (7 * (i + 1)) < 18446744073709551616 := by
  have e : u * 2 ^ (7 * i) = u % 128 * 2 ^ (7 * i) + u / 128 * (128 * 2 ^ (7 * i)) := by
    rw [← Nat.mul_assoc, ← Nat.add_mul]; congr 1; omega
  rw [pow7]; omega
theorem nine_small {u i : Nat} (h : u * 2 ^ (7 * i) < 18446744073709551616) (hi : i = 9) : u ≤ 1 := by
  subst hi
  have : (2 : Nat) ^ (7 * 9) = 9223372036854775808 := by decide
  rw [this] at h; omega
theorem getF_putF (f u i x : Nat) (rest : List UInt8) (hf : f + i = 9) (hb : u * 2 ^ (7 * i) < 18446744073709551616) (h0 : 0 < i → 0 < u) :
    getF (putF f u ++ rest) i x = (numOf (x + u * 2 ^ (7 * i)), ((i + (putF f u).length : Nat) : Int), 0) := by
  induction f generalizing u i x with
  | zero =>
    have h1 := nine_small hb (by omega)
    have h2 := h0 (by omega)
    simp only [putF, List.cons_append, List.nil_append, getF, ofNat_toNat u (by omega)]
    rw [if_neg (by omega), if_neg (by omega), if_neg (by omega)]
    simp
  | succ f ih =>
    simp only [putF]
    by_cases hu : u < 128
    · rw [if_pos hu]
      simp only [List.cons_append, List.nil_append, getF, ofNat_toNat u (by omega)]
      rw [if_neg (by omega), if_neg (by omega), if_neg (by omega)]
      simp
    · rw [if_neg hu]
      simp only [List.cons_append, getF, ofNat_toNat (u % 128 + 128) (by omega)]
      rw [if_neg (by omega), if_pos (by omega), ih (u / 128) (i + 1) _ (by omega) (next7 hb) (by omega)]
      rw [show (u % 128 + 128) % 128 = u % 128 by omega, split7]
      simp; omega
theorem getF_cut (f u i x k : Nat) (hf : f + i = 9) (hb : u * 2 ^ (7 * i) < 18446744073709551616) (h0 : 0 < i → 0 < u) (hk : k < (putF f u).length) :
    getF ((putF f u).take k) i x = (0, 0, 3) := by
  induction f generalizing u i x k with
  | zero =>
    simp only [putF, List.length_singleton] at hk
    obtain rfl : k = 0 := by omega
    simp [getF]
  | succ f ih =>
    cases k with
    | zero => simp [getF]
    | succ k =>
      simp only [putF] at hk ⊢
      by_cases hu : u < 128
      · rw [if_pos hu] at hk; simp at hk
      · rw [if_neg hu] at hk ⊢
        simp only [List.take_succ_cons, getF, ofNat_toNat (u % 128 + 128) (by omega)]
        rw [if_neg (by omega), if_pos (by omega)]
        exact ih (u / 128) (i + 1) _ k (by omega) (next7 hb) (by omega) (by simpa using hk)
theorem numOf_numU (n : Int) : numOf (numU n) = n := by
  unfold numOf numU; split <;> split <;> omega
theorem numU_numOf (u : Nat) : numU (numOf u) = u := by
  unfold numOf numU; split <;> split <;> omega
theorem numOf_range (u : Nat) (h : u < 18446744073709551616) : -9223372036854775808 ≤ numOf u ∧ numOf u ≤ 9223372036854775807 := by
  unfold numOf; split <;> omega
/-- What is put is got again. -/
theorem getInt_putInt (n : Int) (h1 : -9223372036854775808 ≤ n) (h2 : n ≤ 9223372036854775807) (rest : List UInt8) :
    getInt (putInt n ++ rest) = (n, ((putInt n).length : Int), 0) := by
  have := getF_putF 9 (numU n) 0 0 rest rfl (by have := numU_lt n h1 h2; simpa using this) (by omega)
  simp only [Nat.mul_zero, Nat.pow_zero, Nat.mul_one, Nat.zero_add, numOf_numU] at this
  exact this
/-- A part is too short. -/
theorem getInt_cut (n : Int) (h1 : -9223372036854775808 ≤ n) (h2 : n ≤ 9223372036854775807) (k : Nat) (hk : k < (putInt n).length) :
    getInt ((putInt n).take k) = (0, 0, 3) :=
  getF_cut 9 (numU n) 0 0 k rfl (by have := numU_lt n h1 h2; simpa using this) (by omega) hk
theorem toNat_eq_ofNat (c : UInt8) (u : Nat) (h : c.toNat = u) : c = UInt8.ofNat u := by
  rw [← h, UInt8.ofNat_toNat]
theorem getF_ok (l : List UInt8) (i x : Nat) (n k : Int) (hi : i ≤ 9) (h : getF l i x = (n, k, 0)) :
    ∃ u m : Nat, k = ((i + m : Nat) : Int) ∧ 0 < m ∧ m ≤ l.length ∧ l.take m = putF (9 - i) u ∧ n = numOf (x + u * 2 ^ (7 * i)) ∧ (0 < i → 0 < u) ∧ (i = 9 → u ≤ 1) ∧ u < 128 ^ m := by
  induction l generalizing i x with
  | nil => simp [getF] at h
  | cons c l ih =>
    have hc : c.toNat < 256 := UInt8.toNat_lt _
    simp only [getF] at h
    by_cases h9 : i = 9 ∧ 1 < c.toNat
    · rw [if_pos h9] at h; simp at h
    · rw [if_neg h9] at h
      by_cases h128 : 128 ≤ c.toNat
      · rw [if_pos h128] at h
        obtain ⟨u, m, h3, h4, h5, h6, h7, h8, h10, h11⟩ := ih (i + 1) _ (by omega) h
        have hu := h8 (by omega)
        refine ⟨c.toNat % 128 + 128 * u, m + 1, by rw [h3]; omega, by omega, by simp; omega, ?_, ?_, by omega, by omega, ?_⟩
        · rw [List.take_succ_cons, h6, show 9 - i = (9 - (i + 1)) + 1 by omega, putF, if_neg (by omega)]
          congr 1
          · apply toNat_eq_ofNat; omega
          · congr 1; omega
        · rw [h7]; congr 1
          have := split7 x (c.toNat % 128 + 128 * u) i
          rw [show (c.toNat % 128 + 128 * u) % 128 = c.toNat % 128 by omega, show (c.toNat % 128 + 128 * u) / 128 = u by omega] at this
          exact this
        · rw [Nat.pow_succ]; omega
      · rw [if_neg h128] at h
        by_cases hz : c.toNat = 0 ∧ 0 < i
        · rw [if_pos hz] at h; simp at h
        · rw [if_neg hz] at h
          injection h with h1 h2
          injection h2 with h2 _
          refine ⟨c.toNat, 1, by rw [← h2]; omega, by omega, by simp, ?_, h1.symm, by omega, by omega, by omega⟩
          rw [List.take_succ_cons, List.take_zero]
          have e : putF (9 - i) c.toNat = [UInt8.ofNat c.toNat] := by
            cases 9 - i <;> simp [putF]
            omega
          rw [e, UInt8.ofNat_toNat]
/-- Bytes that begin with a number begin with just what is put for it. -/
theorem getInt_ok (l : List UInt8) (n k : Int) (h : getInt l = (n, k, 0)) : ∃ m : Nat, k = (m : Int) ∧ 0 < m ∧ m ≤ l.length ∧ l.take m = putInt n := by
  obtain ⟨u, m, h1, h2, h3, h4, h5, _⟩ := getF_ok l 0 0 n k (by omega) h
  refine ⟨m, by rw [h1]; simp, h2, h3, ?_⟩
  rw [h4, h5]
  simp only [Nat.mul_zero, Nat.pow_zero, Nat.mul_one, Nat.zero_add]
  unfold putInt; rw [numU_numOf]
theorem putF_mono (f u v : Nat) (h : u / 2 ≤ v / 2) : (putF f u).length ≤ (putF f v).length := by
  induction f generalizing u v with
  | zero => simp [putF]
  | succ f ih =>
    simp only [putF]
    by_cases hv : v < 128
    · rw [if_pos hv, if_pos (by omega : u < 128)]; simp
    · rw [if_neg hv]
      by_cases hu : u < 128
      · rw [if_pos hu]; have := putF_pos f (v / 128); simp
      · rw [if_neg hu]; simp only [List.length_cons]; have := ih (u / 128) (v / 128) (by omega); omega
/-- A number of lesser size has no more bytes. -/
theorem putInt_mono (a b : Int) (h : (if a < 0 then -(a + 1) else a) ≤ (if b < 0 then -(b + 1) else b)) : (putInt a).length ≤ (putInt b).length := by
  apply putF_mono
  unfold numU
  by_cases ha : a < 0 <;> by_cases hb : b < 0 <;> simp only [ha, hb, if_true, if_false] at h ⊢ <;> omega
/-- The bytes, by their places: T is the last one's. -/
def refF : Nat → Nat → List UInt8
  | 0, u => [UInt8.ofNat u]
  | T + 1, u => UInt8.ofNat (u % 128 + 128) :: refF T (u / 128)
theorem putF_ref (T f u : Nat) (hT : T ≤ f) (h1 : T = 0 ∨ 128 ^ T ≤ u) (h2 : u < 128 ^ (T + 1)) : putF f u = refF T u := by
  induction T generalizing f u with
  | zero => cases f <;> simp [putF, refF]; intro h; omega
  | succ T ih =>
    obtain ⟨f, rfl⟩ : ∃ g, f = g + 1 := ⟨f - 1, by omega⟩
    have hp : 0 < 128 ^ T := Nat.pow_pos (by omega)
    rw [Nat.pow_succ] at h1
    have h128 : ¬ u < 128 := by omega
    rw [Nat.pow_succ, Nat.mul_comm] at h2
    simp only [putF, refF, if_neg h128]
    rw [ih f (u / 128) (by omega) (by right; omega) (Nat.div_lt_of_lt_mul h2)]
end Go.Proofs.Ytclhnnidbhchnaa
/- Bytes that are put, one behind the other. -/
namespace Go.Proofs.Ytclhnnidbhchnaa
open Go.ChangeShapes Go.WideShapes Go.ChangeAt Go.RowKit
set_option linter.unusedVariables false

theorem flat_len {α : Type} (l : List α) (f : α → List UInt8) (m : Nat) (h : ∀ x ∈ l, (f x).length ≤ m) : (l.flatMap f).length ≤ m * l.length := by
  induction l with
  | nil => simp
  | cons x l ih =>
    have h1 := h x List.mem_cons_self
    have h2 := ih (fun y hy => h y (List.mem_cons_of_mem _ hy))
    rw [List.flatMap_cons, List.length_append, List.length_cons, Nat.mul_succ]
    omega
theorem flat_drop {α : Type} {l : List α} {k : Nat} (hk : k < l.length) (f : α → List UInt8) : (l.drop k).flatMap f = f l[k] ++ (l.drop (k + 1)).flatMap f := by
  rw [List.drop_eq_getElem_cons hk, List.flatMap_cons]
theorem flat_done {α : Type} {l : List α} (f : α → List UInt8) : (l.drop l.length).flatMap f = [] := by simp
/-- Bytes of the call's own. -/
def Own8 (w : World) (base : Nat) (v : Value) (l : List UInt8) : Prop := w.ownsRow base 5 1 v l.length (bvals l)
theorem Own8.less {w : World} {base base' : Nat} {v : Value} {l : List UInt8} (h : Own8 w base v l) (hb : base' ≤ base) : Own8 w base' v l := by
  obtain ⟨h1, h2⟩ := h
  refine ⟨h1, ?_⟩
  rcases h2 with h2 | ⟨g, cap, cur, rfl, hbg, r⟩
  · exact .inl h2
  · exact .inr ⟨g, cap, cur, rfl, by omega, r⟩
theorem Own8.on {w w' : World} {base : Nat} {v : Value} {l : List UInt8} (h : Own8 w base v l) (hb : Below w.heap.size w w') : Own8 w' base v l := own_kept h (fun g hg => hb.block g (own_lt h g hg).2)
theorem Own8.sl {w : World} {base : Nat} {v : Value} {l : List UInt8} (h : Own8 w base v l) : Sl w w.heap.size v (bvals l) := Sl.of_own h
theorem Own8.form {w : World} {base : Nat} {v : Value} {l : List UInt8} (h : Own8 w base v l) : ∃ A c, v = .slice A l.length c := by
  rcases h.2 with ⟨rfl, h0⟩ | ⟨g, cap, cur, rfl, _⟩
  · exact ⟨none, 0, by rw [h0]⟩
  · exact ⟨_, _, rfl⟩
def Put8 (l : List UInt8) (w : World) (e : Ending) (w' : World) : Prop := ∃ v, e = .returned v ∧ Own8 w' w.heap.size v l ∧ Below w.heap.size w w'
theorem putI8 (v : Value) (l : List UInt8) (n : Int) (w : World) (hv : Sl w w.heap.size v (bvals l)) (hl : l.length ≤ 100000) (hn : InI64 n) :
    Calls Try.prog 57 #[v, .int .i64 n] w (Put8 (l ++ putInt n) w) := by
  unfold InI64 at hn
  refine (putInt_any v l n w hv (by omega) (by omega) (by omega)).mono ?_
  rintro e w' ⟨v', rfl, h, hb⟩
  exact ⟨v', rfl, by unfold Own8; rw [List.length_append]; exact h, hb⟩
end Go.Proofs.Ytclhnnidbhchnaa
/- A cuboid as bytes, plainly. -/
namespace Go.Proofs.Ytclhnnidbhchnaa
open Go.ChangeShapes Go.WideShapes Go.ChangeAt Go.RowKit Go.Maps
set_option linter.unusedVariables false
set_option linter.unusedSimpArgs false

def putI3 (c : CellM) (i : Nat) : List UInt8 := putInt (c.s.getD i 0) ++ (putInt (c.lo.getD i 0) ++ putInt (c.hi.getD i 0))
def putCell (c : CellM) : List UInt8 := putInt c.n ++ (List.range c.s.length).flatMap (putI3 c)
def putKC (x : KC) : List UInt8 := x.1.flatMap putInt ++ putCell x.2
def putCub (L : List KC) : List UInt8 := putInt L.length ++ L.flatMap putKC
theorem putKC_len {W M : Nat} {x : KC} (h1 : x.1.length = W) (hW : W ≤ 3) (h2 : x.2.s.length = M) (hM : M ≤ 2) : (putKC x).length ≤ 100 := by
  have a := flat_len x.1 putInt 10 (fun y _ => putInt_le y)
  have b := flat_len (List.range x.2.s.length) (putI3 x.2) 30 (fun y _ => by
    have h1 := putInt_le (x.2.s.getD y 0); have h2 := putInt_le (x.2.lo.getD y 0); have h3 := putInt_le (x.2.hi.getD y 0)
    unfold putI3
    rw [List.length_append, List.length_append]; omega)
  have c := putInt_le x.2.n
  rw [List.length_range] at b
  unfold putKC putCell
  rw [List.length_append, List.length_append]
  omega
theorem putKCs_len {W M : Nat} {L : List KC} (hs : OkL W M L) (hW : W ≤ 3) (hM : M ≤ 2) : (L.flatMap putKC).length ≤ 100 * L.length :=
  flat_len L putKC 100 (fun x hx => putKC_len (hs.key x hx).1 hW (hs.len x hx) hM)
theorem OkL.take {W M : Nat} {L : List KC} (h : OkL W M L) (k : Nat) : OkL W M (L.take k) :=
  ⟨h.sort.sublist (List.take_sublist k L), fun x hx => h.key x (List.mem_of_mem_take hx), fun x hx => h.may x (List.mem_of_mem_take hx), fun x hx => h.full x (List.mem_of_mem_take hx), fun x hx => h.len x (List.mem_of_mem_take hx)⟩
theorem flat_takeK {L : List KC} {k : Nat} (hk : k < L.length) : (L.take (k + 1)).flatMap putKC = (L.take k).flatMap putKC ++ putKC (L.getD k zK) := by
  rw [take_succ_zK hk, List.flatMap_append]; simp
theorem cell_i64 {c : CellM} (h : MayP c) (h0 : c.n ≠ 0) : InI64 c.n ∧ ∀ i, i < c.s.length → InI64 (c.s.getD i 0) ∧ InI64 (c.lo.getD i 0) ∧ InI64 (c.hi.getD i 0) := by
  obtain ⟨a, b⟩ := may_full h h0
  unfold CNT at a
  unfold InI64
  refine ⟨by omega, fun i hi => ?_⟩
  have := b i hi
  unfold CellM.col colP VAL SUM at this
  omega
/-- What is put so far, and what is still to be put, are all (the bytes lie from H on). -/
def PqH {α : Type} (H : Nat) (W0 : World) (T : List UInt8) (xs : List α) (f : α → List UInt8) (b i : Value) (wr : World) : Prop :=
  ∃ k : Nat, k ≤ xs.length ∧ i = .int .i64 k ∧ ∃ acc, Own8 wr H b acc ∧ acc ++ (xs.drop k).flatMap f = T ∧ Below W0.heap.size W0 wr
theorem pqh_step {α : Type} {T acc : List UInt8} {xs : List α} {f : α → List UInt8} {k : Nat} (hk : k < xs.length) (h : acc ++ (xs.drop k).flatMap f = T) : (acc ++ f xs[k]) ++ (xs.drop (k + 1)).flatMap f = T := by
  rw [flat_drop hk] at h
  rw [← h]
  simp only [List.append_assoc]
theorem pqh_end {α : Type} {T acc : List UInt8} {xs : List α} {f : α → List UInt8} (h : acc ++ (xs.drop xs.length).flatMap f = T) : acc = T := by
  rw [flat_done, List.append_nil] at h
  exact h
theorem pqh_len {a b T : List UInt8} {n : Nat} (h : a ++ b = T) (hT : T.length ≤ n) : a.length ≤ n := by
  have := congrArg List.length h
  rw [List.length_append] at this
  omega
/-- `m[k]`. -/
theorem MapK.look1 {w : World} {E : Nat → Prop} {m W : Nat} {L : List KC} (h : MapK w E m W L) {k : List Int} (hk : okK W k) :
    ∃ v, (Instr.lookup 92 (.map (some m)) (keyT k) false).run Try.prog w = .ok v w ∧ CellE w E v (getC L k) := by
  obtain ⟨D, h1, h2, h3, h4, h5⟩ := h
  obtain ⟨v, ps, hrun, hR⟩ := h1.lookup key_law Try.underlying92 (zero_cellM w) (show heldR _ = some (.held _, []) from rfl) (key_of_k hk)
  refine ⟨v, hrun, ?_⟩
  have hv : DataW.held v = D.atKey (keyLk k) (.held (.agg #[.int .i64 0, .slice none 0 0, .slice none 0 0, .slice none 0 0])) := by
    unfold heldR at hR
    simpa using congrArg Prod.fst (Option.some.inj hR)
  cases hg : getK L k with
  | none =>
    rw [Maps.atKey_of_not_has (by rw [h3 k hk, hg]; rfl)] at hv
    injection hv with hv
    subst hv
    unfold getC; rw [hg]; exact CellE.nil_
  | some c =>
    obtain ⟨u, hu, hce⟩ := h4 _ (getK_mem hg)
    rw [hu] at hv
    injection hv with hv
    subst hv
    unfold getC; rw [hg]; exact hce
theorem getC_mem {L : List KC} {W M : Nat} (hs : OkL W M L) {x : KC} (hx : x ∈ L) : getC L x.1 = x.2 := by
  unfold getC; rw [getK_of_mem hs.sort hx]; rfl
end Go.Proofs.Ytclhnnidbhchnaa
