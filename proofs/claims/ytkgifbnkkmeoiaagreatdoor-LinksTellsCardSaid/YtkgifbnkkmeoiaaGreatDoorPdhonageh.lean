/- 2 texts of this claim, in build order. -/
import Derived.Test.YtkgifbnkkmeoiaaGreatDoorPmadegoli
import Derived.Deep.Slices
import Derived.Deep.Fields
import Derived.ChangeSame
/- What values read as: numbers, texts, slices of anything, structs; how an argument is opened to its reading, whatever its type. -/
namespace Go.Proofs.YtkgifbnkkmeoiaaGreatDoor
open Go.ChangeShapes Go.WideShapes Go.ChangeAt Go.RowKit Go.WideMaps Go.WideElems Go.Joins Go.Deep
set_option linter.unusedVariables false

/-- A reading: in the world, with all its memory below B, the cells read as x. -/
abbrev Rd (α : Type) := World → Nat → List Value → α → Prop
structure Good {α : Type} (R : Rd α) : Prop where
  stays : ∀ {w w' : World} {B : Nat} {cs : List Value} {x : α}, R w B cs x → Below B w w' → R w' B cs x
  more : ∀ {w : World} {B B' : Nat} {cs : List Value} {x : α}, R w B cs x → B ≤ B' → R w B' cs x
def InI64 (n : Int) : Prop := -9223372036854775808 ≤ n ∧ n ≤ 9223372036854775807
def rdInt : Rd Int := fun _ _ cs n => cs = [.int .i64 n] ∧ InI64 n
def rdByte : Rd UInt8 := fun _ _ cs c => cs = [.int .u8 (c.toNat : Int)]
def rdBool : Rd Bool := fun _ _ cs b => cs = [.bool b]
def rdStr : Rd ByteArray := fun _ _ cs s => cs = [.string s] ∧ s.size ≤ maxLen
def rdSlice {α : Type} (k : Nat) (R : Rd α) : Rd (List α) := fun w B cs l =>
  ∃ A c, cs = [.slice A l.length c] ∧ l.length ≤ c ∧ c ≤ maxLen ∧
    (0 < l.length → ∃ b off, A = some ⟨b, off, none⟩ ∧ b < B ∧ ∀ i x, l[i]? = some x → ∃ es : List Value, es.length = k ∧ (∀ j u, es[j]? = some u → w.cell? ⟨b, off + i * k + j, none⟩ = some u) ∧ R w B es x)
def rdPair {α β : Type} (k : Nat) (R : Rd α) (S : Rd β) : Rd (α × β) := fun w B cs x => (cs.take k).length = k ∧ R w B (cs.take k) x.1 ∧ S w B (cs.drop k) x.2
theorem good_int : Good rdInt := ⟨fun h _ => h, fun h _ => h⟩
theorem good_byte : Good rdByte := ⟨fun h _ => h, fun h _ => h⟩
theorem good_bool : Good rdBool := ⟨fun h _ => h, fun h _ => h⟩
theorem good_str : Good rdStr := ⟨fun h _ => h, fun h _ => h⟩
theorem good_pair {α β : Type} {k : Nat} {R : Rd α} {S : Rd β} (h1 : Good R) (h2 : Good S) : Good (rdPair k R S) :=
  ⟨fun h hb => ⟨h.1, h1.stays h.2.1 hb, h2.stays h.2.2 hb⟩, fun h hb => ⟨h.1, h1.more h.2.1 hb, h2.more h.2.2 hb⟩⟩
theorem good_slice {α : Type} {k : Nat} {R : Rd α} (h1 : Good R) : Good (rdSlice k R) := by
  constructor
  · rintro w w' B cs l ⟨A, c, e1, e2, e3, e4⟩ hb
    refine ⟨A, c, e1, e2, e3, fun h0 => ?_⟩
    obtain ⟨b, off, e5, e6, e7⟩ := e4 h0
    refine ⟨b, off, e5, e6, fun i x hx => ?_⟩
    obtain ⟨es, g1, g2, g3⟩ := e7 i x hx
    exact ⟨es, g1, fun j u hj => cellK hb e6 (g2 j u hj), h1.stays g3 hb⟩
  · rintro w B B' cs l ⟨A, c, e1, e2, e3, e4⟩ hb
    refine ⟨A, c, e1, e2, e3, fun h0 => ?_⟩
    obtain ⟨b, off, e5, e6, e7⟩ := e4 h0
    refine ⟨b, off, e5, by omega, fun i x hx => ?_⟩
    obtain ⟨es, g1, g2, g3⟩ := e7 i x hx
    exact ⟨es, g1, g2, h1.more g3 hb⟩

section
variable {P : Program}
/-- Whatever of type t was handed in reads by R; it has k cells. -/
def Opens {α : Type} (P : Program) (t : TypeId) (k : Nat) (R : Rd α) : Prop :=
  P.cellsOf t = k ∧ ∀ (H : Type) (enc : TypeId × Value → H) (W : World) (fuel : Nat) (cs : List Value) (x : DataW H × List MemPlace), DataW.trod enc P W 0 (fun _ => true) true fuel t cs = some x → ∃ d : α, R W W.heap.size cs d
theorem opens_int {t : TypeId} (ht : P.underlying t = some (.int .i64)) (hk : P.cellsOf t = 1) : Opens P t 1 rdInt := by
  refine ⟨hk, fun H enc W fuel cs x h => ?_⟩
  obtain ⟨n, e1, -, e2⟩ := DataW.trod_int ht h
  exact ⟨n, e1, bounds_i64 e2⟩
theorem opens_byte {t : TypeId} (ht : P.underlying t = some (.int .u8)) (hk : P.cellsOf t = 1) : Opens P t 1 rdByte := by
  refine ⟨hk, fun H enc W fuel cs x h => ?_⟩
  obtain ⟨n, e1, -, e2⟩ := DataW.trod_int ht h
  simp [Lit.wf, IntKind.min, IntKind.max, IntKind.signed, IntKind.bits] at e2
  refine ⟨UInt8.ofNat n.toNat, ?_⟩
  show cs = [.int .u8 _]
  rw [e1, UInt8.toNat_ofNat']
  congr 2
  omega
theorem opens_bool {t : TypeId} (ht : P.underlying t = some .bool) (hk : P.cellsOf t = 1) : Opens P t 1 rdBool := by
  refine ⟨hk, fun H enc W fuel cs x h => ?_⟩
  obtain ⟨b, e1, -⟩ := DataW.trod_bool ht h
  exact ⟨b, e1⟩
theorem opens_str {t : TypeId} (ht : P.underlying t = some .string) (hk : P.cellsOf t = 1) : Opens P t 1 rdStr := by
  refine ⟨hk, fun H enc W fuel cs x h => ?_⟩
  obtain ⟨s, e1, -, e2⟩ := DataW.trod_string ht h
  exact ⟨s, e1, e2⟩
theorem choose_list {α : Type} (Q : Nat → α → Prop) (n : Nat) (h : ∀ i, i < n → ∃ x, Q i x) : ∃ l : List α, l.length = n ∧ ∀ i x, l[i]? = some x → Q i x := by
  induction n with
  | zero => exact ⟨[], rfl, by simp⟩
  | succ n ih =>
    obtain ⟨l, e1, e2⟩ := ih (fun i hi => h i (by omega))
    obtain ⟨x, hx⟩ := h n (by omega)
    refine ⟨l ++ [x], by simp [e1], fun i y hy => ?_⟩
    rcases Nat.lt_or_ge i n with hi | hi
    · rw [List.getElem?_append_left (by omega)] at hy; exact e2 i y hy
    · rw [List.getElem?_append_right (by omega)] at hy
      have : i - l.length = 0 := by
        rcases Nat.eq_zero_or_pos (i - l.length) with h | h
        · exact h
        · rw [List.getElem?_eq_none (by simp; omega)] at hy; cases hy
      rw [this] at hy
      simp at hy
      obtain rfl : i = n := by omega
      exact hy ▸ hx
theorem opens_slice {α : Type} {k : Nat} {R : Rd α} {t e : TypeId} (hg : Good R) (ht : P.underlying t = some (.slice e)) (he : Opens P e k R) (hk : P.cellsOf t = 1) (hk0 : 0 < k) : Opens P t 1 (rdSlice k R) := by
  refine ⟨hk, fun H enc W fuel cs x h => ?_⟩
  obtain ⟨hke, he⟩ := he
  rcases open_slice ht h with ⟨rfl, _⟩ | ⟨a, len, cap, m, n, D, Pl, rfl, hb, hl, hm, hmm, hx, hi⟩
  · exact ⟨[], none, 0, rfl, by simp, by simp [maxLen], by simp⟩
  · simp only [if_true] at hmm
    subst hmm
    rw [hke] at hi
    obtain ⟨l, e1, e2⟩ := choose_list (fun i (x : α) => ∃ es : List Value, es.length = k ∧ (∀ j u, es[j]? = some u → W.cell? (a.add (i * k + j)) = some u) ∧ R W W.heap.size es x) len (fun i hil => by
      obtain ⟨cs', g1, g2⟩ := hi i (by omega)
      obtain ⟨_, g3, g4⟩ := World.cells?_some g1
      obtain ⟨d, hd⟩ := he _ _ _ _ _ _ g2
      refine ⟨d, cs', g3, fun j u hj => ?_, hd⟩
      have hj' : j < k := by have := (List.getElem?_eq_some_iff.1 hj).1; omega
      rw [← add_add, g4 j hj', hj])
    refine ⟨l, some a, m, by rw [e1], by omega, hm, fun h0 => ?_⟩
    obtain ⟨es0, q1, q2, q3⟩ := e2 0 (l[0]'h0) (List.getElem?_eq_getElem h0)
    have h00 := q2 0 (es0[0]'(by omega)) (List.getElem?_eq_getElem (by omega))
    simp only [Nat.zero_mul, Nat.zero_add] at h00
    have ha0 : a.add 0 = a := by simp [Addr.add]
    rw [ha0] at h00
    have ha := addr_of_cell h00
    refine ⟨a.block, a.off, congrArg some ha, World.block_lt_of_cell? W a h00, fun i x hx => ?_⟩
    obtain ⟨es, q1, q2, q3⟩ := e2 i x hx
    refine ⟨es, q1, fun j u hj => ?_, q3⟩
    have := q2 j u hj
    rw [ha, add_eq, ← Nat.add_assoc] at this
    exact this
/-- A struct's fields from offset o on. -/
def OpensF {α : Type} (P : Program) (fs : List Field) (o k : Nat) (R : Rd α) : Prop :=
  ∀ (H : Type) (enc : TypeId × Value → H) (W : World) (n : Nat) (cs : List Value) (xs : List (DataW H × List MemPlace)), xs.length = fs.length →
    (∀ (i : Nat) (f : Field), fs[i]? = some f → DataW.trod enc P W 0 (fun _ => true) true n f.type ((cs.drop f.offset).take (P.cellsOf f.type)) = xs[i]?) → cs.length = o + k → ∃ d : α, R W W.heap.size (cs.drop o) d
theorem opensF_one {α : Type} {f : Field} {o k : Nat} {R : Rd α} (ho : f.offset = o) (h : Opens P f.type k R) : OpensF P [f] o k R := by
  intro H enc W n cs xs hl hx hcs
  match xs, hl with
  | [x], _ =>
    have := hx 0 f rfl
    rw [ho, h.1, List.take_of_length_le (by rw [List.length_drop]; omega)] at this
    exact h.2 _ _ _ _ _ _ this
theorem opensF_cons {α β : Type} {f : Field} {fs : List Field} {o k1 k2 : Nat} {R : Rd α} {S : Rd β} (ho : f.offset = o) (h : Opens P f.type k1 R) (hs : OpensF P fs (o + k1) k2 S) : OpensF P (f :: fs) o (k1 + k2) (rdPair k1 R S) := by
  intro H enc W n cs xs hl hx hcs
  match xs, hl with
  | x :: xs, hl =>
    have h0 := hx 0 f rfl
    rw [ho, h.1] at h0
    obtain ⟨d, hd⟩ := h.2 _ _ _ _ _ _ h0
    obtain ⟨e, he⟩ := hs H enc W n cs xs (by simpa using hl) (fun i g hg => hx (i + 1) g (by simpa using hg)) (by omega)
    refine ⟨(d, e), ?_, hd, ?_⟩
    · rw [List.length_take, List.length_drop]; omega
    · rw [List.drop_drop]; exact he
theorem opens_struct {α : Type} {t : TypeId} {fs : Array Field} {k : Nat} {R : Rd α} (ht : P.underlying t = some (.struct fs)) (hk : P.cellsOf t = k) (h : OpensF P fs.toList 0 k R) : Opens P t k R := by
  refine ⟨hk, fun H enc W fuel cs x hx => ?_⟩
  obtain ⟨xs, n, _, _, hc, hl, hf⟩ := DataW.trod_struct ht hx
  have := h H enc W n cs xs (by simpa using hl) (fun i f hi => hf i f (by simpa using hi)) (by omega)
  simpa using this

variable {H : Type} {enc : TypeId × Value → H}
/-- An argument that is a slice. -/
theorem open_read_slice {α : Type} {k : Nat} {R : Rd α} {W : World} {t e : TypeId} {v : Value} {d : DataW H} {ps : List MemPlace} (ht : P.underlying t = some (.slice e)) (ho : Opens P t 1 (rdSlice k R))
    (hv : Value.okWide P W .any 0 t v) (h : DataW.Trod enc P W 0 (fun _ => true) true t v d ps) : ∃ l : List α, rdSlice k R W W.heap.size [v] l := by
  obtain ⟨a0, len, cap, rfl⟩ := okWide_slice ht hv
  obtain ⟨fuel, hf⟩ := h
  exact ho.2 _ _ _ _ _ _ hf
/-- An argument that is a struct. -/
theorem open_read_struct {α : Type} {k : Nat} {R : Rd α} {W : World} {t : TypeId} {fs : Array Field} {v : Value} {d : DataW H} {ps : List MemPlace} (ht : P.underlying t = some (.struct fs)) (ho : Opens P t k R)
    (hv : Value.okWide P W .any 0 t v) (h : DataW.Trod enc P W 0 (fun _ => true) true t v d ps) : ∃ (cs : Array Value) (x : α), v = .agg cs ∧ cs.size = k ∧ R W W.heap.size cs.toList x := by
  obtain ⟨cs, rfl, hsz⟩ := okWide_struct ht hv
  obtain ⟨fuel, hf⟩ := h
  obtain ⟨x, hx⟩ := ho.2 _ _ _ _ _ _ hf
  exact ⟨cs, x, rfl, hsz.trans ho.1, hx⟩
end
/-- The element at a place of a slice. -/
theorem rdSlice.at_ {α : Type} {k : Nat} {R : Rd α} {w : World} {B n c : Nat} {A : Option Addr} {l : List α} (h : rdSlice k R w B [.slice A n c] l) {i : Nat} (hi : i < l.length) :
    ∃ b off, A = some ⟨b, off, none⟩ ∧ b < B ∧ ∃ es : List Value, es.length = k ∧ (∀ j u, es[j]? = some u → w.cell? ⟨b, off + i * k + j, none⟩ = some u) ∧ R w B es l[i] := by
  obtain ⟨A', c', e1, e2, e3, e4⟩ := h
  injection e1 with e1 _
  injection e1 with e1 _ _
  subst e1
  obtain ⟨b, off, e5, e6, e7⟩ := e4 (by omega)
  obtain ⟨es, g1, g2, g3⟩ := e7 i l[i] (List.getElem?_eq_getElem hi)
  exact ⟨b, off, e5, e6, es, g1, g2, g3⟩
theorem rdSlice.form {α : Type} {k : Nat} {R : Rd α} {w : World} {B : Nat} {v : Value} {l : List α} (h : rdSlice k R w B [v] l) : ∃ A c, v = .slice A l.length c ∧ l.length ≤ c ∧ c ≤ maxLen := by
  obtain ⟨A, c, e1, e2, e3, -⟩ := h
  injection e1 with e1 _
  exact ⟨A, c, e1, e2, e3⟩
/-- A slice of one-cell elements, as a list of values. -/
theorem rdSlice.sl {α : Type} {R : Rd α} {w : World} {B : Nat} {v : Value} {l : List α} (f : α → Value) (hf : ∀ es x, R w B es x → es = [f x]) (h : rdSlice 1 R w B [v] l) : Sl w B v (l.map f) := by
  obtain ⟨A, c, e1, e2, e3, e4⟩ := h
  injection e1 with e1 _
  refine ⟨A, c, by rw [List.length_map]; exact e1, by rw [List.length_map]; exact e2, e3, fun h0 => ?_⟩
  rw [List.length_map] at h0
  obtain ⟨b, off, e5, e6, e7⟩ := e4 h0
  refine ⟨b, off, e5, e6, fun j u hu => ?_⟩
  rw [List.getElem?_map, Option.map_eq_some_iff] at hu
  obtain ⟨x, hx, rfl⟩ := hu
  obtain ⟨es, g1, g2, g3⟩ := e7 j x hx
  rw [hf es x g3] at g2
  have := g2 0 _ rfl
  simpa using this
end Go.Proofs.YtkgifbnkkmeoiaaGreatDoor
/- Small facts on memory: what a call gives, new blocks, stores. -/
namespace Go.Proofs.YtkgifbnkkmeoiaaGreatDoor
open Go.ChangeShapes Go.WideShapes Go.ChangeAt Go.RowKit
set_option linter.unusedVariables false

def Gives (v : Value) (w : World) (e : Ending) (w' : World) : Prop := e = .returned v ∧ Below w.heap.size w w'
theorem bl1 (w : World) (o : Obj) : Below w.heap.size w (w.alloc o) := (Below.refl _ _).alloc (Nat.le_refl _) o
theorem cell_alloc {w : World} {o : Obj} {b i : Nat} {v : Value} (hb : b < w.heap.size) (h : w.cell? ⟨b, i, none⟩ = some v) : (w.alloc o).cell? ⟨b, i, none⟩ = some v := by
  rw [World.cell?_alloc_past _ _ _ hb]; exact h
theorem frozen_alloc {w : World} {o : Obj} {b i : Nat} {v : Bool} (hb : b < w.heap.size) (h : w.frozen? ⟨b, i, none⟩ = v) : (w.alloc o).frozen? ⟨b, i, none⟩ = v := by
  rw [World.frozen?_alloc_past _ _ _ hb]; exact h
theorem cell_far {w : World} {B i b j : Nat} {u v : Value} (hne : B ≠ b) (h : w.cell? ⟨b, j, none⟩ = some v) : (w.setCell ⟨B, i, none⟩ u).cell? ⟨b, j, none⟩ = some v := by
  rw [World.cell?_setCell_other _ _ _ _ (fun e => hne (by injection e))]; exact h
theorem cell_here {w : World} {b j : Nat} {u v : Value} (h : w.cell? ⟨b, j, none⟩ = some v) : (w.setCell ⟨b, j, none⟩ u).cell? ⟨b, j, none⟩ = some u := World.cell?_setCell_same _ _ _ h
theorem cell_beside {w : World} {b i j : Nat} {u v : Value} (hne : i ≠ j) (h : w.cell? ⟨b, j, none⟩ = some v) : (w.setCell ⟨b, i, none⟩ u).cell? ⟨b, j, none⟩ = some v := by
  rw [World.cell?_setCell_other _ _ _ _ (fun e => hne (by injection e))]; exact h
theorem frozen_far {w : World} {B i b j : Nat} {u : Value} {v : Bool} (h : w.frozen? ⟨b, j, none⟩ = v) : (w.setCell ⟨B, i, none⟩ u).frozen? ⟨b, j, none⟩ = v := by
  rw [World.frozen?_setCell]; exact h
theorem lt_alloc {w : World} {o : Obj} {b : Nat} (hb : b < w.heap.size) : b < (w.alloc o).heap.size := by simp; omega
end Go.Proofs.YtkgifbnkkmeoiaaGreatDoor
