/- 2 texts of this claim, in build order. -/
import Derived.Test.YtgoapnkdcfcjgaaGreatPlhikkigo
import Derived.Deep.Slices
import Derived.Deep.Fields
import Derived.ChangeSame
import Derived.Test.YtgoapnkdcfcjgaaGreatPacmmcljk
import Derived.Laws.RangeString
import Derived.Laws.RangeAny
/- What values read as: numbers, texts, slices of anything, structs; how an argument is opened to its reading, whatever its type. -/
namespace Go.Proofs.YtgoapnkdcfcjgaaGreat
open Go.ChangeShapes Go.WideShapes Go.ChangeAt Go.RowKit Go.WideMaps Go.WideElems Go.Joins Go.Deep
set_option linter.unusedVariables false

/-- A reading: in the world, with all its memory below B, the cells read as x. -/
abbrev Rd (α : Type) := World → Nat → List Value → α → Prop
structure Good {α : Type} (R : Rd α) : Prop where
  stays : ∀ {w w' : World} {B : Nat} {cs : List Value} {x : α}, R w B cs x → Below B w w' → R w' B cs x
  more : ∀ {w : World} {B B' : Nat} {cs : List Value} {x : α}, R w B cs x → B ≤ B' → R w B' cs x
def InI64 (n : Int) : Prop := -9223372036854775808 ≤ n ∧ n ≤ 9223372036854775807
def rdInt : Rd Int := fun _ _ cs n => cs = [.int .i64 n] ∧ InI64 n
def rdStr : Rd ByteArray := fun _ _ cs s => cs = [.string s] ∧ s.size ≤ maxLen
def rdSlice {α : Type} (k : Nat) (R : Rd α) : Rd (List α) := fun w B cs l =>
  ∃ A c, cs = [.slice A l.length c] ∧ l.length ≤ c ∧ c ≤ maxLen ∧
    (0 < l.length → ∃ b off, A = some ⟨b, off, none⟩ ∧ b < B ∧ ∀ i x, l[i]? = some x → ∃ es : List Value, es.length = k ∧ (∀ j u, es[j]? = some u → w.cell? ⟨b, off + i * k + j, none⟩ = some u) ∧ R w B es x)
def rdPair {α β : Type} (k : Nat) (R : Rd α) (S : Rd β) : Rd (α × β) := fun w B cs x => (cs.take k).length = k ∧ R w B (cs.take k) x.1 ∧ S w B (cs.drop k) x.2
theorem good_int : Good rdInt := ⟨fun h _ => h, fun h _ => h⟩
theorem good_str : Good rdStr := ⟨fun h _ => h, fun h _ => h⟩
theorem good_pair {α β : Type} {k : Nat} {R : Rd α} {S : Rd β} (h1 : Good R) (h2 : Good S) : Good (rdPair k R S) :=
  ⟨fun h hb => ⟨h.1, h1.stays h.2.1 hb, h2.stays h.2.2 hb⟩, fun h hb => ⟨h.1, h1.more h.2.1 hb, h2.more h.2.2 hb⟩⟩
theorem good_slice {α : Type} {k : Nat} {R : Rd α} (h1 : Good R) : Good (rdSlice k R) := by
  constructor
  · rintro w w' B cs l ⟨A, c, e1, e2, e3, e4⟩ hb
    refine ⟨A, c, e1, e2, e3, fun h0 => ?_⟩
    obtain ⟨b, off, e5, e6, e7⟩ := e4 h0
    refine ⟨b, off, e5, e6, fun i x hx => ?_⟩
    obtain ⟨es, g1, g2, g3⟩ := e7 i x hx
    exact ⟨es, g1, fun j u hj => cellK hb e6 (g2 j u hj), h1.stays g3 hb⟩
  · rintro w B B' cs l ⟨A, c, e1, e2, e3, e4⟩ hb
    refine ⟨A, c, e1, e2, e3, fun h0 => ?_⟩
    obtain ⟨b, off, e5, e6, e7⟩ := e4 h0
    refine ⟨b, off, e5, by omega, fun i x hx => ?_⟩
    obtain ⟨es, g1, g2, g3⟩ := e7 i x hx
    exact ⟨es, g1, g2, h1.more g3 hb⟩

section
variable {P : Program}
/-- Whatever of type t was handed in reads by R; it has k cells. -/
def Opens {α : Type} (P : Program) (t : TypeId) (k : Nat) (R : Rd α) : Prop :=
  P.cellsOf t = k ∧ ∀ (H : Type) (enc : TypeId × Value → H) (W : World) (fuel : Nat) (cs : List Value) (x : DataW H × List MemPlace), DataW.trod enc P W 0 (fun _ => true) true fuel t cs = some x → ∃ d : α, R W W.heap.size cs d
theorem opens_int {t : TypeId} (ht : P.underlying t = some (.int .i64)) (hk : P.cellsOf t = 1) : Opens P t 1 rdInt := by
  refine ⟨hk, fun H enc W fuel cs x h => ?_⟩
  obtain ⟨n, e1, -, e2⟩ := DataW.trod_int ht h
  exact ⟨n, e1, bounds_i64 e2⟩
theorem opens_str {t : TypeId} (ht : P.underlying t = some .string) (hk : P.cellsOf t = 1) : Opens P t 1 rdStr := by
  refine ⟨hk, fun H enc W fuel cs x h => ?_⟩
  obtain ⟨s, e1, -, e2⟩ := DataW.trod_string ht h
  exact ⟨s, e1, e2⟩
theorem choose_list {α : Type} (Q : Nat → α → Prop) (n : Nat) (h : ∀ i, i < n → ∃ x, Q i x) : ∃ l : List α, l.length = n ∧ ∀ i x, l[i]? = some x → Q i x := by
  induction n with
  | zero => exact ⟨[], rfl, by simp⟩
  | succ n ih =>
    obtain ⟨l, e1, e2⟩ := ih (fun i hi => h i (by omega))
    obtain ⟨x, hx⟩ := h n (by omega)
    refine ⟨l ++ [x], by simp [e1], fun i y hy => ?_⟩
    rcases Nat.lt_or_ge i n with hi | hi
    · rw [List.getElem?_append_left (by omega)] at hy; exact e2 i y hy
    · rw [List.getElem?_append_right (by omega)] at hy
      have : i - l.length = 0 := by
        rcases Nat.eq_zero_or_pos (i - l.length) with h | h
        · exact h
        · rw [List.getElem?_eq_none (by simp; omega)] at hy; cases hy
      rw [this] at hy
      simp at hy
      obtain rfl : i = n := by omega
      exact hy ▸ hx
theorem opens_slice {α : Type} {k : Nat} {R : Rd α} {t e : TypeId} (hg : Good R) (ht : P.underlying t = some (.slice e)) (he : Opens P e k R) (hk : P.cellsOf t = 1) (hk0 : 0 < k) : Opens P t 1 (rdSlice k R) := by
  refine ⟨hk, fun H enc W fuel cs x h => ?_⟩
  obtain ⟨hke, he⟩ := he
  rcases open_slice ht h with ⟨rfl, _⟩ | ⟨a, len, cap, m, n, D, Pl, rfl, hb, hl, hm, hmm, hx, hi⟩
  · exact ⟨[], none, 0, rfl, by simp, by simp [maxLen], by simp⟩
  · simp only [if_true] at hmm
    subst hmm
    rw [hke] at hi
    obtain ⟨l, e1, e2⟩ := choose_list (fun i (x : α) => ∃ es : List Value, es.length = k ∧ (∀ j u, es[j]? = some u → W.cell? (a.add (i * k + j)) = some u) ∧ R W W.heap.size es x) len (fun i hil => by
      obtain ⟨cs', g1, g2⟩ := hi i (by omega)
      obtain ⟨_, g3, g4⟩ := World.cells?_some g1
      obtain ⟨d, hd⟩ := he _ _ _ _ _ _ g2
      refine ⟨d, cs', g3, fun j u hj => ?_, hd⟩
      have hj' : j < k := by have := (List.getElem?_eq_some_iff.1 hj).1; omega
      rw [← add_add, g4 j hj', hj])
    refine ⟨l, some a, m, by rw [e1], by omega, hm, fun h0 => ?_⟩
    obtain ⟨es0, q1, q2, q3⟩ := e2 0 (l[0]'h0) (List.getElem?_eq_getElem h0)
    have h00 := q2 0 (es0[0]'(by omega)) (List.getElem?_eq_getElem (by omega))
    simp only [Nat.zero_mul, Nat.zero_add] at h00
    have ha0 : a.add 0 = a := by simp [Addr.add]
    rw [ha0] at h00
    have ha := addr_of_cell h00
    refine ⟨a.block, a.off, congrArg some ha, World.block_lt_of_cell? W a h00, fun i x hx => ?_⟩
    obtain ⟨es, q1, q2, q3⟩ := e2 i x hx
    refine ⟨es, q1, fun j u hj => ?_, q3⟩
    have := q2 j u hj
    rw [ha, add_eq, ← Nat.add_assoc] at this
    exact this
/-- A struct's fields from offset o on. -/
def OpensF {α : Type} (P : Program) (fs : List Field) (o k : Nat) (R : Rd α) : Prop :=
  ∀ (H : Type) (enc : TypeId × Value → H) (W : World) (n : Nat) (cs : List Value) (xs : List (DataW H × List MemPlace)), xs.length = fs.length →
    (∀ (i : Nat) (f : Field), fs[i]? = some f → DataW.trod enc P W 0 (fun _ => true) true n f.type ((cs.drop f.offset).take (P.cellsOf f.type)) = xs[i]?) → cs.length = o + k → ∃ d : α, R W W.heap.size (cs.drop o) d
theorem opensF_one {α : Type} {f : Field} {o k : Nat} {R : Rd α} (ho : f.offset = o) (h : Opens P f.type k R) : OpensF P [f] o k R := by
  intro H enc W n cs xs hl hx hcs
  match xs, hl with
  | [x], _ =>
    have := hx 0 f rfl
    rw [ho, h.1, List.take_of_length_le (by rw [List.length_drop]; omega)] at this
    exact h.2 _ _ _ _ _ _ this
theorem opensF_cons {α β : Type} {f : Field} {fs : List Field} {o k1 k2 : Nat} {R : Rd α} {S : Rd β} (ho : f.offset = o) (h : Opens P f.type k1 R) (hs : OpensF P fs (o + k1) k2 S) : OpensF P (f :: fs) o (k1 + k2) (rdPair k1 R S) := by
  intro H enc W n cs xs hl hx hcs
  match xs, hl with
  | x :: xs, hl =>
    have h0 := hx 0 f rfl
    rw [ho, h.1] at h0
    obtain ⟨d, hd⟩ := h.2 _ _ _ _ _ _ h0
    obtain ⟨e, he⟩ := hs H enc W n cs xs (by simpa using hl) (fun i g hg => hx (i + 1) g (by simpa using hg)) (by omega)
    refine ⟨(d, e), ?_, hd, ?_⟩
    · rw [List.length_take, List.length_drop]; omega
    · rw [List.drop_drop]; exact he
theorem opens_struct {α : Type} {t : TypeId} {fs : Array Field} {k : Nat} {R : Rd α} (ht : P.underlying t = some (.struct fs)) (hk : P.cellsOf t = k) (h : OpensF P fs.toList 0 k R) : Opens P t k R := by
  refine ⟨hk, fun H enc W fuel cs x hx => ?_⟩
  obtain ⟨xs, n, _, _, hc, hl, hf⟩ := DataW.trod_struct ht hx
  have := h H enc W n cs xs (by simpa using hl) (fun i f hi => hf i f (by simpa using hi)) (by omega)
  simpa using this

variable {H : Type} {enc : TypeId × Value → H}
/-- An argument that is a struct. -/
theorem open_read_struct {α : Type} {k : Nat} {R : Rd α} {W : World} {t : TypeId} {fs : Array Field} {v : Value} {d : DataW H} {ps : List MemPlace} (ht : P.underlying t = some (.struct fs)) (ho : Opens P t k R)
    (hv : Value.okWide P W .any 0 t v) (h : DataW.Trod enc P W 0 (fun _ => true) true t v d ps) : ∃ (cs : Array Value) (x : α), v = .agg cs ∧ cs.size = k ∧ R W W.heap.size cs.toList x := by
  obtain ⟨cs, rfl, hsz⟩ := okWide_struct ht hv
  obtain ⟨fuel, hf⟩ := h
  obtain ⟨x, hx⟩ := ho.2 _ _ _ _ _ _ hf
  exact ⟨cs, x, rfl, hsz.trans ho.1, hx⟩
end
/-- The element at a place of a slice. -/
theorem rdSlice.at_ {α : Type} {k : Nat} {R : Rd α} {w : World} {B n c : Nat} {A : Option Addr} {l : List α} (h : rdSlice k R w B [.slice A n c] l) {i : Nat} (hi : i < l.length) :
    ∃ b off, A = some ⟨b, off, none⟩ ∧ b < B ∧ ∃ es : List Value, es.length = k ∧ (∀ j u, es[j]? = some u → w.cell? ⟨b, off + i * k + j, none⟩ = some u) ∧ R w B es l[i] := by
  obtain ⟨A', c', e1, e2, e3, e4⟩ := h
  injection e1 with e1 _
  injection e1 with e1 _ _
  subst e1
  obtain ⟨b, off, e5, e6, e7⟩ := e4 (by omega)
  obtain ⟨es, g1, g2, g3⟩ := e7 i l[i] (List.getElem?_eq_getElem hi)
  exact ⟨b, off, e5, e6, es, g1, g2, g3⟩
theorem rdSlice.form {α : Type} {k : Nat} {R : Rd α} {w : World} {B : Nat} {v : Value} {l : List α} (h : rdSlice k R w B [v] l) : ∃ A c, v = .slice A l.length c ∧ l.length ≤ c ∧ c ≤ maxLen := by
  obtain ⟨A, c, e1, e2, e3, -⟩ := h
  injection e1 with e1 _
  exact ⟨A, c, e1, e2, e3⟩
/-- A slice of one-cell elements, as a list of values. -/
theorem rdSlice.sl {α : Type} {R : Rd α} {w : World} {B : Nat} {v : Value} {l : List α} (f : α → Value) (hf : ∀ es x, R w B es x → es = [f x]) (h : rdSlice 1 R w B [v] l) : Sl w B v (l.map f) := by
  obtain ⟨A, c, e1, e2, e3, e4⟩ := h
  injection e1 with e1 _
  refine ⟨A, c, by rw [List.length_map]; exact e1, by rw [List.length_map]; exact e2, e3, fun h0 => ?_⟩
  rw [List.length_map] at h0
  obtain ⟨b, off, e5, e6, e7⟩ := e4 h0
  refine ⟨b, off, e5, e6, fun j u hu => ?_⟩
  rw [List.getElem?_map, Option.map_eq_some_iff] at hu
  obtain ⟨x, hx, rfl⟩ := hu
  obtain ⟨es, g1, g2, g3⟩ := e7 j x hx
  rw [hf es x g3] at g2
  have := g2 0 _ rfl
  simpa using this
end Go.Proofs.YtgoapnkdcfcjgaaGreat
/- Names: which texts are names (names.Name, the reference's Name), which lists of texts are paths (names.May, the reference's May), and the reference's Same of texts. -/
namespace Go.Proofs.YtgoapnkdcfcjgaaGreat
open Go.ChangeShapes Go.WideShapes Go.ChangeAt Go.RowKit
set_option linter.unusedVariables false

def okN (n : Nat) : Prop := (97 ≤ n ∧ n ≤ 122) ∨ (48 ≤ n ∧ n ≤ 57) ∨ n = 45 ∨ n = 95
instance (n : Nat) : Decidable (okN n) := by unfold okN; infer_instance
/-- A name: 1 to 12 signs, each a small letter, a digit, '-' or '_'. -/
def NameOk (s : ByteArray) : Prop := 1 ≤ s.size ∧ s.size ≤ 12 ∧ ∀ j (h : j < s.size), okN (s[j]'h).toNat
instance (s : ByteArray) : Decidable (NameOk s) := by unfold NameOk; infer_instance
def nameB (s : ByteArray) : Bool := decide (NameOk s)
theorem emp_dec (s : ByteArray) : s.toList.isEmpty = decide (s.size = 0) := by
  rw [ByteArray.toList_eq]
  show s.data.toList.isEmpty = decide (s.data.size = 0)
  cases h : s.data with | mk l => cases l <;> simp
def NameRel (s : ByteArray) (w wr : World) : Prop := ∃ pos : Nat, wr = w.iter s pos ∧ pos ≤ s.size ∧ ∀ j (h : j < s.size), j < pos → okN (s[j]'h).toNat
theorem name_no {s : ByteArray} {pos : Nat} (hp : pos < s.size) (h : ¬ okN (s[pos]'hp).toNat) : nameB s = false := by
  unfold nameB; rw [decide_eq_false_iff_not]; intro hn; exact h (hn.2.2 pos hp)
set_option maxHeartbeats 800000 in
theorem name_any (s : ByteArray) (w : World) (hs : s.size ≤ 9223372036854775807) :
    Calls Tryz.prog 88 #[.string s] w (Gives (.bool (nameB s)) w) := by
  go_enter Tryz.func88, Tryz.ntmps88
  go_wp2
  go_loopw [4] (fun _ wr => NameRel s w wr) (fun _ wr => s.size - wr.iterPos w.heap.size)
  case atStart => exact ⟨0, rfl, by omega, fun j h h' => by omega⟩
  case round =>
    obtain ⟨pos, rfl, hp, hok⟩ := hrel
    have HOK := hid hok; clear hok
    by_cases hlt : pos < s.size
    · have hno := fun h => name_no (s := s) hlt h
      have HNO := hid hno; clear hno
      by_cases ha : (s[pos]'hlt).toNat < 128
      · have hnx : ∀ ty, (Instr.next (.pointer (some ⟨w.heap.size, 0, none⟩)) true ty).run Tryz.prog (w.iter s pos) = _ := fun ty => run_next_ascii w s pos ty hlt ha
        generalize hn : (s[pos]'hlt).toNat = n at *
        have HN := hid hn; clear hn
        by_cases hok : okN n
        · have hok' := hok
          unfold okN at hok'
          have HO := hid hok; clear hok
          have hrel1 : NameRel s w (w.iter s (pos + 1)) := ⟨pos + 1, rfl, by omega, fun j h hj => by
            by_cases e : j = pos
            · subst e; rw [HN.out]; exact HO.out
            · exact HOK.out j h (by omega)⟩
          have HR := hid hrel1; clear hrel1
          rcases hok' with ⟨h1, h2⟩ | ⟨h1, h2⟩ | rfl | rfl
          all_goals
            go_wp2
            go_roundw
            case rel => exact HR.out
            case measure => simp; omega
        · have hno := HNO.out hok
          unfold okN at hok
          have HNB := hid hno
          have h45 : ((n : Int) == 45) = false := by rw [beq_eq_false_iff_ne]; omega
          have h95 : ((n : Int) == 95) = false := by rw [beq_eq_false_iff_ne]; omega
          have hcase : ((122 < n) ∨ (57 < n ∧ n < 97) ∨ (n < 48)) := by omega
          clear hno hok
          rcases hcase with h | ⟨h, h'⟩ | h
          all_goals
            go_wp2
            all_goals first | (go_ret; exact ⟨by rw [HNB.out]; rfl, (Below.refl _ _).alloc (Nat.le_refl _) _⟩) | (exfalso; rename_i hh; simp at hh; omega)
      · have hnx : ∀ ty, (Instr.next (.pointer (some ⟨w.heap.size, 0, none⟩)) true ty).run Tryz.prog (w.iter s pos) = _ := fun ty => run_next_any w s pos ty hlt
        have hd := (decode_high s pos hlt (by omega)).1
        have hle := decode_le s pos
        have hno := HNO.out (by unfold okN; omega)
        have HNB := hid hno; clear hno
        generalize Utf8.decode s pos = d at *
        obtain ⟨r, k⟩ := d
        simp only at hd hle hnx
        have h45 : ((r : Int) == 45) = false := by rw [beq_eq_false_iff_ne]; omega
        have h95 : ((r : Int) == 95) = false := by rw [beq_eq_false_iff_ne]; omega
        go_wp2
        all_goals first | (go_ret; exact ⟨by rw [HNB.out]; rfl, (Below.refl _ _).alloc (Nat.le_refl _) _⟩) | (exfalso; rename_i hh; simp at hh; omega)
    · have hnx : ∀ ty, (Instr.next (.pointer (some ⟨w.heap.size, 0, none⟩)) true ty).run Tryz.prog (w.iter s pos) = _ := fun ty => run_next_end w s pos ty hlt
      have hB : nameB s = decide (1 ≤ s.size ∧ s.size ≤ 12) := by
        unfold nameB; rw [decide_eq_decide]
        exact ⟨fun h => ⟨h.1, h.2.1⟩, fun h => ⟨h.1, h.2, fun j hj => HOK.out j hj (by omega)⟩⟩
      have HB := hid hB; clear hB
      have hemp := emp_dec s
      by_cases h1 : 1 ≤ s.size
      · have he : s.toList.isEmpty = false := by rw [hemp, decide_eq_false_iff_not]; omega
        clear hemp
        by_cases h12 : s.size ≤ 12
        · have hB : nameB s = true := by rw [HB.out, decide_eq_true_eq]; exact ⟨h1, h12⟩
          have HB2 := hid hB; clear hB
          have d1 : decide ((s.size : Int) ≤ 12) = true := by rw [decide_eq_true_eq]; omega
          go_wp2
          go_ret
          exact ⟨by rw [HB2.out]; rfl, (Below.refl _ _).alloc (Nat.le_refl _) _⟩
        · have hB : nameB s = false := by rw [HB.out, decide_eq_false_iff_not]; omega
          have HB2 := hid hB; clear hB
          have d1 : decide ((s.size : Int) ≤ 12) = false := by rw [decide_eq_false_iff_not]; omega
          go_wp2
          go_ret
          exact ⟨by rw [HB2.out]; rfl, (Below.refl _ _).alloc (Nat.le_refl _) _⟩
      · have he : s.toList.isEmpty = true := by rw [hemp, decide_eq_true_eq]; omega
        clear hemp
        have hB : nameB s = false := by rw [HB.out, decide_eq_false_iff_not]; omega
        have HB2 := hid hB; clear hB
        go_wp2
        go_ret
        exact ⟨by rw [HB2.out]; rfl, (Below.refl _ _).alloc (Nat.le_refl _) _⟩
def svals (p : List ByteArray) : List Value := p.map Value.string
theorem svals_len (p : List ByteArray) : (svals p).length = p.length := by simp [svals]
/-- Texts that Go can hold. -/
def StrOk (p : List ByteArray) : Prop := ∀ s ∈ p, s.size ≤ 9223372036854775807
theorem Sl.str {w : World} {B : Nat} {A : Option Addr} {p : List ByteArray} {k : Nat} (h : 0 < (svals p).length → ∃ b off, A = some ⟨b, off, none⟩ ∧ b < B ∧ ∀ j u, (svals p)[j]? = some u → w.cell? ⟨b, off + j, none⟩ = some u) (hk : k < p.length) :
    ∃ b off, A = some ⟨b, off, none⟩ ∧ b < B ∧ w.cell? ⟨b, off + k, none⟩ = some (.string p[k]) := by
  obtain ⟨b, off, e, hb, hc⟩ := h (by rw [svals_len]; omega)
  exact ⟨b, off, e, hb, hc k _ (by simp [svals, List.getElem?_eq_getElem hk])⟩
theorem nameNot_any (s : ByteArray) (w : World) (hs : s.size ≤ 9223372036854775807) :
    Calls Tryz.prog 120 #[.string s] w (Gives (.bool (!nameB s)) w) := by
  have hn := fun W => name_any s W hs
  have HN := hid hn; clear hn
  go_enter Tryz.func120, Tryz.ntmps120
  go_wp2_with fail
  refine (HN.out _).mono ?_
  rintro e w1 ⟨rfl, hb⟩
  go_wp2
  go_ret
  exact ⟨rfl, hb⟩
def mayB (p : List ByteArray) : Bool := decide (p.length ≤ 3) && p.all nameB
/-- The first text that is no name; none: below 0. -/
def IdxRel (p : List ByteArray) (w : World) (i : Value) (wr : World) : Prop := ∃ k : Nat, i = .int .i64 k ∧ k ≤ p.length ∧ (p.take k).all nameB = true ∧ Below w.heap.size w wr
def IdxPost (p : List ByteArray) (w : World) (e : Ending) (w' : World) : Prop := ∃ i : Int, e = .returned (.int .i64 i) ∧ (decide (0 ≤ i) = !p.all nameB) ∧ Below w.heap.size w w'
set_option maxHeartbeats 400000 in
theorem idxName_any (v : Value) (p : List ByteArray) (w : World) (hv : Sl w w.heap.size v (svals p)) (hs : StrOk p) (hl : p.length ≤ 9223372036854775807) :
    Calls Tryz.prog 121 #[v, .func (Fn.func 120) #[] #[]] w (IdxPost p w) := by
  obtain ⟨A, c, rfl, hc1, hc2, hA⟩ := hv
  simp only [svals_len] at hc1 ⊢
  have HA := hid hA; clear hA
  have HS := hid hs; clear hs
  go_enter Tryz.func121, Tryz.ntmps121
  go_wp2
  go_loopw [8] (fun i wr => IdxRel p w i wr) (fun i _ => p.length - (intOf i).toNat)
  case atStart => exact ⟨0, rfl, by omega, by simp, Below.refl _ _⟩
  case round =>
    obtain ⟨k, rfl, hk, hall, hb⟩ := hrel
    have HALL := hid hall; have HB := hid hb; clear hall hb
    by_cases hlt : k < p.length
    · obtain ⟨b, off, rfl, hbl, hcell⟩ := Sl.str HA.out hlt
      have hcell := cellK HB.out hbl hcell
      have hsz := HS.out _ (List.getElem_mem hlt)
      have e1 : (p.take (k + 1)).all nameB = ((p.take k).all nameB && nameB p[k]) := by
        rw [List.take_succ_eq_append_getElem hlt, List.all_append]; simp
      have e2 : nameB p[k] = false → p.all nameB = false := fun h => by
        rw [List.all_eq_false]; exact ⟨_, List.getElem_mem hlt, by rw [h]; simp⟩
      generalize p[k] = s at *
      have hn := fun W => nameNot_any s W hsz
      have HN := hid hn; have E1 := hid e1; have E2 := hid e2; clear hn e1 e2
      go_wp2_with fail
      refine (HN.out _).mono ?_
      rintro e w1 ⟨rfl, hb1⟩
      have HB1 := hid (HB.out.trans (hb1.mono HB.out.size)); clear hb1
      cases hnb : nameB s with
      | true =>
        have HNB := hid hnb; clear hnb
        simp only [Bool.not_true]
        go_wp2
        go_roundw
        case rel => exact ⟨k + 1, by go_num, by omega, by rw [E1.out, HALL.out, HNB.out]; rfl, HB1.out⟩
        case measure => simp [intOf]; omega
      | false =>
        have HNB := hid (E2.out hnb); clear hnb
        simp only [Bool.not_false]
        go_wp2
        go_ret
        exact ⟨(k : Int), rfl, by rw [HNB.out]; simp, HB1.out⟩
    · have hall : p.all nameB = true := by
        have := HALL.out
        rwa [List.take_of_length_le (by omega)] at this
      have HP := hid hall; clear hall
      go_wp2
      go_ret
      exact ⟨-1, rfl, by rw [HP.out]; decide, HB.out⟩
theorem hasName_any (v : Value) (p : List ByteArray) (w : World) (hv : Sl w w.heap.size v (svals p)) (hs : StrOk p) (hl : p.length ≤ 9223372036854775807) :
    Calls Tryz.prog 89 #[v, .func (Fn.func 120) #[] #[]] w (Gives (.bool (!p.all nameB)) w) := by
  have hi := idxName_any v p w hv hs hl
  have HI := hid hi; clear hi hv
  go_enter Tryz.func89, Tryz.ntmps89
  go_wp2_with fail
  refine HI.out.mono ?_
  rintro e w1 ⟨i, rfl, hi, hb⟩
  go_wp2
  go_ret
  exact ⟨rfl, hb⟩
set_option maxHeartbeats 400000 in
theorem mayN_any (v : Value) (p : List ByteArray) (w : World) (hv : Sl w w.heap.size v (svals p)) (hs : StrOk p) (hl : p.length ≤ 9223372036854775807) :
    Calls Tryz.prog 84 #[v] w (Gives (.bool (mayB p)) w) := by
  have hi := hasName_any v p w hv hs hl
  obtain ⟨A, c, rfl, hc1, hc2, hA⟩ := hv
  simp only [svals_len] at hc1 hi ⊢
  clear hA
  by_cases h3 : p.length ≤ 3
  · have hm : mayB p = p.all nameB := by unfold mayB; rw [decide_eq_true h3]; rfl
    rw [hm]
    have HI := hid hi; clear hi hm
    have d1 : decide ((p.length : Int) ≤ 3) = true := by rw [decide_eq_true_eq]; omega
    go_enter Tryz.func84, Tryz.ntmps84
    go_wp2_with fail
    refine HI.out.mono ?_
    rintro e w1 ⟨rfl, hb⟩
    go_wp2
    go_ret
    exact ⟨by simp, hb⟩
  · have hm : mayB p = false := by unfold mayB; rw [decide_eq_false h3]; rfl
    have HM := hid hm; clear hm hi
    have d1 : decide ((p.length : Int) ≤ 3) = false := by rw [decide_eq_false_iff_not]; omega
    go_enter Tryz.func84, Tryz.ntmps84
    go_wp2
    go_ret
    exact ⟨by rw [HM.out]; rfl, Below.refl _ _⟩
theorem str_beq (p q : ByteArray) : (p.toList == q.toList) = decide (p = q) := by
  rw [Bool.eq_iff_iff, beq_iff_eq, decide_eq_true_eq, ByteArray.toList_eq, ByteArray.toList_eq]
  exact ⟨fun h => ByteArray.ext (Array.toList_inj.1 h), fun h => by rw [h]⟩
end Go.Proofs.YtgoapnkdcfcjgaaGreat
