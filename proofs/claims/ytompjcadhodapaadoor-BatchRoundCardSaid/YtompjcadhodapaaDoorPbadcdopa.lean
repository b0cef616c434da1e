/- 2 texts of this claim, in build order. -/
import Derived.Test.YtompjcadhodapaaDoorPgeihncje
import Derived.Test.YtompjcadhodapaaDoorPpeccicbk
import Derived.Test.YtompjcadhodapaaDoorPaoiiifem
import Derived.Test.YtompjcadhodapaaDoorPpogphfan
import Derived.Test.YtompjcadhodapaaDoorPbpgbkbma
/- Bytes that are put, one behind the other. -/
namespace Go.Proofs.YtompjcadhodapaaDoor
open Go.ChangeShapes Go.WideShapes Go.ChangeAt Go.RowKit
set_option linter.unusedVariables false

/-- A path's bytes. -/
def putP (p : List ByteArray) : List UInt8 := putInt (textB p).size ++ (textB p).data.toList
/-- A row of paths' bytes. -/
def putM (ms : List (List ByteArray)) : List UInt8 := ms.flatMap putP
theorem flat_len {α : Type} (l : List α) (f : α → List UInt8) (m : Nat) (h : ∀ x ∈ l, (f x).length ≤ m) : (l.flatMap f).length ≤ m * l.length := by
  induction l with
  | nil => simp
  | cons x l ih =>
    have h1 := h x List.mem_cons_self
    have h2 := ih (fun y hy => h y (List.mem_cons_of_mem _ hy))
    rw [List.flatMap_cons, List.length_append, List.length_cons, Nat.mul_succ]
    omega
theorem flat_drop {α : Type} {l : List α} {k : Nat} (hk : k < l.length) (f : α → List UInt8) : (l.drop k).flatMap f = f l[k] ++ (l.drop (k + 1)).flatMap f := by
  rw [List.drop_eq_getElem_cons hk, List.flatMap_cons]
theorem flat_done {α : Type} {l : List α} (f : α → List UInt8) : (l.drop l.length).flatMap f = [] := by simp
theorem putP_len {p : List ByteArray} (h : mayB p = true) : (putP p).length ≤ 48 := by
  have h1 := putInt_le ((textB p).size : Int)
  have h2 := textB_size h
  unfold putP
  have e : (textB p).data.toList.length = (textB p).size := by rw [Array.length_toList]; rfl
  rw [List.length_append, e]
  omega
/-- Bytes of the call's own. -/
def Own8 (w : World) (base : Nat) (v : Value) (l : List UInt8) : Prop := w.ownsRow base 5 1 v l.length (bvals l)
theorem Own8.less {w : World} {base base' : Nat} {v : Value} {l : List UInt8} (h : Own8 w base v l) (hb : base' ≤ base) : Own8 w base' v l := by
  obtain ⟨h1, h2⟩ := h
  refine ⟨h1, ?_⟩
  rcases h2 with h2 | ⟨g, cap, cur, rfl, hbg, r⟩
  · exact .inl h2
  · exact .inr ⟨g, cap, cur, rfl, by omega, r⟩
theorem Own8.on {w w' : World} {base : Nat} {v : Value} {l : List UInt8} (h : Own8 w base v l) (hb : Below w.heap.size w w') : Own8 w' base v l := own_kept h (fun g hg => hb.block g (own_lt h g hg).2)
theorem Own8.sl {w : World} {base : Nat} {v : Value} {l : List UInt8} (h : Own8 w base v l) : Sl w w.heap.size v (bvals l) := Sl.of_own h
theorem Own8.form {w : World} {base : Nat} {v : Value} {l : List UInt8} (h : Own8 w base v l) : ∃ A c, v = .slice A l.length c := by
  rcases h.2 with ⟨rfl, h0⟩ | ⟨g, cap, cur, rfl, _⟩
  · exact ⟨none, 0, by rw [h0]⟩
  · exact ⟨_, _, rfl⟩
def Put8 (l : List UInt8) (w : World) (e : Ending) (w' : World) : Prop := ∃ v, e = .returned v ∧ Own8 w' w.heap.size v l ∧ Below w.heap.size w w'
theorem putI8 (v : Value) (l : List UInt8) (n : Int) (w : World) (hv : Sl w w.heap.size v (bvals l)) (hl : l.length ≤ 100000) (hn : InI64 n) :
    Calls Tryd.prog 29 #[v, .int .i64 n] w (Put8 (l ++ putInt n) w) := by
  unfold InI64 at hn
  refine (putInt_any v l n w hv (by omega) (by omega) (by omega)).mono ?_
  rintro e w' ⟨v', rfl, h, hb⟩
  exact ⟨v', rfl, by unfold Own8; rw [List.length_append]; exact h, hb⟩
theorem putT8 (v : Value) (l : List UInt8) (s : ByteArray) (w : World) (hv : Sl w w.heap.size v (bvals l)) (hl : l.length ≤ 100000) (hs : s.size ≤ 100000) :
    Calls Tryd.prog 31 #[v, .string s] w (Put8 (l ++ (putInt s.size ++ s.data.toList)) w) := by
  refine (putText_any v l s w hv (by omega)).mono ?_
  rintro e w' ⟨v', rfl, h, hb⟩
  refine ⟨v', rfl, ?_, hb⟩
  unfold Own8
  rw [← List.append_assoc]
  have : (l ++ putInt ↑s.size ++ s.data.toList).length = l.length + (putInt ↑s.size).length + s.size := by
    rw [List.length_append, List.length_append, Array.length_toList]; rfl
  rw [this]
  exact h
end Go.Proofs.YtompjcadhodapaaDoor
/- Facts: readings, and what may be, plainly. -/
namespace Go.Proofs.YtompjcadhodapaaDoor
open Go.ChangeShapes Go.WideShapes Go.ChangeAt Go.RowKit
set_option linter.unusedVariables false

abbrev FactX := List (List ByteArray) × List Int
abbrev rdFact : Rd FactX := rdPair 1 (rdSlice 1 rdStrs) rdInts
theorem good_fact : Good rdFact := good_pair good_paths good_ints
theorem good_facts : Good (rdSlice 2 rdFact) := good_slice good_fact
/-- A fact as a value. -/
def FactV (w : World) (B : Nat) (v : Value) (f : FactX) : Prop :=
  ∃ A1 c1 A2 c2, v = .agg #[.slice A1 f.1.length c1, .slice A2 f.2.length c2] ∧ rdSlice 1 rdStrs w B [.slice A1 f.1.length c1] f.1 ∧ rdInts w B [.slice A2 f.2.length c2] f.2
theorem FactV.below {w w' : World} {B : Nat} {v : Value} {f : FactX} (h : FactV w B v f) (hb : Below B w w') : FactV w' B v f := by
  obtain ⟨A1, c1, A2, c2, e, h1, h2⟩ := h
  exact ⟨A1, c1, A2, c2, e, good_paths.stays h1 hb, good_ints.stays h2 hb⟩
theorem FactV.more {w : World} {B B' : Nat} {v : Value} {f : FactX} (h : FactV w B v f) (hb : B ≤ B') : FactV w B' v f := by
  obtain ⟨A1, c1, A2, c2, e, h1, h2⟩ := h
  exact ⟨A1, c1, A2, c2, e, good_paths.more h1 hb, good_ints.more h2 hb⟩
theorem FactV.on {w w' : World} {v : Value} {f : FactX} (h : FactV w w.heap.size v f) (hb : Below w.heap.size w w') : FactV w' w'.heap.size v f := (h.below hb).more hb.size
theorem fact_of_rd {w : World} {B : Nat} {cs : List Value} {f : FactX} (h : rdFact w B cs f) : ∃ A1 c1 A2 c2, cs = [.slice A1 f.1.length c1, .slice A2 f.2.length c2] ∧ rdSlice 1 rdStrs w B [.slice A1 f.1.length c1] f.1 ∧ rdInts w B [.slice A2 f.2.length c2] f.2 := by
  obtain ⟨l1, h1, h2⟩ := h
  obtain ⟨A1, c1, e1, -, -⟩ := h1.open_
  obtain ⟨A2, c2, e2, -, -⟩ := h2.open_
  rw [e1] at h1; rw [e2] at h2
  refine ⟨A1, c1, A2, c2, ?_, h1, h2⟩
  rw [← List.take_append_drop 1 cs, e1, e2]
  rfl
theorem facts_at {w : World} {B : Nat} {A : Option Addr} {n c : Nat} {l : List FactX} (h : rdSlice 2 rdFact w B [.slice A n c] l) {k : Nat} (hk : k < l.length) :
    ∃ b off AP cP AV cV, A = some ⟨b, off, none⟩ ∧ b < B ∧ w.cell? ⟨b, off + k * 2, none⟩ = some (.slice AP l[k].1.length cP) ∧ w.cell? ⟨b, off + k * 2 + 1, none⟩ = some (.slice AV l[k].2.length cV) ∧
      rdSlice 1 rdStrs w B [.slice AP l[k].1.length cP] l[k].1 ∧ rdInts w B [.slice AV l[k].2.length cV] l[k].2 := by
  obtain ⟨b, off, rfl, hb, es, hel, hcell, hr⟩ := h.at_ hk
  obtain ⟨AP, cP, AV, cV, rfl, h1, h2⟩ := fact_of_rd hr
  exact ⟨b, off, AP, cP, AV, cV, rfl, hb, hcell 0 _ rfl, hcell 1 _ rfl, h1, h2⟩
/-! ### Plain words -/
def valB (n : Int) : Bool := decide (-2305843009213693952 ≤ n) && decide (n ≤ 2305843009213693952)
def plainFt (f : FactX) : Bool := (!(f.1.any fun p => !mayB p) && !(f.2.any fun n => !valB n)) && decide (f.1.length ≤ 3) && decide (f.2.length ≤ 2)
def fitsB (s : SchemaX) (f : FactX) : Bool := (plainFt f && decide (f.1.length = s.1.length) && decide (f.2.length = s.2.1.length)) && (List.range f.1.length).all fun i => decide ((f.1.getD i []).length = (s.1.getD i (⟨#[]⟩, [])).2.length)
def mayBt (s : SchemaX) (l : List FactX) : Int := if !mayS s then 11 else if l.length = 0 ∨ 8 < l.length then 13 else if l.any (fun f => !fitsB s f) then 12 else 0
def putFact (f : FactX) : List UInt8 := putInt f.1.length ++ (putM f.1 ++ (putInt f.2.length ++ f.2.flatMap putInt))
def putFacts (l : List FactX) : List UInt8 := putInt l.length ++ l.flatMap putFact
def fewFt (f : FactX) : FactX := ((f.1.take 5).map (fun p => p.take 5), f.2.take 5)
def fewFs (l : List FactX) : List FactX := (l.take 10).map fewFt
theorem any_not {α : Type} (p : α → Bool) (l : List α) : (!(l.any fun x => !p x)) = l.all p := by
  induction l with
  | nil => rfl
  | cons x l ih => rw [List.any_cons, List.all_cons, Bool.not_or, ih, Bool.not_not]
theorem plainFt_parts {f : FactX} (h : plainFt f = true) : f.1.length ≤ 3 ∧ f.2.length ≤ 2 ∧ (∀ p ∈ f.1, mayB p = true) ∧ ∀ n ∈ f.2, valB n = true := by
  unfold plainFt at h
  rw [any_not, any_not, Bool.and_eq_true, Bool.and_eq_true, Bool.and_eq_true] at h
  exact ⟨of_decide_eq_true h.1.2, of_decide_eq_true h.2, fun p hp => List.all_eq_true.1 h.1.1.1 p hp, fun n hn => List.all_eq_true.1 h.1.1.2 n hn⟩
theorem putFact_len {f : FactX} (h : plainFt f = true) : (putFact f).length ≤ 184 := by
  obtain ⟨h1, h2, h3, h4⟩ := plainFt_parts h
  have a := flat_len f.1 putP 48 (fun p hp => putP_len (h3 p hp))
  have b := flat_len f.2 putInt 10 (fun n _ => putInt_le n)
  have c := putInt_le (f.1.length : Int)
  have d := putInt_le (f.2.length : Int)
  unfold putFact putM
  simp only [List.length_append]
  omega
theorem putFacts_len {l : List FactX} (hl : l.length ≤ 10) (h : ∀ f ∈ l, plainFt f = true) : (putFacts l).length ≤ 1850 := by
  have a := flat_len l putFact 184 (fun f hf => putFact_len (h f hf))
  have c := putInt_le (l.length : Int)
  unfold putFacts
  simp only [List.length_append]
  omega
end Go.Proofs.YtompjcadhodapaaDoor
