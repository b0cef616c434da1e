/- Facts: readings, and what may be, plainly. -/
import Derived.Test.YtompjcadhodapaaQMath
import Derived.Test.YtompjcadhodapaaPut8
namespace Go.Proofs.Ytompjcadhodapaa
open Go.ChangeShapes Go.WideShapes Go.ChangeAt Go.RowKit
set_option linter.unusedVariables false

abbrev FactX := List (List ByteArray) × List Int
abbrev rdFact : Rd FactX := rdPair 1 (rdSlice 1 rdStrs) rdInts
theorem good_fact : Good rdFact := good_pair good_paths good_ints
theorem good_facts : Good (rdSlice 2 rdFact) := good_slice good_fact
/-- A fact as a value. -/
def FactV (w : World) (B : Nat) (v : Value) (f : FactX) : Prop :=
  ∃ A1 c1 A2 c2, v = .agg #[.slice A1 f.1.length c1, .slice A2 f.2.length c2] ∧ rdSlice 1 rdStrs w B [.slice A1 f.1.length c1] f.1 ∧ rdInts w B [.slice A2 f.2.length c2] f.2
theorem FactV.below {w w' : World} {B : Nat} {v : Value} {f : FactX} (h : FactV w B v f) (hb : Below B w w') : FactV w' B v f := by
  obtain ⟨A1, c1, A2, c2, e, h1, h2⟩ := h
  exact ⟨A1, c1, A2, c2, e, good_paths.stays h1 hb, good_ints.stays h2 hb⟩
theorem FactV.more {w : World} {B B' : Nat} {v : Value} {f : FactX} (h : FactV w B v f) (hb : B ≤ B') : FactV w B' v f := by
  obtain ⟨A1, c1, A2, c2, e, h1, h2⟩ := h
  exact ⟨A1, c1, A2, c2, e, good_paths.more h1 hb, good_ints.more h2 hb⟩
theorem FactV.on {w w' : World} {v : Value} {f : FactX} (h : FactV w w.heap.size v f) (hb : Below w.heap.size w w') : FactV w' w'.heap.size v f := (h.below hb).more hb.size
theorem fact_of_rd {w : World} {B : Nat} {cs : List Value} {f : FactX} (h : rdFact w B cs f) : ∃ A1 c1 A2 c2, cs = [.slice A1 f.1.length c1, .slice A2 f.2.length c2] ∧ rdSlice 1 rdStrs w B [.slice A1 f.1.length c1] f.1 ∧ rdInts w B [.slice A2 f.2.length c2] f.2 := by
  obtain ⟨l1, h1, h2⟩ := h
  obtain ⟨A1, c1, e1, -, -⟩ := h1.open_
  obtain ⟨A2, c2, e2, -, -⟩ := h2.open_
  rw [e1] at h1; rw [e2] at h2
  refine ⟨A1, c1, A2, c2, ?_, h1, h2⟩
  rw [← List.take_append_drop 1 cs, e1, e2]
  rfl
theorem facts_at {w : World} {B : Nat} {A : Option Addr} {n c : Nat} {l : List FactX} (h : rdSlice 2 rdFact w B [.slice A n c] l) {k : Nat} (hk : k < l.length) :
    ∃ b off AP cP AV cV, A = some ⟨b, off, none⟩ ∧ b < B ∧ w.cell? ⟨b, off + k * 2, none⟩ = some (.slice AP l[k].1.length cP) ∧ w.cell? ⟨b, off + k * 2 + 1, none⟩ = some (.slice AV l[k].2.length cV) ∧
      rdSlice 1 rdStrs w B [.slice AP l[k].1.length cP] l[k].1 ∧ rdInts w B [.slice AV l[k].2.length cV] l[k].2 := by
  obtain ⟨b, off, rfl, hb, es, hel, hcell, hr⟩ := h.at_ hk
  obtain ⟨AP, cP, AV, cV, rfl, h1, h2⟩ := fact_of_rd hr
  exact ⟨b, off, AP, cP, AV, cV, rfl, hb, hcell 0 _ rfl, hcell 1 _ rfl, h1, h2⟩
/-! ### Plain words -/
def valB (n : Int) : Bool := decide (-2305843009213693952 ≤ n) && decide (n ≤ 2305843009213693952)
def plainFt (f : FactX) : Bool := (!(f.1.any fun p => !mayB p) && !(f.2.any fun n => !valB n)) && decide (f.1.length ≤ 3) && decide (f.2.length ≤ 2)
def fitsB (s : SchemaX) (f : FactX) : Bool := (plainFt f && decide (f.1.length = s.1.length) && decide (f.2.length = s.2.1.length)) && (List.range f.1.length).all fun i => decide ((f.1.getD i []).length = (s.1.getD i (⟨#[]⟩, [])).2.length)
def mayBt (s : SchemaX) (l : List FactX) : Int := if !mayS s then 11 else if l.length = 0 ∨ 8 < l.length then 13 else if l.any (fun f => !fitsB s f) then 12 else 0
def putFact (f : FactX) : List UInt8 := putInt f.1.length ++ (putM f.1 ++ (putInt f.2.length ++ f.2.flatMap putInt))
def putFacts (l : List FactX) : List UInt8 := putInt l.length ++ l.flatMap putFact
def fewFt (f : FactX) : FactX := ((f.1.take 5).map (fun p => p.take 5), f.2.take 5)
def fewFs (l : List FactX) : List FactX := (l.take 10).map fewFt
theorem any_not {α : Type} (p : α → Bool) (l : List α) : (!(l.any fun x => !p x)) = l.all p := by
  induction l with
  | nil => rfl
  | cons x l ih => rw [List.any_cons, List.all_cons, Bool.not_or, ih, Bool.not_not]
theorem plainFt_parts {f : FactX} (h : plainFt f = true) : f.1.length ≤ 3 ∧ f.2.length ≤ 2 ∧ (∀ p ∈ f.1, mayB p = true) ∧ ∀ n ∈ f.2, valB n = true := by
  unfold plainFt at h
  rw [any_not, any_not, Bool.and_eq_true, Bool.and_eq_true, Bool.and_eq_true] at h
  exact ⟨of_decide_eq_true h.1.2, of_decide_eq_true h.2, fun p hp => List.all_eq_true.1 h.1.1.1 p hp, fun n hn => List.all_eq_true.1 h.1.1.2 n hn⟩
theorem putFact_len {f : FactX} (h : plainFt f = true) : (putFact f).length ≤ 184 := by
  obtain ⟨h1, h2, h3, h4⟩ := plainFt_parts h
  have a := flat_len f.1 putP 48 (fun p hp => putP_len (h3 p hp))
  have b := flat_len f.2 putInt 10 (fun n _ => putInt_le n)
  have c := putInt_le (f.1.length : Int)
  have d := putInt_le (f.2.length : Int)
  unfold putFact putM
  simp only [List.length_append]
  omega
theorem putFacts_len {l : List FactX} (hl : l.length ≤ 10) (h : ∀ f ∈ l, plainFt f = true) : (putFacts l).length ≤ 1850 := by
  have a := flat_len l putFact 184 (fun f hf => putFact_len (h f hf))
  have c := putInt_le (l.length : Int)
  unfold putFacts
  simp only [List.length_append]
  omega
end Go.Proofs.Ytompjcadhodapaa
