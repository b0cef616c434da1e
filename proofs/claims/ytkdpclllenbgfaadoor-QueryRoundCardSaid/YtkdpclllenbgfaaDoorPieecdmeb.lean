/- 2 texts of this claim, in build order. -/
import Derived.Test.YtkdpclllenbgfaaDoorPjobeecjl
import Derived.Test.YtkdpclllenbgfaaDoorPijfdoknf
import Derived.Test.YtkdpclllenbgfaaDoorPmcmhifek
import Derived.Test.YtkdpclllenbgfaaDoorPdjbbjidg
import Derived.Test.YtkdpclllenbgfaaDoorPgeebagdj
/- Bytes that are put, one behind the other. -/
namespace Go.Proofs.YtkdpclllenbgfaaDoor
open Go.ChangeShapes Go.WideShapes Go.ChangeAt Go.RowKit
set_option linter.unusedVariables false

/-- A path's bytes. -/
def putP (p : List ByteArray) : List UInt8 := putInt (textB p).size ++ (textB p).data.toList
/-- A row of paths' bytes. -/
def putM (ms : List (List ByteArray)) : List UInt8 := ms.flatMap putP
theorem flat_len {α : Type} (l : List α) (f : α → List UInt8) (m : Nat) (h : ∀ x ∈ l, (f x).length ≤ m) : (l.flatMap f).length ≤ m * l.length := by
  induction l with
  | nil => simp
  | cons x l ih =>
    have h1 := h x List.mem_cons_self
    have h2 := ih (fun y hy => h y (List.mem_cons_of_mem _ hy))
    rw [List.flatMap_cons, List.length_append, List.length_cons, Nat.mul_succ]
    omega
theorem flat_drop {α : Type} {l : List α} {k : Nat} (hk : k < l.length) (f : α → List UInt8) : (l.drop k).flatMap f = f l[k] ++ (l.drop (k + 1)).flatMap f := by
  rw [List.drop_eq_getElem_cons hk, List.flatMap_cons]
theorem flat_done {α : Type} {l : List α} (f : α → List UInt8) : (l.drop l.length).flatMap f = [] := by simp
theorem putP_len {p : List ByteArray} (h : mayB p = true) : (putP p).length ≤ 48 := by
  have h1 := putInt_le ((textB p).size : Int)
  have h2 := textB_size h
  unfold putP
  have e : (textB p).data.toList.length = (textB p).size := by rw [Array.length_toList]; rfl
  rw [List.length_append, e]
  omega
/-- Bytes of the call's own. -/
def Own8 (w : World) (base : Nat) (v : Value) (l : List UInt8) : Prop := w.ownsRow base 5 1 v l.length (bvals l)
theorem Own8.less {w : World} {base base' : Nat} {v : Value} {l : List UInt8} (h : Own8 w base v l) (hb : base' ≤ base) : Own8 w base' v l := by
  obtain ⟨h1, h2⟩ := h
  refine ⟨h1, ?_⟩
  rcases h2 with h2 | ⟨g, cap, cur, rfl, hbg, r⟩
  · exact .inl h2
  · exact .inr ⟨g, cap, cur, rfl, by omega, r⟩
theorem Own8.on {w w' : World} {base : Nat} {v : Value} {l : List UInt8} (h : Own8 w base v l) (hb : Below w.heap.size w w') : Own8 w' base v l := own_kept h (fun g hg => hb.block g (own_lt h g hg).2)
theorem Own8.sl {w : World} {base : Nat} {v : Value} {l : List UInt8} (h : Own8 w base v l) : Sl w w.heap.size v (bvals l) := Sl.of_own h
theorem Own8.form {w : World} {base : Nat} {v : Value} {l : List UInt8} (h : Own8 w base v l) : ∃ A c, v = .slice A l.length c := by
  rcases h.2 with ⟨rfl, h0⟩ | ⟨g, cap, cur, rfl, _⟩
  · exact ⟨none, 0, by rw [h0]⟩
  · exact ⟨_, _, rfl⟩
def Put8 (l : List UInt8) (w : World) (e : Ending) (w' : World) : Prop := ∃ v, e = .returned v ∧ Own8 w' w.heap.size v l ∧ Below w.heap.size w w'
theorem putI8 (v : Value) (l : List UInt8) (n : Int) (w : World) (hv : Sl w w.heap.size v (bvals l)) (hl : l.length ≤ 100000) (hn : InI64 n) :
    Calls Tryd.prog 34 #[v, .int .i64 n] w (Put8 (l ++ putInt n) w) := by
  unfold InI64 at hn
  refine (putInt_any v l n w hv (by omega) (by omega) (by omega)).mono ?_
  rintro e w' ⟨v', rfl, h, hb⟩
  exact ⟨v', rfl, by unfold Own8; rw [List.length_append]; exact h, hb⟩
theorem putT8 (v : Value) (l : List UInt8) (s : ByteArray) (w : World) (hv : Sl w w.heap.size v (bvals l)) (hl : l.length ≤ 100000) (hs : s.size ≤ 100000) :
    Calls Tryd.prog 36 #[v, .string s] w (Put8 (l ++ (putInt s.size ++ s.data.toList)) w) := by
  refine (putText_any v l s w hv (by omega)).mono ?_
  rintro e w' ⟨v', rfl, h, hb⟩
  refine ⟨v', rfl, ?_, hb⟩
  unfold Own8
  rw [← List.append_assoc]
  have : (l ++ putInt ↑s.size ++ s.data.toList).length = l.length + (putInt ↑s.size).length + s.size := by
    rw [List.length_append, List.length_append, Array.length_toList]; rfl
  rw [this]
  exact h
end Go.Proofs.YtkdpclllenbgfaaDoor
/- A query's bytes, plainly. -/
namespace Go.Proofs.YtkdpclllenbgfaaDoor
open Go.ChangeShapes Go.WideShapes Go.ChangeAt Go.RowKit
set_option linter.unusedVariables false

/-- A filter's bytes. -/
def putFl (f : FilterX) : List UInt8 := putInt f.1 ++ (putInt f.2.1 ++ (putInt f.2.2.length ++ putM f.2.2))
def putTail (q : QueryX) : List UInt8 := putInt q.2.length ++ q.2.flatMap putFl
def putQ (q : QueryX) : List UInt8 := putInt q.1.length ++ (q.1.flatMap putInt ++ putTail q)
theorem putFl_len {f : FilterX} (h : plainF f = true) : (putFl f).length ≤ 318 := by
  unfold plainF at h
  rw [Bool.and_eq_true, Bool.and_eq_true, Bool.and_eq_true] at h
  have hl := of_decide_eq_true h.1.2
  have hm := flat_len f.2.2 putP 48 (fun p hp => putP_len (by
    have := h.2
    rw [Bool.not_eq_true', List.any_eq_false] at this
    have := this p hp
    simpa using this))
  have h1 := putInt_le f.1
  have h2 := putInt_le f.2.1
  have h3 := putInt_le (f.2.2.length : Int)
  unfold putFl putM
  simp only [List.length_append]
  omega
theorem plainQ_parts {q : QueryX} (h : plainQ q = true) : q.1.length ≤ 3 ∧ q.2.length ≤ 3 ∧ ∀ f ∈ q.2, plainF f = true := by
  unfold plainQ at h
  rw [Bool.and_eq_true, Bool.and_eq_true, Bool.and_eq_true] at h
  exact ⟨of_decide_eq_true h.1.1.1, of_decide_eq_true h.1.1.2, fun f hf => List.all_eq_true.1 h.2 f hf⟩
theorem putQ_len {q : QueryX} (h : plainQ q = true) : (putQ q).length ≤ 1004 := by
  obtain ⟨h1, h2, h3⟩ := plainQ_parts h
  have a := flat_len q.1 putInt 10 (fun x _ => putInt_le x)
  have b := flat_len q.2 putFl 318 (fun f hf => putFl_len (h3 f hf))
  have c := putInt_le (q.1.length : Int)
  have d := putInt_le (q.2.length : Int)
  unfold putQ putTail
  simp only [List.length_append]
  omega
theorem plainF_parts {f : FilterX} (h : plainF f = true) : f.2.2.length ≤ 6 ∧ ∀ p ∈ f.2.2, mayB p = true := by
  unfold plainF at h
  rw [Bool.and_eq_true, Bool.and_eq_true, Bool.and_eq_true] at h
  refine ⟨of_decide_eq_true h.1.2, fun p hp => ?_⟩
  have := h.2
  rw [Bool.not_eq_true', List.any_eq_false] at this
  have := this p hp
  simpa using this
end Go.Proofs.YtkdpclllenbgfaaDoor
