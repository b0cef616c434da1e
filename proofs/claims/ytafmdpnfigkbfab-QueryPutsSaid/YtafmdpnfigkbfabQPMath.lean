/- A query's bytes, plainly. -/
import Derived.Test.YtafmdpnfigkbfabQMath
import Derived.Test.YtafmdpnfigkbfabPut8
namespace Go.Proofs.Ytafmdpnfigkbfab
open Go.ChangeShapes Go.WideShapes Go.ChangeAt Go.RowKit
set_option linter.unusedVariables false

/-- A filter's bytes. -/
def putFl (f : FilterX) : List UInt8 := putInt f.1 ++ (putInt f.2.1 ++ (putInt f.2.2.length ++ putM f.2.2))
def putTail (q : QueryX) : List UInt8 := putInt q.2.length ++ q.2.flatMap putFl
def putQ (q : QueryX) : List UInt8 := putInt q.1.length ++ (q.1.flatMap putInt ++ putTail q)
theorem putFl_len {f : FilterX} (h : plainF f = true) : (putFl f).length ≤ 318 := by
  unfold plainF at h
  rw [Bool.and_eq_true, Bool.and_eq_true, Bool.and_eq_true] at h
  have hl := of_decide_eq_true h.1.2
  have hm := flat_len f.2.2 putP 48 (fun p hp => putP_len (by
    have := h.2
    rw [Bool.not_eq_true', List.any_eq_false] at this
    have := this p hp
    simpa using this))
  have h1 := putInt_le f.1
  have h2 := putInt_le f.2.1
  have h3 := putInt_le (f.2.2.length : Int)
  unfold putFl putM
  simp only [List.length_append]
  omega
theorem plainQ_parts {q : QueryX} (h : plainQ q = true) : q.1.length ≤ 3 ∧ q.2.length ≤ 3 ∧ ∀ f ∈ q.2, plainF f = true := by
  unfold plainQ at h
  rw [Bool.and_eq_true, Bool.and_eq_true, Bool.and_eq_true] at h
  exact ⟨of_decide_eq_true h.1.1.1, of_decide_eq_true h.1.1.2, fun f hf => List.all_eq_true.1 h.2 f hf⟩
theorem putQ_len {q : QueryX} (h : plainQ q = true) : (putQ q).length ≤ 1004 := by
  obtain ⟨h1, h2, h3⟩ := plainQ_parts h
  have a := flat_len q.1 putInt 10 (fun x _ => putInt_le x)
  have b := flat_len q.2 putFl 318 (fun f hf => putFl_len (h3 f hf))
  have c := putInt_le (q.1.length : Int)
  have d := putInt_le (q.2.length : Int)
  unfold putQ putTail
  simp only [List.length_append]
  omega
theorem plainF_parts {f : FilterX} (h : plainF f = true) : f.2.2.length ≤ 6 ∧ ∀ p ∈ f.2.2, mayB p = true := by
  unfold plainF at h
  rw [Bool.and_eq_true, Bool.and_eq_true, Bool.and_eq_true] at h
  refine ⟨of_decide_eq_true h.1.2, fun p hp => ?_⟩
  have := h.2
  rw [Bool.not_eq_true', List.any_eq_false] at this
  have := this p hp
  simpa using this
end Go.Proofs.Ytafmdpnfigkbfab
