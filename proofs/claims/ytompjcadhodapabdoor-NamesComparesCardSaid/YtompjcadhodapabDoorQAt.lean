/- A row's element at a place; all of a row. -/
import Derived.Test.YtompjcadhodapabDoorGen
namespace Go.Proofs.YtompjcadhodapabDoor
open Go.ChangeShapes Go.WideShapes Go.ChangeAt Go.RowKit
set_option linter.unusedVariables false

theorem paths_at {w : World} {B : Nat} {A : Option Addr} {n c : Nat} {l : List (List ByteArray)} (h : rdSlice 1 rdStrs w B [.slice A n c] l) {k : Nat} (hk : k < l.length) :
    ∃ b off AM cM, A = some ⟨b, off, none⟩ ∧ b < B ∧ w.cell? ⟨b, off + k, none⟩ = some (.slice AM l[k].length cM) ∧ rdStrs w B [.slice AM l[k].length cM] l[k] := by
  obtain ⟨b, off, rfl, hb, es, hel, hcell, h3⟩ := h.at_ hk
  obtain ⟨AM, cM, rfl, -, -⟩ := h3.open_
  have := hcell 0 _ rfl
  rw [Nat.mul_one, Nat.add_zero] at this
  exact ⟨b, off, AM, cM, rfl, hb, this, h3⟩
theorem all_no {α : Type} {p : α → Bool} {l : List α} {k : Nat} (h : k < l.length) (hn : p l[k] = false) : l.all p = false := List.all_eq_false.2 ⟨_, List.getElem_mem h, by rw [hn]; simp⟩
theorem all_yes {α : Type} {p : α → Bool} {l : List α} (h : ∀ j (h : j < l.length), p l[j] = true) : l.all p = true := List.all_eq_true.2 (fun x hx => by
  obtain ⟨j, hj, rfl⟩ := List.mem_iff_getElem.1 hx
  exact h j hj)
theorem all_more {α : Type} {p : α → Bool} {l : List α} {k : Nat} (hall : ∀ j (h : j < l.length), j < k → p l[j] = true) (hk : k < l.length) (h : p l[k] = true) : ∀ j (h : j < l.length), j < k + 1 → p l[j] = true := fun j hj hjk => by
  by_cases e : j = k
  · subst e; exact h
  · exact hall j hj (by omega)
theorem strs_len {w : World} {B : Nat} {v : Value} {p : List ByteArray} (h : rdStrs w B [v] p) : p.length ≤ 9223372036854775807 := by
  obtain ⟨A, c, -, h1, h2⟩ := h.open_
  omega
theorem cut_ways {α : Type} {k m : Nat} {R : Rd α} {w : World} {B : Nat} {A : Option Addr} {c : Nat} {l : List α} (h : rdSlice k R w B [.slice A l.length c] l) :
    ∃ n : Nat, n = (l.take m).length ∧ rdSlice k R w B [.slice A n c] (l.take m) ∧ (((m : Int) < (l.length : Int) ∧ m ≤ l.length ∧ n = m) ∨ (¬ (m : Int) < (l.length : Int) ∧ n = l.length)) := by
  by_cases hm : m < l.length
  · exact ⟨m, by rw [List.length_take]; omega, h.head_ (by omega), .inl ⟨by omega, by omega, rfl⟩⟩
  · exact ⟨l.length, by rw [List.length_take]; omega, by rw [List.take_of_length_le (by omega)]; exact h, .inr ⟨by omega, rfl⟩⟩
end Go.Proofs.YtompjcadhodapabDoor
