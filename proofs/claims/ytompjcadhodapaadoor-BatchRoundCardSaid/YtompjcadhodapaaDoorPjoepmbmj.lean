/- 2 texts of this claim, in build order. -/
import Derived.Test.YtompjcadhodapaaDoorPbpgbkbma
import Derived.Test.YtompjcadhodapaaDoorPniagljig
/- Literals read: lists of texts, of numbers, of lists. -/
namespace Go.Proofs.YtompjcadhodapaaDoor
open Go.ChangeShapes Go.WideShapes Go.ChangeAt Go.RowKit
set_option linter.unusedVariables false
set_option linter.unusedSimpArgs false

/-- A slice literal that lies in a block of its own. -/
theorem rd_lit {α : Type} {R : Rd α} {w : World} {B N n k : Nat} {l : List α} (hn : n = l.length) (hm : n ≤ 1000) (hN : N < B)
    (h : ∀ i x, l[i]? = some x → ∃ es : List Value, es.length = k ∧ (∀ j u, es[j]? = some u → w.cell? ⟨N, 0 + i * k + j, none⟩ = some u) ∧ R w B es x) : rdSlice k R w B [.slice (some ⟨N, 0, none⟩) n n] l := by
  subst hn
  exact ⟨_, _, rfl, Nat.le_refl _, by unfold maxLen; omega, fun _ => ⟨N, 0, rfl, hN, h⟩⟩
theorem rd_nil {α : Type} {R : Rd α} {w : World} {B k : Nat} : rdSlice k R w B [.slice none 0 0] [] := ⟨none, 0, rfl, Nat.le_refl _, by simp [maxLen], fun h => by simp at h⟩
theorem strs2 {w : World} {B N : Nat} {x y : ByteArray} (hN : N < B) (hx : x.size ≤ 1000) (hy : y.size ≤ 1000) (h0 : w.cell? ⟨N, 0, none⟩ = some (.string x)) (h1 : w.cell? ⟨N, 1, none⟩ = some (.string y)) : rdStrs w B [.slice (some ⟨N, 0, none⟩) 2 2] [x, y] :=
  rd_lit rfl (by omega) hN (fun i z hz => by
    have : i = 0 ∨ i = 1 := by have := (List.getElem?_eq_some_iff.1 hz).1; simp at this; omega
    rcases this with rfl | rfl
    · simp at hz; subst hz
      exact ⟨[.string x], rfl, fun j u hu => by cases j <;> simp at hu; subst hu; simpa using h0, rfl, by unfold maxLen; omega⟩
    · simp at hz; subst hz
      exact ⟨[.string y], rfl, fun j u hu => by cases j <;> simp at hu; subst hu; simpa using h1, rfl, by unfold maxLen; omega⟩)
theorem strs1 {w : World} {B N : Nat} {x : ByteArray} (hN : N < B) (hx : x.size ≤ 1000) (h0 : w.cell? ⟨N, 0, none⟩ = some (.string x)) : rdStrs w B [.slice (some ⟨N, 0, none⟩) 1 1] [x] :=
  rd_lit rfl (by omega) hN (fun i z hz => by
    obtain rfl : i = 0 := by have := (List.getElem?_eq_some_iff.1 hz).1; simp at this; omega
    simp at hz; subst hz
    exact ⟨[.string x], rfl, fun j u hu => by cases j <;> simp at hu; subst hu; simpa using h0, rfl, by unfold maxLen; omega⟩)
theorem paths2 {w : World} {B N : Nat} {x y : List ByteArray} {v u : Value} (hN : N < B) (h0 : w.cell? ⟨N, 0, none⟩ = some v) (h1 : w.cell? ⟨N, 1, none⟩ = some u) (hx : rdStrs w B [v] x) (hy : rdStrs w B [u] y) : rdSlice 1 rdStrs w B [.slice (some ⟨N, 0, none⟩) 2 2] [x, y] :=
  rd_lit rfl (by omega) hN (fun i z hz => by
    have : i = 0 ∨ i = 1 := by have := (List.getElem?_eq_some_iff.1 hz).1; simp at this; omega
    rcases this with rfl | rfl
    · simp at hz; subst hz
      exact ⟨[v], rfl, fun j u hu => by cases j <;> simp at hu; subst hu; simpa using h0, hx⟩
    · simp at hz; subst hz
      exact ⟨[u], rfl, fun j u hu => by cases j <;> simp at hu; subst hu; simpa using h1, hy⟩)
theorem paths1 {w : World} {B N : Nat} {x : List ByteArray} {v : Value} (hN : N < B) (h0 : w.cell? ⟨N, 0, none⟩ = some v) (hx : rdStrs w B [v] x) : rdSlice 1 rdStrs w B [.slice (some ⟨N, 0, none⟩) 1 1] [x] :=
  rd_lit rfl (by omega) hN (fun i z hz => by
    obtain rfl : i = 0 := by have := (List.getElem?_eq_some_iff.1 hz).1; simp at this; omega
    simp at hz; subst hz
    exact ⟨[v], rfl, fun j u hu => by cases j <;> simp at hu; subst hu; simpa using h0, hx⟩)
theorem ints2 {w : World} {B N : Nat} {x y : Int} (hN : N < B) (hx : InI64 x) (hy : InI64 y) (h0 : w.cell? ⟨N, 0, none⟩ = some (.int .i64 x)) (h1 : w.cell? ⟨N, 1, none⟩ = some (.int .i64 y)) : rdInts w B [.slice (some ⟨N, 0, none⟩) 2 2] [x, y] :=
  rd_lit rfl (by omega) hN (fun i z hz => by
    have : i = 0 ∨ i = 1 := by have := (List.getElem?_eq_some_iff.1 hz).1; simp at this; omega
    rcases this with rfl | rfl
    · simp at hz; subst hz
      exact ⟨[.int .i64 x], rfl, fun j u hu => by cases j <;> simp at hu; subst hu; simpa using h0, rfl, hx⟩
    · simp at hz; subst hz
      exact ⟨[.int .i64 y], rfl, fun j u hu => by cases j <;> simp at hu; subst hu; simpa using h1, rfl, hy⟩)
theorem ints1 {w : World} {B N : Nat} {x : Int} (hN : N < B) (hx : InI64 x) (h0 : w.cell? ⟨N, 0, none⟩ = some (.int .i64 x)) : rdInts w B [.slice (some ⟨N, 0, none⟩) 1 1] [x] :=
  rd_lit rfl (by omega) hN (fun i z hz => by
    obtain rfl : i = 0 := by have := (List.getElem?_eq_some_iff.1 hz).1; simp at this; omega
    simp at hz; subst hz
    exact ⟨[.int .i64 x], rfl, fun j u hu => by cases j <;> simp at hu; subst hu; simpa using h0, rfl, hx⟩)
end Go.Proofs.YtompjcadhodapaaDoor
/- Literals read: lists of texts, of numbers, of lists. -/
namespace Go.Proofs.YtompjcadhodapaaDoor
open Go.ChangeShapes Go.WideShapes Go.ChangeAt Go.RowKit
set_option linter.unusedVariables false
set_option linter.unusedSimpArgs false

theorem bytes8_at (w : World) (N : Nat) (l : List UInt8) (n : Nat) (hn : l.length = n) (hn' : n ≤ 1000) (hN : w.heap.size = N) : Sl (w.alloc (.cells (bvals l).toArray 5)) (w.alloc (.cells (bvals l).toArray 5)).heap.size (.slice (some ⟨N, 0, none⟩) n n) (bvals l) := by
  subst hN
  refine ⟨_, n, by rw [bvals_len, hn], by rw [bvals_len, hn]; exact Nat.le_refl _, by unfold maxLen; omega, fun _ => ⟨w.heap.size, 0, rfl, by simp, fun j u hu => ?_⟩⟩
  rw [World.cell?_alloc_at _ _ _ _ rfl]
  simp only [Nat.zero_add, List.getElem?_toArray]
  exact hu
end Go.Proofs.YtompjcadhodapaaDoor
