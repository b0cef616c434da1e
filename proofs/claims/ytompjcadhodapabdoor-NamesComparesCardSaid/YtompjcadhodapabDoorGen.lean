/- Small general facts: a function value entered, cells of slices, rows of one's own read. -/
import Derived.Test.YtompjcadhodapabDoorQMath
import Derived.Test.YtompjcadhodapabDoorMore
import Derived.Maps.AppendAt
import Derived.OwnWalk
namespace Go.Proofs.YtompjcadhodapabDoor
open Go.ChangeShapes Go.WideShapes Go.ChangeAt Go.RowKit
set_option linter.unusedVariables false
set_option linter.unusedSimpArgs false

theorem enters_of {F : FuncId} {fn : Func} {c : Code} (hf : Tryd.prog.funcs[F]? = some fn) (hname : (fn.name == "runtime.NumGoroutine") = false) (hb : fn.body = some c) : Enters F := fun args w => by
  have h1 : fn.name ≠ "runtime.NumGoroutine" := by simpa using hname
  simp [callFunc, hf, h1, hb]
theorem nodup_snoc {l : List ByteArray} {x : ByteArray} : (l ++ [x]).Nodup ↔ l.Nodup ∧ x ∉ l := by
  rw [List.nodup_append]
  constructor
  · rintro ⟨h1, -, h3⟩; exact ⟨h1, fun h => h3 x h x (by simp) rfl⟩
  · rintro ⟨h1, h2⟩; exact ⟨h1, by simp, fun a ha b hb => by simp at hb; rw [hb]; rintro rfl; exact h2 ha⟩
theorem cell_one_at' (w : World) (x : Value) (t : TypeId) {N : Nat} (hN : w.heap.size = N) : ∀ j u, [x][j]? = some u → (w.alloc (.cells #[x] t)).cell? ((⟨N, 0, none⟩ : Addr).add j) = some u := by
  subst hN; exact cell_one_new w x t
def RowPost (l : List Int) (w : World) (e : Ending) (w' : World) : Prop := ∃ r, e = .returned r ∧ w'.ownsRow w.heap.size 3 1 r l.length (ivals l) ∧ Below w.heap.size w w'
theorem ints_at {w : World} {B : Nat} {A : Option Addr} {n c : Nat} {l : List Int} (h : rdInts w B [.slice A n c] l) {k : Nat} (hk : k < l.length) : ∃ b off, A = some ⟨b, off, none⟩ ∧ b < B ∧ w.cell? ⟨b, off + k, none⟩ = some (.int .i64 (l.getD k 0)) ∧ InI64 (l.getD k 0) := by
  obtain ⟨b, off, rfl, hb, es, hel, hcell, hr⟩ := h.at_ hk
  obtain ⟨rfl, hi⟩ := hr
  have := hcell 0 _ rfl
  rw [Nat.mul_one, Nat.add_zero] at this
  rw [List.getD_eq_getElem?_getD, List.getElem?_eq_getElem hk]
  exact ⟨b, off, rfl, hb, this, hi⟩
def SameRelG {α : Type} (l r : List α) (w : World) (i : Value) (wr : World) : Prop := ∃ k : Nat, k ≤ l.length ∧ i = .int .i64 k ∧ l.take k = r.take k ∧ Qu w wr
theorem strs_at {w : World} {B : Nat} {A : Option Addr} {n c : Nat} {l : List ByteArray} (h : rdStrs w B [.slice A n c] l) {k : Nat} (hk : k < l.length) : ∃ b off, A = some ⟨b, off, none⟩ ∧ b < B ∧ w.cell? ⟨b, off + k, none⟩ = some (.string l[k]) ∧ (l[k]).size ≤ maxLen := by
  obtain ⟨b, off, rfl, hb, es, hel, hcell, hr⟩ := h.at_ hk
  obtain ⟨rfl, hi⟩ := hr
  have := hcell 0 _ rfl
  rw [Nat.mul_one, Nat.add_zero] at this
  exact ⟨b, off, rfl, hb, this, hi⟩
theorem ints_at' {w : World} {B : Nat} {A : Option Addr} {n c : Nat} {l : List Int} (h : rdInts w B [.slice A n c] l) {k : Nat} (hk : k < l.length) : ∃ b off, A = some ⟨b, off, none⟩ ∧ b < B ∧ w.cell? ⟨b, off + k, none⟩ = some (.int .i64 l[k]) ∧ InI64 l[k] := by
  obtain ⟨b, off, rfl, hb, es, hel, hcell, hr⟩ := h.at_ hk
  obtain ⟨rfl, hi⟩ := hr
  have := hcell 0 _ rfl
  rw [Nat.mul_one, Nat.add_zero] at this
  exact ⟨b, off, rfl, hb, this, hi⟩
theorem rdInts_of_own {w : World} {base : Nat} {v : Value} {l : List Int} {n : Nat} (hn : n = l.length) (h : w.ownsRow base 3 1 v n (ivals l)) (hl : ∀ x ∈ l, InI64 x) : rdInts w w.heap.size [v] l := by
  subst hn
  obtain ⟨A, c, rfl, h1, h2, h3⟩ := own_cells h
  refine ⟨A, c, rfl, h1, h2, fun h0 => ?_⟩
  obtain ⟨g, rfl, -, hg, -⟩ := h3 h0
  refine ⟨g, 0, rfl, hg, fun i x hx => ⟨[.int .i64 x], rfl, fun j u hu => ?_, rfl, hl x (List.mem_of_getElem? hx)⟩⟩
  have hil := (List.getElem?_eq_some_iff.1 hx).1
  have hc2 := h.cellAt (g := g) i (by omega)
  cases j with
  | succ j => simp at hu
  | zero =>
    simp at hu; subst hu
    rw [Nat.mul_one, Nat.add_zero, Nat.zero_add, hc2]
    simp [ivals, hx]
theorem rdStrs_of_own {w : World} {base : Nat} {v : Value} {l : List ByteArray} {n : Nat} (hn : n = l.length) (h : w.ownsRow base 9 1 v n (svals l)) (hl : ∀ x ∈ l, x.size ≤ maxLen) : rdStrs w w.heap.size [v] l := by
  subst hn
  obtain ⟨A, c, rfl, h1, h2, h3⟩ := own_cells h
  refine ⟨A, c, rfl, h1, h2, fun h0 => ?_⟩
  obtain ⟨g, rfl, -, hg, -⟩ := h3 h0
  refine ⟨g, 0, rfl, hg, fun i x hx => ⟨[.string x], rfl, fun j u hu => ?_, rfl, hl x (List.mem_of_getElem? hx)⟩⟩
  have hil := (List.getElem?_eq_some_iff.1 hx).1
  have hc2 := h.cellAt (g := g) i (by omega)
  cases j with
  | succ j => simp at hu
  | zero =>
    simp at hu; subst hu
    rw [Nat.mul_one, Nat.add_zero, Nat.zero_add, hc2]
    simp [svals, hx]
theorem info_strQ : (Tryd.prog.info? 9).map (fun i => (i.zero, i.size, i.bytes)) = some (some (.string ByteArray.empty), 1, 16) := by kernel_rfl
theorem svals_snoc (p : List ByteArray) (x : ByteArray) : svals (p ++ [x]) = svals p ++ [.string x] := by simp [svals]
theorem rdSlice.head_ {α : Type} {k : Nat} {R : Rd α} {w : World} {B : Nat} {A : Option Addr} {n c m : Nat} {l : List α} (h : rdSlice k R w B [.slice A n c] l) (hm : m ≤ n) : rdSlice k R w B [.slice A m c] (l.take m) := by
  obtain ⟨A', c', e, h1, h2, h3⟩ := h
  simp only [List.cons.injEq, and_true] at e
  injection e with e1 e2 e3
  subst e1; subst e2; subst e3
  have hl : (l.take m).length = m := by rw [List.length_take]; omega
  refine ⟨A, c, by rw [hl], by omega, h2, fun h0 => ?_⟩
  obtain ⟨b, off, e5, e6, e7⟩ := h3 (by omega)
  refine ⟨b, off, e5, e6, fun i x hx => e7 i x ?_⟩
  rw [List.getElem?_take] at hx
  split at hx
  · exact hx
  · cases hx
theorem rdSlice.cap {α : Type} {k : Nat} {R : Rd α} {w : World} {B : Nat} {A : Option Addr} {n c : Nat} {l : List α} (h : rdSlice k R w B [.slice A n c] l) : n ≤ c ∧ c ≤ 9223372036854775807 := by
  obtain ⟨A', c', e, h1, h2, h3⟩ := h
  simp only [List.cons.injEq, and_true] at e
  injection e with e1 e2 e3
  unfold maxLen at h2
  omega
end Go.Proofs.YtompjcadhodapabDoor
