/- Deeds handed in (layer 22). -/
import Derived.Test.YtkgifbnkkmeoiaaLnkLike
import Derived.Test.YtkgifbnkkmeoiaaLnkLives
namespace Go.Proofs.Ytkgifbnkkmeoiaa
open Go.ChangeShapes Go.WideShapes Go.ChangeAt Go.RowKit
set_option linter.unusedVariables false
set_option linter.unusedSimpArgs false

abbrev DeedN := Int × Int × Int × Int × Bool × List UInt8
def zDeed : DeedN := (0, 0, 0, 0, false, [])
def rdDeedN : Rd DeedN := rdPair 1 rdInt (rdPair 1 rdInt (rdPair 1 rdInt (rdPair 1 rdInt (rdPair 1 rdBool (rdSlice 1 rdByte)))))
theorem good_deedN : Good rdDeedN := good_pair good_int (good_pair good_int (good_pair good_int (good_pair good_int (good_pair good_bool (good_slice good_byte)))))
theorem opens_intN : Opens Try.prog 3 1 rdInt := opens_int Try.underlying3 (by kernel_rfl)
theorem opens_boolN : Opens Try.prog 4 1 rdBool := opens_bool Try.underlying4 (by kernel_rfl)
theorem opens_bytesN : Opens Try.prog 30 1 (rdSlice 1 rdByte) := opens_slice (e := 5) good_byte Try.underlying30 (opens_byte Try.underlying5 (by kernel_rfl)) (by kernel_rfl) (by omega)
theorem opens_deedN : Opens Try.prog 32 6 rdDeedN := by
  refine opens_struct (k := 6) Try.underlying32 (by kernel_rfl) ?_
  exact opensF_cons (k2 := 5) (by rfl) opens_intN (opensF_cons (k2 := 4) (by rfl) opens_intN (opensF_cons (k2 := 3) (by rfl) opens_intN (opensF_cons (k2 := 2) (by rfl) opens_intN (opensF_cons (k2 := 1) (by rfl) opens_boolN (opensF_one (by rfl) opens_bytesN)))))
theorem opens_deedsN : Opens Try.prog 22 1 (rdSlice 6 rdDeedN) := opens_slice (e := 32) good_deedN Try.underlying22 opens_deedN (by kernel_rfl) (by omega)
/-- A deed's six cells. -/
theorem deed_at {w : World} {B n c : Nat} {A : Option Addr} {l : List DeedN} (h : rdSlice 6 rdDeedN w B [.slice A n c] l) {i : Nat} (hi : i < l.length) :
    ∃ b off k f t p s d K kc, A = some ⟨b, off, none⟩ ∧ b < B ∧ InI64 k ∧
      w.cell? ⟨b, off + i * 6, none⟩ = some (.int .i64 k) ∧ w.cell? ⟨b, off + i * 6 + 1, none⟩ = some (.int .i64 f) ∧ w.cell? ⟨b, off + i * 6 + 2, none⟩ = some (.int .i64 t) ∧
      w.cell? ⟨b, off + i * 6 + 3, none⟩ = some (.int .i64 p) ∧ w.cell? ⟨b, off + i * 6 + 4, none⟩ = some (.bool s) ∧ w.cell? ⟨b, off + i * 6 + 5, none⟩ = some (.slice K d.length kc) ∧ Sl w B (.slice K (d : List UInt8).length kc) (bvals d) := by
  obtain ⟨b, off, e, hb, es, hl, hc, h⟩ := h.at_ hi
  obtain ⟨-, h1, -, h2, -, h3, -, h4, -, h5, h6⟩ := h
  match es, hl with
  | [x0, x1, x2, x3, x4, x5], _ =>
    simp only [List.take_succ_cons, List.take_zero, List.drop_succ_cons, List.drop_zero] at h1 h2 h3 h4 h5 h6
    obtain ⟨h1, hk⟩ := h1
    obtain ⟨h2, -⟩ := h2
    obtain ⟨h3, -⟩ := h3
    obtain ⟨h4, -⟩ := h4
    have h5 : [x4] = [_] := h5
    injection h1 with h1 _
    injection h2 with h2 _
    injection h3 with h3 _
    injection h4 with h4 _
    injection h5 with h5 _
    obtain ⟨K, kc, h7, -, -⟩ := rdSlice.form (v := x5) h6
    have hs : Sl w B x5 (bvals _) := rdSlice.sl (R := rdByte) (v := x5) (fun c : UInt8 => Value.int .u8 (c.toNat : Int)) (fun es x hx => hx) h6
    subst h1; subst h2; subst h3; subst h4; subst h5; subst h7
    exact ⟨b, off, _, _, _, _, _, _, K, kc, e, hb, hk, hc 0 _ rfl, hc 1 _ rfl, hc 2 _ rfl, hc 3 _ rfl, hc 4 _ rfl, hc 5 _ rfl, hs⟩
theorem Sl.slE {w : World} {B : Nat} {v : Value} {xs : List Value} (h : Sl w B v xs) : SlE w (fun k => k < B) v xs := h
/-- Both nets, new. -/
theorem both_new {w w1 W2 : World} {n : Nat} (h : NetP w1 (fun k => k = n) n []) (hn : w.heap.size ≤ n) (hb : Below w.heap.size w w1) (hW : W2 = w1.alloc (.cells #[.slice none 0 0] 28)) : BothE W2 (fun k => k < w.heap.size) n w1.heap.size [] [] := by
  have hnl := h.2.1 n rfl
  have hb2 : Below w1.heap.size w1 W2 := by rw [hW]; exact bl1 _ _
  have hz := hb.size
  refine ⟨fun k => k = n, fun k => k = w1.heap.size, h.below hb2, ⟨rfl, fun k hk => by rw [hk, hW]; simp, by rw [hW]; simp [go_sem], .slice none 0 0, [], by rw [hW]; simp [go_sem], RowA.nil_ _ _ _ _, fun g hg => (by cases hg), RowPk.nil_ _ _⟩, fun k h1 h2 => by omega, fun k h1 h2 => by omega, fun k h1 h2 => by omega, fun k h1 => by have := hb2.size; omega⟩
def PyRel (m n r N : Nat) (w : World) (i : Value) (wr : World) : Prop := ∃ (k : Nat) (L : List PK), k ≤ m ∧ k ≤ N ∧ i = .int .i64 k ∧ OkN L ∧ BothE wr (fun k => k < w.heap.size) n r L L ∧ Below w.heap.size w wr
end Go.Proofs.Ytkgifbnkkmeoiaa
