/- 2 texts of this claim, in build order. -/
import Derived.Test.YtkdpclllenbgfaaDoorPieecdmeb
import Derived.Test.YtkdpclllenbgfaaDoorPdchlfcob
import Derived.Test.YtkdpclllenbgfaaDoorPjobeecjl
import Derived.Test.YtkdpclllenbgfaaDoorPibodohci
/- The first bytes of a slice that was handed in. -/
namespace Go.Proofs.YtkdpclllenbgfaaDoor
open Go.ChangeShapes Go.WideShapes Go.ChangeAt Go.RowKit
set_option linter.unusedVariables false
set_option linter.unusedSimpArgs false

theorem cut8 {w : World} {B : Nat} {A : Option Addr} {c m : Nat} {l : List UInt8} (h : Sl w B (.slice A l.length c) (bvals l)) :
    ∃ n : Nat, Sl w B (.slice A n c) (bvals (l.take m)) ∧ n = (l.take m).length ∧ n ≤ c ∧ (((m : Int) < (l.length : Int) ∧ m ≤ l.length ∧ n = m) ∨ (¬ (m : Int) < (l.length : Int) ∧ n = l.length)) := by
  have h' := h
  obtain ⟨A', c', e, h1, h2, h3⟩ := h'
  simp only [Value.slice.injEq] at e
  obtain ⟨rfl, e2, rfl⟩ := e
  rw [bvals_len] at h1
  by_cases hm : m < l.length
  · refine ⟨m, ?_, by rw [List.length_take]; omega, by omega, .inl ⟨by omega, by omega, rfl⟩⟩
    refine ⟨A, c, ?_, ?_, h2, fun h0 => ?_⟩
    · rw [bvals_len, List.length_take, Nat.min_eq_left (by omega)]
    · rw [bvals_len, List.length_take]; omega
    · rw [bvals_len, List.length_take] at h0
      obtain ⟨b, off, e, hb, hc⟩ := h3 (by rw [bvals_len]; omega)
      refine ⟨b, off, e, hb, fun j u hu => hc j u ?_⟩
      rw [bvals_take, List.getElem?_take] at hu
      split at hu
      · exact hu
      · exact absurd hu (by simp)
  · exact ⟨l.length, by rw [List.take_of_length_le (by omega)]; exact h, by rw [List.length_take]; omega, h1, .inr ⟨by omega, rfl⟩⟩
theorem sl_nil8 (w : World) : Sl w w.heap.size (.slice none 0 0) (bvals []) := Sl.nil_
end Go.Proofs.YtkdpclllenbgfaaDoor
/- More words on readers and on slices of bytes. -/
namespace Go.Proofs.YtkdpclllenbgfaaDoor
open Go.ChangeShapes Go.WideShapes Go.ChangeAt Go.RowKit
set_option linter.unusedVariables false

theorem bytes_lit (w : World) (l : List UInt8) (n : Nat) (hn : l.length = n) (hn' : n ≤ 1000) : Sl (w.alloc (.cells (bvals l).toArray 5)) (w.heap.size + 1) (.slice (some ⟨w.heap.size, 0, none⟩) n n) (bvals l) := by
  subst hn
  refine ⟨_, _, by rw [bvals_len], by rw [bvals_len]; exact Nat.le_refl _, by unfold maxLen; omega, fun _ => ⟨w.heap.size, 0, rfl, by omega, fun j u hu => ?_⟩⟩
  rw [World.cell?_alloc_at _ _ _ _ rfl]
  simpa using hu
theorem bytes_at (w : World) (N : Nat) (l : List UInt8) (n : Nat) (hn : l.length = n) (hn' : n ≤ 1000) (hN : w.heap.size = N) : Sl (w.alloc (.cells (bvals l).toArray 5)) (w.alloc (.cells (bvals l).toArray 5)).heap.size (.slice (some ⟨N, 0, none⟩) n n) (bvals l) := by
  subst hN
  exact (bytes_lit w l n hn hn').more (by simp)
theorem text_of {w : World} {v : Value} {l : List UInt8} (h : Sl w w.heap.size v (bvals l)) : (convert 22 9 v).run Tryd.prog w = .ok (.string ⟨l.toArray⟩) w := by
  obtain ⟨A, c, rfl, h1, h2, h3⟩ := h
  exact text_sl ⟨A, c, rfl, h1, h2, h3⟩
theorem Sl.form {w : World} {B : Nat} {v : Value} {l : List UInt8} (h : Sl w B v (bvals l)) : ∃ A c, v = .slice A l.length c ∧ l.length ≤ c ∧ c ≤ maxLen := by
  obtain ⟨A, c, rfl, h1, h2, -⟩ := h
  rw [bvals_len] at h1 ⊢
  exact ⟨A, c, rfl, h1, h2⟩
theorem RW.below {w w' : World} {B p a : Nat} {l : List UInt8} {e : Int} (h : RW w B p l a e) (hb : Below w.heap.size w w') : RW w' B p l a e := by
  have hlt := h.lt
  obtain ⟨h1, h2, h3, h4, s, h5, h6, h7, h8⟩ := h
  exact ⟨h1, h2, h3, fun i hi => frozenK hb hlt (h4 i hi), s, cellK hb hlt h5, cellK hb hlt h6, cellK hb hlt h7, h8.below (hb.mono (by omega))⟩
/-- The reader's bytes lie from N on. -/
def Apart (w : World) (p N : Nat) : Prop := ∀ b off n c, w.cell? ⟨p, 0, none⟩ = some (.slice (some ⟨b, off, none⟩) n c) → N ≤ b
theorem RW.apart {w w' : World} {B p q N a : Nat} {l : List UInt8} {e : Int} (h : RW w B p l a e) (ha : Apart w p N) (hu : Upd q w w') (hne : p ≠ q) (hq : q < N) : RW w' B p l a e := by
  have hlt := h.lt
  obtain ⟨h1, h2, h3, h4, s, h5, h6, h7, h8⟩ := h
  have hc : ∀ b i, b < w.heap.size → b ≠ q → w'.cell? ⟨b, i, none⟩ = w.cell? ⟨b, i, none⟩ := fun b i hb hbq => World.grownBy.cell_far hu _ hb (fun h => hbq (by injection h))
  refine ⟨h1, h2, h3, fun i hi => ?_, s, (hc _ _ hlt hne).trans h5, (hc _ _ hlt hne).trans h6, (hc _ _ hlt hne).trans h7, ?_⟩
  · rw [World.grownBy.frozen_far hu _ hlt (fun h => hne (by injection h))]; exact h4 i hi
  · obtain ⟨A, c, g1, g2, g3, g4⟩ := h8
    subst g1
    refine ⟨A, c, rfl, g2, g3, fun h0 => ?_⟩
    obtain ⟨b, off, g5, g6, g7⟩ := g4 h0
    subst g5
    have := ha b off _ _ h5
    exact ⟨b, off, rfl, g6, fun j u hj => (hc _ _ (by omega) (by omega)).trans (g7 j u hj)⟩
theorem Apart.upd {w w' : World} {p q N : Nat} (ha : Apart w p N) (hp : p < w.heap.size) (hu : Upd q w w') (hne : p ≠ q) : Apart w' p N := by
  intro b off n c h
  rw [World.grownBy.cell_far hu _ hp (fun h => hne (by injection h))] at h
  exact ha b off n c h
theorem Apart.below {w w' : World} {p N : Nat} (ha : Apart w p N) (hp : p < w.heap.size) (hb : Below w.heap.size w w') : Apart w' p N := by
  intro b off n c h
  rw [hb.cell (p := ⟨p, 0, none⟩) hp] at h
  exact ha b off n c h
def NewPost2 (l : List UInt8) (w : World) (e : Ending) (w' : World) : Prop := ∃ p, e = .returned (.pointer (some ⟨p, 0, none⟩)) ∧ RW w' p p l 0 0 ∧ w.heap.size ≤ p ∧ Apart w' p w.heap.size ∧ Below w.heap.size w w'
set_option maxHeartbeats 400000 in
theorem new2_any (v : Value) (l : List UInt8) (w : World) (hv : Sl w w.heap.size v (bvals l)) (hl : l.length ≤ 140737488355328) :
    Calls Tryd.prog 5 #[v] w (NewPost2 l w) := by
  have hc := clone_any v l w hv hl
  have HC := hid hc
  clear hc hv
  go_enter Tryd.func5, Tryd.ntmps5
  go_wp2_with fail
  refine HC.out.mono ?_
  rintro e w1 ⟨v1, rfl, hown, hb⟩
  have hs := Sl.of_bytes hown
  have hap : ∀ b off n c, v1 = .slice (some ⟨b, off, none⟩) n c → w.heap.size ≤ b := by
    rintro b off n c rfl
    exact (hown.lt b rfl).1
  obtain ⟨A, c, rfl, -, -, -⟩ := id hs
  simp only [bvals_len] at hs
  have HS := hid hs; have HB := hid hb; have HAP := hid hap
  clear hs hb hown hap
  go_wp2
  go_ret
  refine ⟨w1.heap.size, rfl, ?_, HB.out.size, ?_, HB.out.trans (bl1' HB.out.size _)⟩
  · refine ⟨Nat.le_refl _, by omega, hl, fun i hi => ?_, .slice A (bvals l).length c, by simp [go_sem], by simp [go_sem], by simp [go_sem], ?_⟩
    · simp [go_sem]
    · rw [bvals_len]; exact Sl.below HS.out (bl1 w1 _)
  · intro b off n c' h
    simp [go_sem] at h
    exact HAP.out b off _ _ (by rw [h.1])
theorem rw_mk {w : World} {H n c : Nat} {A : Option Addr} {s : List UInt8} {t : TypeId} (h : Sl w H (.slice A n c) (bvals s)) (hH : H ≤ w.heap.size) (hl : s.length ≤ 140737488355328) :
    RW (w.alloc (.cells #[.slice A n c, .int .i64 0, .int .i64 0] t)) H w.heap.size s 0 0 := by
  refine ⟨hH, by omega, hl, fun i hi => by simp [go_sem], _, by simp [go_sem]; rfl, by simp [go_sem], by simp [go_sem], ?_⟩
  exact Sl.below h ((Below.refl H w).alloc hH _)
theorem RW.cellA {w : World} {B p a : Nat} {l : List UInt8} {e : Int} (h : RW w B p l a e) : w.cell? ⟨p, 1, none⟩ = some (.int .i64 a) := by
  obtain ⟨_, _, _, _, _, _, h6, _, _⟩ := h
  exact h6
theorem RW.cellE {w : World} {B p a : Nat} {l : List UInt8} {e : Int} (h : RW w B p l a e) : w.cell? ⟨p, 2, none⟩ = some (.int .i64 e) := by
  obtain ⟨_, _, _, _, _, _, _, h7, _⟩ := h
  exact h7
end Go.Proofs.YtkdpclllenbgfaaDoor
