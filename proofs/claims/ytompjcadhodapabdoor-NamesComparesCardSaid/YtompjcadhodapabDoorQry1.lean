/- slices.Equal at []string, names.Under, names.Up. Printed by wip/gen_clone.py (second part). -/
import Derived.Test.YtompjcadhodapabDoorCloneS
import Derived.Test.YtompjcadhodapabDoorUnder
namespace Go.Proofs.YtompjcadhodapabDoor
open Go.ChangeShapes Go.WideShapes Go.ChangeAt Go.RowKit
set_option linter.unusedVariables false
set_option linter.unusedSimpArgs false

theorem rdSlice.full_ {α : Type} {k : Nat} {R : Rd α} {w : World} {B : Nat} {A : Option Addr} {n c : Nat} {l : List α} (h : rdSlice k R w B [.slice A n c] l) : rdSlice k R w B [.slice A n n] l := by
  obtain ⟨A', c', e, h1, h2, h3⟩ := h
  simp only [List.cons.injEq, and_true] at e
  injection e with e1 e2 e3
  subst e1; subst e2; subst e3
  exact ⟨A, l.length, rfl, by omega, by omega, h3⟩
theorem up_any (v : Value) (n : Int) (p : List ByteArray) (w : World) (hv : rdStrs w w.heap.size [v] p) (hp : p.length ≤ 1073741824) :
    Calls Tryd.prog 14 #[v, .int .i64 n] w (StrsPost (upS p n) w) := by
  obtain ⟨A1, c1, e, hc1, hm1⟩ := hv.open_
  simp only [List.cons.injEq, and_true] at e
  subst e
  obtain ⟨m, hm, hmn⟩ : ∃ m : Nat, m ≤ p.length ∧ max 0 (min n (p.length : Int)) = (m : Int) := ⟨(max 0 (min n (p.length : Int))).toNat, by omega, by omega⟩
  have hres : upS p n = p.take m := by
    unfold upS
    rcases Int.lt_or_le n (p.length : Int) with h | h
    · congr 1; omega
    · rw [List.take_of_length_le (by omega), List.take_of_length_le (by omega)]
  have hlm : (p.take m).length = m := by rw [List.length_take]; omega
  rw [hres]
  have HC := hid (cloneS_any _ _ w (hv.head_ hm).full_ (by omega))
  generalize p.take m = q at *
  generalize hpl : p.length = pl at *
  clear hv hres
  rcases (show (n ≤ 0 ∧ m = 0) ∨ (0 < m ∧ n = (m : Int)) ∨ ((pl : Int) < n ∧ m = pl) by omega) with ⟨h1, rfl⟩ | ⟨h1, rfl⟩ | ⟨h1, rfl⟩
  all_goals
    clear hmn
    go_enter Tryd.func14, Tryd.ntmps14
    go_wp2_with fail
    all_goals first
      | (exfalso; omega)
      | (refine HC.out.mono ?_
         rintro e w1 ⟨r, rfl, ho, hb⟩
         go_wp2
         go_ret
         exact ⟨r, rfl, ho, hb⟩)
      | (obtain rfl : m = 0 := by omega
         refine HC.out.mono ?_
         rintro e w1 ⟨r, rfl, ho, hb⟩
         go_wp2
         go_ret
         exact ⟨r, rfl, ho, hb⟩)
end Go.Proofs.YtompjcadhodapabDoor
