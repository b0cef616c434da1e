/- pick, the laws' helper of layer 22. -/
import Derived.Test.YtkgifbnkkmeoiaaMore
import Derived.Test.YtkgifbnkkmeoiaaReads
import Derived.OwnWalk
namespace Go.Proofs.Ytkgifbnkkmeoiaa
open Go.ChangeShapes Go.WideShapes Go.ChangeAt Go.RowKit
set_option linter.unusedVariables false
set_option linter.unusedSimpArgs false

def pickN (c n : Int) : Int := (if c < 0 then -(c + 1) else c) % n
theorem pickN_in (c n : Int) (hn : 0 < n) : 0 ≤ pickN c n ∧ pickN c n < n := ⟨Int.emod_nonneg _ (by omega), Int.emod_lt_of_pos _ hn⟩
theorem pick_any (c n : Int) (w : World) (hc : InI64 c) (hn : 0 < n) (hn2 : n ≤ 9223372036854775807) : Calls Try.prog 15 #[.int .i64 c, .int .i64 n] w fun e w' => e = .returned (.int .i64 (pickN c n)) ∧ w = w' := by
  obtain ⟨hc1, hc2⟩ := hc
  have hp : pickN c n = (if c < 0 then -(c + 1) else c) % n := rfl
  by_cases h0 : c < 0
  · rw [if_pos h0] at hp
    rw [hp]; clear hp
    have h1 := Int.tmod_eq_emod_of_nonneg (a := -(c + 1)) (b := n) (by omega)
    have h2 := Int.emod_nonneg (-(c + 1)) (show n ≠ 0 by omega)
    have h3 := Int.emod_lt_of_pos (-(c + 1)) hn
    go_enter Try.func15, Try.ntmps15
    go_wp2
    go_ret
    exact ⟨rfl, rfl⟩
  · rw [if_neg h0] at hp
    rw [hp]; clear hp
    have h1 := Int.tmod_eq_emod_of_nonneg (a := c) (b := n) (by omega)
    have h2 := Int.emod_nonneg c (show n ≠ 0 by omega)
    have h3 := Int.emod_lt_of_pos c hn
    go_enter Try.func15, Try.ntmps15
    go_wp2
    go_ret
    exact ⟨rfl, rfl⟩
end Go.Proofs.Ytkgifbnkkmeoiaa
