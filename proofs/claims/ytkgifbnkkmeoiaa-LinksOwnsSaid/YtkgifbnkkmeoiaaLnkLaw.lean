/- The laws' helpers of layer 22: pick, cut. -/
import Derived.Test.YtkgifbnkkmeoiaaLnkRef2
import Derived.Test.YtkgifbnkkmeoiaaLnkPick
import Derived.Test.YtkgifbnkkmeoiaaLnkBusy2
import Derived.Test.YtkgifbnkkmeoiaaReads
namespace Go.Proofs.Ytkgifbnkkmeoiaa
open Go.ChangeShapes Go.WideShapes Go.ChangeAt Go.RowKit
set_option linter.unusedVariables false
set_option linter.unusedSimpArgs false

theorem cut_any (A : Option Addr) (l : List UInt8) (c : Nat) (w : World) (hc : l.length ≤ c) (hm : c ≤ maxLen) : Calls Try.prog 13 #[.slice A l.length c] w fun e w' => e = .returned (.slice A (l.take 20).length c) ∧ w = w' := by
  rw [List.length_take]
  generalize l.length = n at *
  unfold maxLen at hm
  by_cases h : 20 < n
  · rw [show min 20 n = 20 by omega]
    go_enter Try.func13, Try.ntmps13
    go_wp2
    go_ret
    exact ⟨rfl, rfl⟩
  · rw [show min 20 n = n by omega]
    go_enter Try.func13, Try.ntmps13
    go_wp2
    go_ret
    exact ⟨rfl, rfl⟩
end Go.Proofs.Ytkgifbnkkmeoiaa
