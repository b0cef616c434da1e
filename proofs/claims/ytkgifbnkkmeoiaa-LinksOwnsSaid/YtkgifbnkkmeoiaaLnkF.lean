/- The few floats of the net's links: their bits, and what the machine does with them. -/
import Derived.Test.YtkgifbnkkmeoiaaMore
import Derived.WalkLawsBesides
namespace Go.Proofs.Ytkgifbnkkmeoiaa
open Go.ChangeShapes Go.WideShapes Go.ChangeAt Go.RowKit
set_option linter.unusedVariables false
set_option linter.unusedSimpArgs false

/-- The bits of the float of a small number. -/
def FB (n : Nat) : Nat := if n = 1 then 4607182418800017408 else if n = 2 then 4611686018427387904 else if n = 3 then 4613937818241073152 else if n = 4 then 4616189618054758400 else if n = 5 then 4617315517961601024 else if n = 6 then 4618441417868443648 else if n = 7 then 4619567317775286272 else 0
theorem le7 {n : Nat} (h : 1 ≤ n) (h7 : n ≤ 7) : n = 1 ∨ n = 2 ∨ n = 3 ∨ n = 4 ∨ n = 5 ∨ n = 6 ∨ n = 7 := by omega
theorem conv_to {n : Nat} (h : 1 ≤ n) (h7 : n ≤ 7) (w : World) : (convert 3 75 (.int .i64 n)).run Try.prog w = .ok (.float .f64 (FB n)) w := by
  rcases le7 h h7 with rfl | rfl | rfl | rfl | rfl | rfl | rfl <;> kernel_rfl
theorem conv_of {n : Nat} (h : 1 ≤ n) (h7 : n ≤ 7) (w : World) : (convert 75 3 (.float .f64 (FB n))).run Try.prog w = .ok (.int .i64 n) w := by
  rcases le7 h h7 with rfl | rfl | rfl | rfl | rfl | rfl | rfl <;> kernel_rfl
theorem float_lt {n m : Nat} (h : 1 ≤ n) (h7 : n ≤ 7) (k : 1 ≤ m) (k7 : m ≤ 7) (w : World) : (binOp .lss 75 (.float .f64 (FB n)) (.float .f64 (FB m))).run Try.prog w = .ok (.bool (decide (n < m))) w := by
  rcases le7 h h7 with rfl | rfl | rfl | rfl | rfl | rfl | rfl <;> rcases le7 k k7 with rfl | rfl | rfl | rfl | rfl | rfl | rfl <;> kernel_rfl
theorem float_gt {n m : Nat} (h : 1 ≤ n) (h7 : n ≤ 7) (k : 1 ≤ m) (k7 : m ≤ 7) (w : World) : (binOp .gtr 75 (.float .f64 (FB n)) (.float .f64 (FB m))).run Try.prog w = .ok (.bool (decide (m < n))) w := by
  rcases le7 h h7 with rfl | rfl | rfl | rfl | rfl | rfl | rfl <;> rcases le7 k k7 with rfl | rfl | rfl | rfl | rfl | rfl | rfl <;> kernel_rfl
theorem float_ne {n : Nat} (h : 1 ≤ n) (h7 : n ≤ 7) (w : World) : (binOp .neq 75 (.float .f64 (FB n)) (.float .f64 (FB n))).run Try.prog w = .ok (.bool false) w := by
  rcases le7 h h7 with rfl | rfl | rfl | rfl | rfl | rfl | rfl <;> kernel_rfl
theorem cmake (a b : Nat) (w : World) : (Builtin.complex_ #[75, 75] 70 #[.float .f64 a, .float .f64 b]).run Try.prog w = .ok (.complex .f64 a b) w := by
  kernel_rfl
end Go.Proofs.Ytkgifbnkkmeoiaa
