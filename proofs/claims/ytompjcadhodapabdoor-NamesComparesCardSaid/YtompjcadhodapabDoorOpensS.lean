/- Arguments opened: lists of texts. -/
import Derived.Test.YtompjcadhodapabDoorQMath
import Derived.Test.YtompjcadhodapabDoorQAt
namespace Go.Proofs.YtompjcadhodapabDoor
open Go.ChangeShapes Go.WideShapes Go.ChangeAt Go.RowKit Go.Deep
set_option linter.unusedVariables false
set_option linter.unusedSimpArgs false

theorem opens_strsQ : Opens Tryd.prog 22 1 rdStrs := opens_slice (e := 9) good_str Tryd.underlying22 (opens_str Tryd.underlying9 (by kernel_rfl)) (by kernel_rfl) (by omega)
end Go.Proofs.YtompjcadhodapabDoor
