/-
  Checking a change: the program's way and the reference's.
-/
import Derived.Test.YtamljcdnphjgaaaPa
import Derived.Test.YtamljcdnphjgaaaGf
import Derived.Test.YtamljcdnphjgaaaGg

set_option linter.all false
set_option linter.deprecated false
set_option linter.unusedSimpArgs false
set_option linter.unusedVariables false

namespace Go.Gx.A
open Go.Gx Go.Proofs
set_option maxRecDepth 100000
set_option linter.all false
set_option maxHeartbeats 4000000
end Go.Gx.A

/-
  Arguments of this seat; AmendChecks.
-/
namespace Go.Gx.A
open Go.Gx Go.Proofs
set_option maxRecDepth 100000
set_option linter.all false
theorem u3 : Try.prog.underlying 3 = some (.int .i64) := by kernel_rfl
theorem u4 : Try.prog.underlying 4 = some .bool := by kernel_rfl
theorem n3 : Try.prog.cellsOf 3 = 1 := by kernel_rfl
end Go.Gx.A
