/-
  The program's Amend.
-/
import Derived.Test.YtnhaainnhmmbfaaGreatPs
set_option linter.all false
set_option linter.deprecated false
namespace Go.Gx.Z
open Go.Gx Go.Proofs
set_option maxRecDepth 100000
set_option maxHeartbeats 4000000

set_option maxHeartbeats 2000000
end Go.Gx.Z
