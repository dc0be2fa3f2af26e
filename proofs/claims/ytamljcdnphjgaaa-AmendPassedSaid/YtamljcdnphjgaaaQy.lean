/-
  Arguments: guests, relations, moves, numbers.
-/
import Derived.Test.YtamljcdnphjgaaaPx
set_option linter.all false
set_option linter.deprecated false
set_option linter.unusedSimpArgs false
set_option linter.unusedVariables false
namespace Go.Gx.A
open Go.Gx Go.Proofs
set_option maxRecDepth 100000
theorem u32 : Try.prog.underlying 32=some (.slice 97):=by kernel_rfl
end Go.Gx.A
