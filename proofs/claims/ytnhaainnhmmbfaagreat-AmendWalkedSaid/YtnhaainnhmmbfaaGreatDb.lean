/-
  The closed check, piece 2.
-/
import Derived.Test.YtnhaainnhmmbfaaGreatMa
set_option linter.all false
set_option linter.deprecated false
namespace Go.Gx.Z
open Go.Gx Go.Proofs
set_option maxRecDepth 100000
theorem m4_run : m4.isRun (callFnF tab e4 (execF tab e4 400) m4.k m4.args m4.S)=true:=by kernel_rfl
theorem m5_run : m5.isRun (callFnF tab e5 (execF tab e5 400) m5.k m5.args m5.S)=true:=by kernel_rfl
theorem m6_run : m6.isRun (callFnF tab e6 (execF tab e6 400) m6.k m6.args m6.S)=true:=by kernel_rfl
end Go.Gx.Z
