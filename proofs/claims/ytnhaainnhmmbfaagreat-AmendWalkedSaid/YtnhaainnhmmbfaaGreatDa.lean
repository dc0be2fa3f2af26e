/-
  The closed check, piece 1.
-/
import Derived.Test.YtnhaainnhmmbfaaGreatMa
set_option linter.all false
set_option linter.deprecated false
namespace Go.Gx.Z
open Go.Gx Go.Proofs
set_option maxRecDepth 100000
theorem m0_run : m0.isRun (callFnF tab e0 (execF tab e0 400) m0.k m0.args m0.S)=true:=by kernel_rfl
theorem m1_run : m1.isRun (callFnF tab e1 (execF tab e1 400) m1.k m1.args m1.S)=true:=by kernel_rfl
theorem m2_run : m2.isRun (callFnF tab e2 (execF tab e2 400) m2.k m2.args m2.S)=true:=by kernel_rfl
theorem m3_run : m3.isRun (callFnF tab e3 (execF tab e3 400) m3.k m3.args m3.S)=true:=by kernel_rfl
end Go.Gx.Z
