/-
  The closed check, piece 4.
-/
import Derived.Test.YtnhaainnhmmbfaaGreatMa
set_option linter.all false
set_option linter.deprecated false
namespace Go.Gx.Z
open Go.Gx Go.Proofs
set_option maxRecDepth 100000
theorem m12_run : m12.isRun (callFnF tab e12 (execF tab e12 400) m12.k m12.args m12.S)=true:=by kernel_rfl
theorem m13_run : m13.isRun (callFnF tab e13 (execF tab e13 400) m13.k m13.args m13.S)=true:=by kernel_rfl
theorem m14_run : m14.isRun (callFnF tab e14 (execF tab e14 400) m14.k m14.args m14.S)=true:=by kernel_rfl
theorem m15_run : m15.isRun (callFnF tab e15 (execF tab e15 400) m15.k m15.args m15.S)=true:=by kernel_rfl
end Go.Gx.Z
