/-
  The closed check, piece 3.
-/
import Derived.Test.YtnhaainnhmmbfaaGreatMa
set_option linter.all false
set_option linter.deprecated false
namespace Go.Gx.Z
open Go.Gx Go.Proofs
set_option maxRecDepth 100000
theorem m7_run : m7.isRun (callFnF tab e7 (execF tab e7 400) m7.k m7.args m7.S)=true:=by kernel_rfl
theorem m8_run : m8.isRun (callFnF tab e8 (execF tab e8 400) m8.k m8.args m8.S)=true:=by kernel_rfl
theorem m9_run : m9.isRun (callFnF tab e9 (execF tab e9 400) m9.k m9.args m9.S)=true:=by kernel_rfl
theorem m10_run : m10.isRun (callFnF tab e10 (execF tab e10 400) m10.k m10.args m10.S)=true:=by kernel_rfl
theorem m11_run : m11.isRun (callFnF tab e11 (execF tab e11 400) m11.k m11.args m11.S)=true:=by kernel_rfl
end Go.Gx.Z
