/-
  The closed check, run by the kernel.
-/
import Derived.Test.YtljbmlnddeacfaaGreatDoorFd
import Derived.Test.YtljbmlnddeacfaaGreatDoorPc

set_option linter.all false
set_option linter.deprecated false

namespace Go.Gx.B
open Go.Gx Go.Proofs
set_option maxRecDepth 100000
theorem top_run : (callFnF tab libX (execF tab libX 100) 16 [] AS.empty).isTrue = true := by kernel_rfl
theorem greeted_true (W : World) (hL : LW W) : Calls Tryz.prog 16 #[] W fun e W' => e = .returned (.bool true) ∧ RowKit.Below W.heap.size W W' := closed_run tabOK libX_ok mixed (by rw [fast_eq]; exact top_run) W hL
theorem extG_ok : ExtOK Tryz.prog LW G.ext := extOr_ok libX_ok (extOf_ok LW_stab fun k hk => by
  rw [List.mem_singleton.1 hk]
  exact ⟨⟨Tryz.f16, Tryz.func16, by kernel_rfl, by kernel_rfl⟩, fun w hL => greeted_true w hL⟩)
end Go.Gx.B
