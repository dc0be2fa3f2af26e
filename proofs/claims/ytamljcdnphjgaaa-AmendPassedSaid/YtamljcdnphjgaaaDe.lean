/-
  The closed check, run by the kernel in pieces.
-/
import Derived.Test.YtamljcdnphjgaaaDa
import Derived.Test.YtamljcdnphjgaaaDb
import Derived.Test.YtamljcdnphjgaaaDc
import Derived.Test.YtamljcdnphjgaaaDd
set_option linter.all false
set_option linter.deprecated false
set_option linter.unusedSimpArgs false
set_option linter.unusedVariables false
namespace Go.Gx.A
open Go.Gx Go.Proofs
set_option maxRecDepth 100000
theorem e0_ok : ExtOK Try.prog e0:=insX_ok
theorem e1_ok : ExtOK Try.prog e1:=memoX_ok tabOK e0_ok e0_ok mixed ⟨_,Try.func93,by kernel_rfl,by kernel_rfl⟩ (by rw [fast_eq]; exact m0_run)
theorem e2_ok : ExtOK Try.prog e2:=memoX_ok tabOK e1_ok e1_ok mixed ⟨_,Try.func94,by kernel_rfl,by kernel_rfl⟩ (by rw [fast_eq]; exact m1_run)
theorem e3_ok : ExtOK Try.prog e3:=memoX_ok tabOK e2_ok e2_ok mixed ⟨_,Try.func94,by kernel_rfl,by kernel_rfl⟩ (by rw [fast_eq]; exact m2_run)
theorem e4_ok : ExtOK Try.prog e4:=memoX_ok tabOK e3_ok e3_ok mixed ⟨_,Try.func34,by kernel_rfl,by kernel_rfl⟩ (by rw [fast_eq]; exact m3_run)
theorem e5_ok : ExtOK Try.prog e5:=memoX_ok tabOK e4_ok e4_ok mixed ⟨_,Try.func93,by kernel_rfl,by kernel_rfl⟩ (by rw [fast_eq]; exact m4_run)
theorem e6_ok : ExtOK Try.prog e6:=memoX_ok tabOK e5_ok e5_ok mixed ⟨_,Try.func94,by kernel_rfl,by kernel_rfl⟩ (by rw [fast_eq]; exact m5_run)
theorem e7_ok : ExtOK Try.prog e7:=memoX_ok tabOK e6_ok e6_ok mixed ⟨_,Try.func37,by kernel_rfl,by kernel_rfl⟩ (by rw [fast_eq]; exact m6_run)
theorem e8_ok : ExtOK Try.prog e8:=memoX_ok tabOK e7_ok e7_ok mixed ⟨_,Try.func93,by kernel_rfl,by kernel_rfl⟩ (by rw [fast_eq]; exact m7_run)
theorem e9_ok : ExtOK Try.prog e9:=memoX_ok tabOK e8_ok e8_ok mixed ⟨_,Try.func94,by kernel_rfl,by kernel_rfl⟩ (by rw [fast_eq]; exact m8_run)
theorem e10_ok : ExtOK Try.prog e10:=memoX_ok tabOK e9_ok e9_ok mixed ⟨_,Try.func94,by kernel_rfl,by kernel_rfl⟩ (by rw [fast_eq]; exact m9_run)
theorem e11_ok : ExtOK Try.prog e11:=memoX_ok tabOK e10_ok e10_ok mixed ⟨_,Try.func34,by kernel_rfl,by kernel_rfl⟩ (by rw [fast_eq]; exact m10_run)
theorem e12_ok : ExtOK Try.prog e12:=memoX_ok tabOK e11_ok e11_ok mixed ⟨_,Try.func31,by kernel_rfl,by kernel_rfl⟩ (by rw [fast_eq]; exact m11_run)
theorem e13_ok : ExtOK Try.prog e13:=memoX_ok tabOK e12_ok e12_ok mixed ⟨_,Try.func93,by kernel_rfl,by kernel_rfl⟩ (by rw [fast_eq]; exact m12_run)
theorem e14_ok : ExtOK Try.prog e14:=memoX_ok tabOK e13_ok e13_ok mixed ⟨_,Try.func94,by kernel_rfl,by kernel_rfl⟩ (by rw [fast_eq]; exact m13_run)
theorem e15_ok : ExtOK Try.prog e15:=memoX_ok tabOK e14_ok e14_ok mixed ⟨_,Try.func59,by kernel_rfl,by kernel_rfl⟩ (by rw [fast_eq]; exact m14_run)
theorem e16_ok : ExtOK Try.prog e16:=memoX_ok tabOK e15_ok e15_ok mixed ⟨_,Try.func26,by kernel_rfl,by kernel_rfl⟩ (by rw [fast_eq]; exact m15_run)
theorem top_run : (callFnF tab e16 (execF tab e16 400) 23 [] AS.empty).isTrue=true:=by kernel_rfl
theorem top_true (W : World) : Calls Try.prog 23 #[] W fun e W'=>e=.returned (.bool true)∧RowKit.Below W.heap.size W W':=closed_run tabOK e16_ok mixed (by rw [fast_eq]; exact top_run) W
end Go.Gx.A
