/-
  The closed check, run by the kernel in pieces.
-/
import Derived.Test.YtnhaainnhmmbfaaGreatDa
import Derived.Test.YtnhaainnhmmbfaaGreatDb
import Derived.Test.YtnhaainnhmmbfaaGreatDc
import Derived.Test.YtnhaainnhmmbfaaGreatDd
set_option linter.all false
set_option linter.deprecated false
namespace Go.Gx.Z
open Go.Gx Go.Proofs
set_option maxRecDepth 100000
theorem e0_ok : ExtOK Tryz.prog e0:=insX_ok
theorem e1_ok : ExtOK Tryz.prog e1:=memoX_ok tabOK e0_ok e0_ok mixed ⟨_,Tryz.func35,by kernel_rfl,by kernel_rfl⟩ (by rw [fast_eq]; exact m0_run)
theorem e2_ok : ExtOK Tryz.prog e2:=memoX_ok tabOK e1_ok e1_ok mixed ⟨_,Tryz.func36,by kernel_rfl,by kernel_rfl⟩ (by rw [fast_eq]; exact m1_run)
theorem e3_ok : ExtOK Tryz.prog e3:=memoX_ok tabOK e2_ok e2_ok mixed ⟨_,Tryz.func36,by kernel_rfl,by kernel_rfl⟩ (by rw [fast_eq]; exact m2_run)
theorem e4_ok : ExtOK Tryz.prog e4:=memoX_ok tabOK e3_ok e3_ok mixed ⟨_,Tryz.func13,by kernel_rfl,by kernel_rfl⟩ (by rw [fast_eq]; exact m3_run)
theorem e5_ok : ExtOK Tryz.prog e5:=memoX_ok tabOK e4_ok e4_ok mixed ⟨_,Tryz.func35,by kernel_rfl,by kernel_rfl⟩ (by rw [fast_eq]; exact m4_run)
theorem e6_ok : ExtOK Tryz.prog e6:=memoX_ok tabOK e5_ok e5_ok mixed ⟨_,Tryz.func36,by kernel_rfl,by kernel_rfl⟩ (by rw [fast_eq]; exact m5_run)
theorem e7_ok : ExtOK Tryz.prog e7:=memoX_ok tabOK e6_ok e6_ok mixed ⟨_,Tryz.func14,by kernel_rfl,by kernel_rfl⟩ (by rw [fast_eq]; exact m6_run)
theorem e8_ok : ExtOK Tryz.prog e8:=memoX_ok tabOK e7_ok e7_ok mixed ⟨_,Tryz.func35,by kernel_rfl,by kernel_rfl⟩ (by rw [fast_eq]; exact m7_run)
theorem e9_ok : ExtOK Tryz.prog e9:=memoX_ok tabOK e8_ok e8_ok mixed ⟨_,Tryz.func36,by kernel_rfl,by kernel_rfl⟩ (by rw [fast_eq]; exact m8_run)
theorem e10_ok : ExtOK Tryz.prog e10:=memoX_ok tabOK e9_ok e9_ok mixed ⟨_,Tryz.func36,by kernel_rfl,by kernel_rfl⟩ (by rw [fast_eq]; exact m9_run)
theorem e11_ok : ExtOK Tryz.prog e11:=memoX_ok tabOK e10_ok e10_ok mixed ⟨_,Tryz.func13,by kernel_rfl,by kernel_rfl⟩ (by rw [fast_eq]; exact m10_run)
theorem e12_ok : ExtOK Tryz.prog e12:=memoX_ok tabOK e11_ok e11_ok mixed ⟨_,Tryz.func16,by kernel_rfl,by kernel_rfl⟩ (by rw [fast_eq]; exact m11_run)
theorem e13_ok : ExtOK Tryz.prog e13:=memoX_ok tabOK e12_ok e12_ok mixed ⟨_,Tryz.func35,by kernel_rfl,by kernel_rfl⟩ (by rw [fast_eq]; exact m12_run)
theorem e14_ok : ExtOK Tryz.prog e14:=memoX_ok tabOK e13_ok e13_ok mixed ⟨_,Tryz.func36,by kernel_rfl,by kernel_rfl⟩ (by rw [fast_eq]; exact m13_run)
theorem e15_ok : ExtOK Tryz.prog e15:=memoX_ok tabOK e14_ok e14_ok mixed ⟨_,Tryz.func17,by kernel_rfl,by kernel_rfl⟩ (by rw [fast_eq]; exact m14_run)
theorem e16_ok : ExtOK Tryz.prog e16:=memoX_ok tabOK e15_ok e15_ok mixed ⟨_,Tryz.func18,by kernel_rfl,by kernel_rfl⟩ (by rw [fast_eq]; exact m15_run)
theorem top_run : (callFnF tab e16 (execF tab e16 400) 6 [] AS.empty).isTrue=true:=by kernel_rfl
theorem top_true (W : World) : Calls Tryz.prog 6 #[] W fun e W'=>e=.returned (.bool true)∧RowKit.Below W.heap.size W W':=closed_run tabOK e16_ok mixed (by rw [fast_eq]; exact top_run) W
end Go.Gx.Z
