/-
  Checking a change: the program's way and the reference's.
-/
import Derived.Test.YtamljcdnphjgaaaPa
import Derived.Test.YtamljcdnphjgaaaGf
import Derived.Test.YtamljcdnphjgaaaGg
set_option linter.all false
set_option linter.deprecated false
set_option linter.unusedSimpArgs false
set_option linter.unusedVariables false
namespace Go.Gx.A
open Go.Gx Go.Proofs
set_option maxRecDepth 100000
set_option linter.all false
set_option maxHeartbeats 4000000
end Go.Gx.A
namespace Go.Gx.A
open Go.Gx Go.Proofs
set_option maxRecDepth 100000
set_option linter.all false
theorem u3 : Try.prog.underlying 3=some (.int .i64):=by kernel_rfl
theorem u4 : Try.prog.underlying 4=some .bool:=by kernel_rfl
theorem u25 : Try.prog.underlying 25=some (.slice 3):=by kernel_rfl
theorem n3 : Try.prog.cellsOf 3=1:=by kernel_rfl
theorem is_of {P : Program} {S : AS} {d : Nat} {t e : TypeId} {v : Value} (hu : P.underlying t=some (.slice e)) (he : P.underlying e=some (.int .i64)) (h1 : P.cellsOf e=1) (hv : S.Valid) (h : Ty P S (d + 2) t [v]) :
  ∃ l : List Int,Is S v l∧l.length ≤ maxLen∧∀ x ∈ l,-9223372036854775808 ≤ x∧x ≤ 9223372036854775807:=by
 obtain ⟨cs,g1,g2,g3⟩:=ty_slice1 hu h1 hv h
 obtain ⟨l,rfl,hl⟩:=ints_of fun c hc=>ty_int he (g3 c hc)
 have hlen : l.length ≤ maxLen:=by simpa using g2
 have hcs : l.map (Value.int .i64 ·)=ints l:=rfl
 rw [hcs] at g1
 refine ⟨l,⟨hlen,?_⟩,hlen,hl⟩
 have hc:=g1.cells
 obtain ⟨a0,c0,hsh⟩:=g1.shape
 rw [ints_len] at hsh hc
 unfold Ty at h
 rw [hu] at h
 simp only [List.cons.injEq,and_true] at h
 rcases h with rfl | rfl | ⟨n,len,cap,cells,et,rfl,h2,h3,h4,h5,h6,h7⟩
 ·have hl0 : l.length=0:=by injection hsh with _ h _; exact h.symm
  exact .inl ⟨List.length_eq_zero_iff.1 hl0,.inl rfl⟩
 ·have hl0 : l.length=0:=by injection hsh with _ h _; exact h.symm
  exact .inl ⟨List.length_eq_zero_iff.1 hl0,.inr ⟨_,_,_,rfl⟩⟩
 ·have hl0 : l.length=len:=by injection hsh with _ h _; exact h.symm
  subst hl0
  rw [h1,Nat.mul_one] at h6
  refine .inr ⟨n,0,cap,cells,et,false,true,rfl,h3,h2,hv _ _ h2 (by simp),.inl rfl,by omega,?_⟩
  simp only [srcCells,Nat.mul_one,h2] at hc
  split at hc
  ·rename_i h0
   have : l=[]:=List.length_eq_zero_iff.1 h0
   subst this; simp
  ·rw [if_pos (by omega)] at hc
   simp only [Option.some.injEq,Prod.mk.injEq,true_and] at hc
   exact hc
end Go.Gx.A
