/-
  The program's Moves.
-/
import Derived.Test.YtamljcdnphjgaaaPn
set_option linter.all false
set_option linter.deprecated false
set_option linter.unusedSimpArgs false
set_option linter.unusedVariables false
namespace Go.Gx.A
open Go.Gx Go.Proofs
set_option maxRecDepth 100000
set_option linter.all false
set_option maxHeartbeats 2000000
end Go.Gx.A
namespace Go.Gx.A
open Go.Gx Go.Proofs
set_option maxRecDepth 100000
set_option linter.all false
set_option maxHeartbeats 2000000
theorem app0 {T : AS} {v : Value} {l : List Int} {p fr : Nat} (h : Is T v l) (hl : l.length ≤ 100000) (hp : T.get p=some (.row [] 3 true true)) (hpn : p < T.next) (hfr : fr < T.next) :
  ∃ T' a cap,appV T fr 3 1 8 (.slice (some ⟨p,0,none⟩) 0 0) v=some (.slice a l.length cap,T')∧Oc T' (.slice a l.length cap) l∧Same T T' [fr]∧T'.next=T.next∧∀ m ∈ ownsOf (.slice a l.length cap),m=p ∨ m=fr:=by
 have hy:=h.cs.cells
 rw [ints_len] at hy
 have hsl : SlAt T 3 (.slice (some ⟨p,0,none⟩) 0 0) (ones []):=.inr ⟨p,true,rfl,by simpa [ones] using hp,hpn⟩
 by_cases hl0 : l=[]
 ·subst hl0
  refine ⟨T,some ⟨p,0,none⟩,0,?_,.inr ⟨p,0,[],true,rfl,rfl,rfl,by simpa using hp,hpn,by omega⟩,.refl _ _,rfl,fun m hm=>.inl (by simpa [ownsOf] using hm)⟩
  unfold appV
  rw [hy]
  simp
 ·have hne : ones l ≠ []:=by
   intro e
   have:=congrArg List.length e
   simp at this
   exact hl0 this
  have hnil : ∀ (q : AS) (c : List Value) (e : TypeId) (w x : Bool),True:=fun _ _ _ _ _=>trivial
  have e1 : appV T fr 3 1 8 (.slice (some ⟨p,0,none⟩) 0 0) v=some (vs fr 0 l.length l.length,T.put fr (.row (ints l) 3 true false)):=by
   unfold appV
   rw [hy]
   have : 0 < l.length:=List.length_pos_iff.2 hl0
   simp only []
   rw [if_neg (by omega),if_pos ⟨by omega,by omega,by omega⟩,hp]
   simp
  refine ⟨_,some ⟨fr,0,none⟩,l.length,e1,.inr ⟨fr,l.length,[],false,rfl,by simp,rfl,by rw [AS.get_put_self]; simp,by simpa using hfr,hl⟩,same_put _ _ _,rfl,fun m hm=>.inr (by simpa [ownsOf] using hm)⟩
end Go.Gx.A
