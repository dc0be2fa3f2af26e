/-
  Moves lead from one list to the other, and how many there are (plain).
-/
import Derived.Test.YtamljcdnphjgaaaPx
set_option linter.all false
set_option linter.deprecated false
set_option linter.unusedSimpArgs false
set_option linter.unusedVariables false
namespace Go.Gx.A
open Go.Gx Go.Proofs
set_option maxRecDepth 100000

set_option maxHeartbeats 2000000
theorem holds_ok {S : AS} {v : Value} {l : List Int} {n : Int} (h : Is S v l) {Q : En→AS→Prop} (hq : Q (.ret (.bool (decide (n∈l)))) S) : Call G 58 [v,.int .i64 n] S Q:=by
 obtain ⟨a,cap,rfl⟩:=h.shape
 refine call_run' (G:=G) rfl (ext_none (by decide)) ?_
 simp
 have hsm:=h.small
 refine run_loop (fun j a' S'=>∃ i,j=l.length - i∧i≤l.length∧S'=S∧Has a' 17 [(1,.int .i64 n),(7,.slice a l.length cap),(8,.int .i64 l.length),(9,.int .i64 i)]∧(n∈l↔n∈l.drop i)) _ ⟨0,rfl,by omega,rfl,⟨rfl,rfl,by simp⟩,by simp⟩ ?_
 rintro _ R hR _ _ ⟨i,rfl,hi,rfl,ha,hne⟩
 obtain ⟨x,rfl⟩:=ha.lit
 by_cases hlt : i < l.length
 ·obtain ⟨p,o,cells,e,wr,ex,h1,h2,h3,h4,h5⟩:=h.at hlt
  rw [List.drop_eq_getElem_cons hlt,List.mem_cons] at hne
  by_cases h0 : l[i]=n
  ·have : n∈l:=hne.2 (.inl h0.symm)
   simp [fillF,pickL,hlt,h1,h2,h5,h0]
   simp [this] at hq
   exact hq
  ·simp [fillF,pickL,hlt,h1,h2,h5,h0]
   refine hR _ _ _ (by omega) ⟨i + 1,rfl,by omega,rfl,⟨rfl,rfl,by simp [wrapS (show i < 9223372036854775807 by omega)]⟩,?_⟩
   rw [hne]
   simp [Ne.symm h0]
 ·have : i=l.length:=by omega
  subst this
  simp at hne
  simp [hne] at hq
  simp [fillF,pickL]
  exact hq
end Go.Gx.A
