/-
  The reference's Prove.
-/
import Derived.Test.YtamljcdnphjgaaaPz
import Derived.Test.YtamljcdnphjgaaaPu
import Derived.Test.YtamljcdnphjgaaaPt
import Derived.Test.YtamljcdnphjgaaaPx
import Derived.Test.YtamljcdnphjgaaaPy
set_option linter.all false
set_option linter.deprecated false
set_option linter.unusedSimpArgs false
set_option linter.unusedVariables false
namespace Go.Gx.A
open Go.Gx Go.Proofs
set_option maxRecDepth 100000
set_option linter.all false
set_option maxHeartbeats 4000000
@[simp] theorem rowLoad1 {v : Value} : rowLoad [v] 0 (some 1)=some (.agg #[v]):=rfl
end Go.Gx.A
namespace Go.Gx.A
open Go.Gx Go.Proofs
set_option maxRecDepth 100000
set_option linter.all false
set_option maxHeartbeats 4000000
end Go.Gx.A
namespace Go.Gx.A
open Go.Gx Go.Proofs
set_option maxRecDepth 100000
set_option linter.all false
set_option maxHeartbeats 2000000
end Go.Gx.A
namespace Go.Gx.A
open Go.Gx Go.Proofs
set_option maxRecDepth 100000
set_option linter.all false
set_option maxHeartbeats 4000000
theorem Amend_ok2 {S : AS} {va vo : Value} {c : Chg} (h : ChgAt S va vo c) {Q : En→AS→Prop}
  (hq : ∀ S' v k,Same S S' []→Oc S' v (amdR c).order→Oc S' k (amdR c).kept→(∀ m ∈ ownsOf v,S.next ≤ m)→(∀ m ∈ ownsOf k,S.next ≤ m)→(∀ m ∈ ownsOf v,m ∉ ownsOf k)→Q (.ret (.tuple #[.agg #[v,.int .i64 (amdR c).off,.int .i64 (amdR c).mov,k],.int .i64 c.check])) S') : Call G 34 [c.val va vo] S Q:=by
 by_cases hc : c.check=0
 ·have e : amdR c=c.cg.amd:=if_pos hc
  rw [e,hc] at hq
  refine Amend_ok h (fun h0=>absurd hc h0) fun _ S' w a n hs h1 h2 hn h3 h4 h5=>hq S' w _ hs h1 (h3.oc ?_) h2 h4 h5
  have ok:=check_ok hc
  have hsub:=kept_old c.old (c.cg.bests.headD [])
  have:=hsub.length_le
  have h24 : c.old.length ≤ 24:=ok.cgSm.ol
  show (kept c.old (c.cg.bests.headD [])).length ≤ 100000
  omega
 ·have e : amdR c=⟨[],0,0,[]⟩:=if_neg hc
  rw [e] at hq
  exact Amend_ok h (fun _ S' hs=>hq S' _ _ hs (.inl ⟨rfl,rfl⟩) (.inl ⟨rfl,rfl⟩) (by simp [ownsOf]) (by simp [ownsOf]) (by simp [ownsOf])) fun h0=>absurd h0 hc
end Go.Gx.A
