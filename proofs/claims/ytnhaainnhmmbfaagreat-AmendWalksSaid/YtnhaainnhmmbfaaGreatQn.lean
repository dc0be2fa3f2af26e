/-
  CheckWalk's choice.
-/
import Derived.Test.YtnhaainnhmmbfaaGreatQm
set_option linter.all false
set_option linter.deprecated false
namespace Go.Gx.Z
open Go.Gx Go.Proofs
set_option maxRecDepth 100000
set_option maxHeartbeats 4000000

theorem begin_facts {n : Int} {ar : List Arw} {order : List Int} {len : Nat} (hb : beginE n ar order len=0) : checkR n ar=0∧ordOk n.toNat order=true∧len≤200:=by
 unfold beginE at hb
 by_cases c1 : checkR n ar=0
 ·rw [if_neg (by simp [c1])] at hb
  cases c2 : ordOk n.toNat order with
  | true=>
   rw [if_neg (by simp [c2])] at hb
   refine ⟨c1,rfl,?_⟩
   split at hb
   ·assumption
   ·cases hb
  | false=>rw [if_pos c2] at hb; cases hb
 ·rw [if_pos c1] at hb
  exact absurd hb c1

theorem amd_mem {c : Cg} (cok : CgOk c) {x : Int} : x∈c.amd.order↔0≤x∧x < c.n:=by
 obtain ⟨q,q1,q2,q3⟩:=mem_bests.1 (List.mem_of_getElem? (bests_head c))
 show x∈c.bests.headD []↔_
 rw [q3]
 exact order_mem cok (mem_all.1 q1).1 (mem_all.1 q1).2
theorem amd_ord {c : Chg} (ok : ChgOk c) : ordOk c.cg.n c.cg.amd.order=true:=ordOk_iff.2 ⟨amd_len ok.cgOk,amd_nodup ok.cgOk,fun x hx=>(amd_mem ok.cgOk).1 hx⟩
end Go.Gx.Z
