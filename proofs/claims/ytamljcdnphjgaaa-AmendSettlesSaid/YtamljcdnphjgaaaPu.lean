/-
  The program's Moves.
-/
import Derived.Test.YtamljcdnphjgaaaPn
import Derived.Test.YtamljcdnphjgaaaPt
import Derived.Test.YtamljcdnphjgaaaPq
set_option linter.all false
set_option linter.deprecated false
set_option linter.unusedSimpArgs false
set_option linter.unusedVariables false
namespace Go.Gx.A
open Go.Gx Go.Proofs
set_option maxRecDepth 100000
set_option linter.all false
set_option maxHeartbeats 2000000
end Go.Gx.A
namespace Go.Gx.A
open Go.Gx Go.Proofs
set_option maxRecDepth 100000
set_option linter.all false
set_option maxHeartbeats 2000000
end Go.Gx.A
namespace Go.Gx.A
open Go.Gx Go.Proofs
set_option maxRecDepth 100000
set_option linter.all false
set_option maxHeartbeats 2000000
structure BestAt (S : AS) (lo bp : Nat) (vb : Value) (vals : List Value) (b : Best) : Prop where
 row : ∃ e,S.get bp=some (.row [.int .i64 b.1.1,.int .i64 b.1.2,vb] 118 true e)
 lt : bp < S.next
 sl : SlAt S 25 vb (sing vals)
 len : vals.length=b.2.length
 pt : ∀ (i : Nat) (v : Value) (l : List Int),vals[i]?=some v→b.2[i]?=some l→Oc S v l∧∀ m ∈ ownsOf v,m ≠ bp∧m ∉ ownsOf vb
 ne : bp ∉ ownsOf vb
 hi : lo ≤ bp∧∀ m ∈ ownsOf vb,lo ≤ m
 inn : ∀ v ∈ vals,∀ m ∈ ownsOf v,lo ≤ m
structure TailAt (S V : AS) (lo bp : Nat) (vb v2 : Value) (vals2 : List Value) (L : List (List Int)) (cc : Cost) (be : Bool) : Prop where
 same : Same S V [bp]
 row : V.get bp=some (.row [.int .i64 cc.1,.int .i64 cc.2,v2] 118 true be)
 lt : bp < V.next
 sl : SlAt V 25 v2 (sing vals2)
 len : vals2.length=L.length
 pt : ∀ (i : Nat) (v : Value) (l : List Int),vals2[i]?=some v→L[i]?=some l→Oc V v l∧∀ m ∈ ownsOf v,m ≠ bp∧m ∉ ownsOf v2
 sub : ∀ m ∈ ownsOf v2,m ∈ ownsOf vb
 inn : ∀ v ∈ vals2,∀ m ∈ ownsOf v,lo ≤ m
theorem TailAt.of {S V : AS} {lo bp : Nat} {vb : Value} {vals : List Value} {b : Best} {cc : Cost} {be : Bool} (h : BestAt S lo bp vb vals b) (hs : Same S V [bp]) (g : V.get bp=some (.row [.int .i64 cc.1,.int .i64 cc.2,vb] 118 true be)) : TailAt S V lo bp vb vb vals b.2 cc be:=
 ⟨hs,g,Nat.lt_of_lt_of_le h.lt hs.1,h.sl.stays hs (fun m hm hk=>by simp at hk; exact h.ne (hk ▸ hm)),h.len,fun i v l h1 h2=>⟨(h.pt i v l h1 h2).1.stays hs fun m hm hk=>((h.pt i v l h1 h2).2 m hm).1 (by simpa using hk),(h.pt i v l h1 h2).2⟩,fun m hm=>hm,h.inn⟩
end Go.Gx.A
namespace Go.Gx.A
open Go.Gx Go.Proofs
set_option maxRecDepth 100000
set_option linter.all false
set_option maxHeartbeats 2000000
end Go.Gx.A
namespace Go.Gx.A
open Go.Gx Go.Proofs
set_option maxRecDepth 100000
set_option linter.all false
set_option maxHeartbeats 2000000
theorem flat_len {α β : Type} {g : α→List β} {m : Nat} : ∀ (l : List α),(∀ x ∈ l,(g x).length ≤ m)→(l.flatMap g).length ≤ l.length * m
 | [],_=>by simp
 | a :: l,h=>by
  have h1:=flat_len l fun x hx=>h x (by simp [hx])
  have h2:=h a (by simp)
  rw [List.flatMap_cons,List.length_append,List.length_cons,Nat.succ_mul]
  omega
theorem permsR_len (n : Nat) : ∀ (k : Nat) (b : List Int),(permsR n k b).length ≤ n ^ k
 | 0,b=>by simp [permsR]
 | k + 1,b=>by
  have:=flat_len (g:=fun (x : Nat)=>if (x : Int) ∈ b then [] else permsR n k (b ++ [(x : Int)])) (m:=n ^ k) (List.range n) (fun x _=>by
   split
   ·simp
   ·exact permsR_len n k _)
  rw [List.length_range] at this
  show ((List.range n).flatMap _).length ≤ _
  rw [Nat.pow_succ,Nat.mul_comm]
  exact this
end Go.Gx.A
namespace Go.Gx.A
open Go.Gx Go.Proofs
set_option maxRecDepth 100000
set_option linter.all false
set_option maxHeartbeats 2000000
theorem amd_nodup {c : Cg} (cok : CgOk c) : c.amd.order.Nodup:=by
 obtain ⟨q,q1,q2,q3⟩:=mem_bests.1 (List.mem_of_getElem? (bests_head c))
 show (c.bests.headD []).Nodup
 rw [q3]
 exact order_nodup cok (mem_all.1 q1).1
def amdR (c : Chg) : Amd:=if c.check=0 then c.cg.amd else ⟨[],0,0,[]⟩
theorem Amend_ok' {S : AS} {va vo : Value} {c : Chg} (h : ChgAt S va vo c) {Q : En→AS→Prop}
  (hq : ∀ S' v k,Same S S' []→Is S' v (amdR c).order→Is S' k (amdR c).kept→(∀ m ∈ ownsOf v ++ ownsOf k,S.next ≤ m) →
   Q (.ret (.tuple #[.agg #[v,.int .i64 (amdR c).off,.int .i64 (amdR c).mov,k],.int .i64 c.check])) S') : Call G 34 [c.val va vo] S Q:=by
 by_cases hc : c.check=0
 ·have e : amdR c=c.cg.amd:=if_pos hc
  rw [e,hc] at hq
  refine Amend_ok h (fun h0=>absurd hc h0) fun _ S' w a n hs hw hwo hn hK hKo _=>hq S' w _ hs hw.is hK.is fun m hm=>?_
  rcases List.mem_append.1 hm with hm | hm
  ·exact hwo m hm
  ·exact hKo m hm
 ·have e : amdR c=⟨[],0,0,[]⟩:=if_neg hc
  rw [e] at hq
  exact Amend_ok h (fun _ S' hs=>hq S' _ _ hs Is.nil Is.nil (by simp [ownsOf])) fun h0=>absurd h0 hc
end Go.Gx.A
