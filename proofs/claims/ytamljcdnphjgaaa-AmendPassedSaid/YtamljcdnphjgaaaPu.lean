/-
  The program's Moves.
-/
import Derived.Test.YtamljcdnphjgaaaPt
set_option linter.all false
set_option linter.deprecated false
set_option linter.unusedSimpArgs false
set_option linter.unusedVariables false
namespace Go.Gx.A
open Go.Gx Go.Proofs
set_option maxRecDepth 100000
set_option maxHeartbeats 2000000


set_option maxHeartbeats 1000000

structure BestAt (S : AS) (lo bp : Nat) (vb : Value) (vals : List Value) (b : Best) : Prop where
 row : ∃ e,S.get bp=some (.row [.int .i64 b.1.1,.int .i64 b.1.2,vb] 118 true e)
 lt : bp < S.next
 sl : SlAt S 25 vb (sing vals)
 len : vals.length=b.2.length
 pt : ∀ (i : Nat) (v : Value) (l : List Int),vals[i]?=some v→b.2[i]?=some l→Oc S v l∧∀ m∈ownsOf v,m≠bp∧m∉ownsOf vb
 ne : bp∉ownsOf vb
 hi : lo≤bp∧∀ m∈ownsOf vb,lo≤m
 inn : ∀ v∈vals,∀ m∈ownsOf v,lo≤m
structure TailAt (S V : AS) (lo bp : Nat) (vb v2 : Value) (vals2 : List Value) (L : List (List Int)) (cc : Cost) (be : Bool) : Prop where
 same : Same S V [bp]
 row : V.get bp=some (.row [.int .i64 cc.1,.int .i64 cc.2,v2] 118 true be)
 lt : bp < V.next
 sl : SlAt V 25 v2 (sing vals2)
 len : vals2.length=L.length
 pt : ∀ (i : Nat) (v : Value) (l : List Int),vals2[i]?=some v→L[i]?=some l→Oc V v l∧∀ m∈ownsOf v,m≠bp∧m∉ownsOf v2
 sub : ∀ m∈ownsOf v2,m∈ownsOf vb
 inn : ∀ v∈vals2,∀ m∈ownsOf v,lo≤m
theorem TailAt.of {S V : AS} {lo bp : Nat} {vb : Value} {vals : List Value} {b : Best} {cc : Cost} {be : Bool} (h : BestAt S lo bp vb vals b) (hs : Same S V [bp]) (g : V.get bp=some (.row [.int .i64 cc.1,.int .i64 cc.2,vb] 118 true be)) : TailAt S V lo bp vb vb vals b.2 cc be:=
 ⟨hs,g,Nat.lt_of_lt_of_le h.lt hs.1,h.sl.stays hs (fun m hm hk=>by simp at hk; exact h.ne (hk ▸ hm)),h.len,fun i v l h1 h2=>⟨(h.pt i v l h1 h2).1.stays hs fun m hm hk=>((h.pt i v l h1 h2).2 m hm).1 (by simpa using hk),(h.pt i v l h1 h2).2⟩,fun m hm=>hm,h.inn⟩



theorem amd_nodup {c : Cg} (cok : CgOk c) : c.amd.order.Nodup:=by
 obtain ⟨q,q1,q2,q3⟩:=mem_bests.1 (List.mem_of_getElem? (bests_head c))
 show (c.bests.headD []).Nodup
 rw [q3]
 exact order_nodup cok (mem_all.1 q1).1
theorem amd_len {c : Cg} (cok : CgOk c) : c.amd.order.length=c.n:=by
 obtain ⟨q,q1,q2,q3⟩:=mem_bests.1 (List.mem_of_getElem? (bests_head c))
 show (c.bests.headD []).length=_
 rw [q3,order_len,(mem_all.1 q1).2]
 exact len_free cok
end Go.Gx.A
