/-
  The program's Moves.
-/
import Derived.Test.YtamljcdnphjgaaaPn
import Derived.Test.YtamljcdnphjgaaaPt
import Derived.Test.YtamljcdnphjgaaaPq
set_option linter.all false
set_option linter.deprecated false
set_option linter.unusedSimpArgs false
set_option linter.unusedVariables false
namespace Go.Gx.A
open Go.Gx Go.Proofs
set_option maxRecDepth 100000
set_option linter.all false
set_option maxHeartbeats 2000000
end Go.Gx.A
namespace Go.Gx.A
open Go.Gx Go.Proofs
set_option maxRecDepth 100000
set_option linter.all false
set_option maxHeartbeats 2000000
theorem app0 {T : AS} {v : Value} {l : List Int} {p fr : Nat} (h : Is T v l) (hl : l.length ≤ 100000) (hp : T.get p=some (.row [] 3 true true)) (hpn : p < T.next) (hfr : fr < T.next) :
  ∃ T' a cap,appV T fr 3 1 8 (.slice (some ⟨p,0,none⟩) 0 0) v=some (.slice a l.length cap,T')∧Oc T' (.slice a l.length cap) l∧Same T T' [fr]∧T'.next=T.next∧∀ m ∈ ownsOf (.slice a l.length cap),m=p ∨ m=fr:=by
 have hy:=h.cs.cells
 rw [ints_len] at hy
 have hsl : SlAt T 3 (.slice (some ⟨p,0,none⟩) 0 0) (ones []):=.inr ⟨p,true,rfl,by simpa [ones] using hp,hpn⟩
 by_cases hl0 : l=[]
 ·subst hl0
  refine ⟨T,some ⟨p,0,none⟩,0,?_,.inr ⟨p,0,[],true,rfl,rfl,rfl,by simpa using hp,hpn,by omega⟩,.refl _ _,rfl,fun m hm=>.inl (by simpa [ownsOf] using hm)⟩
  unfold appV
  rw [hy]
  simp
 ·have hne : ones l ≠ []:=by
   intro e
   have:=congrArg List.length e
   simp at this
   exact hl0 this
  have hnil : ∀ (q : AS) (c : List Value) (e : TypeId) (w x : Bool),True:=fun _ _ _ _ _=>trivial
  have e1 : appV T fr 3 1 8 (.slice (some ⟨p,0,none⟩) 0 0) v=some (vs fr 0 l.length l.length,T.put fr (.row (ints l) 3 true false)):=by
   unfold appV
   rw [hy]
   have : 0 < l.length:=List.length_pos_iff.2 hl0
   simp only []
   rw [if_neg (by omega),if_pos ⟨by omega,by omega,by omega⟩,hp]
   simp
  refine ⟨_,some ⟨fr,0,none⟩,l.length,e1,.inr ⟨fr,l.length,[],false,rfl,by simp,rfl,by rw [AS.get_put_self]; simp,by simpa using hfr,hl⟩,same_put _ _ _,rfl,fun m hm=>.inr (by simpa [ownsOf] using hm)⟩
end Go.Gx.A
namespace Go.Gx.A
open Go.Gx Go.Proofs
set_option maxRecDepth 100000
set_option linter.all false
set_option maxHeartbeats 2000000
theorem rless_ok {S : AS} {a b : Cost} {Q : En→AS→Prop} (hq : Q (.ret (.bool (clt a b))) S) : Call G 102 [.int .i64 a.1,.int .i64 a.2,.int .i64 b.1,.int .i64 b.2] S Q:=by
 refine call_run' (G:=G) rfl (ext_none (by decide)) ?_
 unfold clt at hq
 by_cases h1 : a.1 < b.1
 ·simp [h1,undef] at hq ⊢; exact hq
 ·by_cases h2 : a.1=b.1
  ·by_cases h3 : a.2 < b.2
   ·simp [h2,h3,undef] at hq ⊢; exact hq
   ·simp [h2,h3,undef] at hq ⊢; exact hq
  ·simp [h1,h2,undef] at hq ⊢; exact hq
structure BestAt (S : AS) (lo bp : Nat) (vb : Value) (vals : List Value) (b : Best) : Prop where
 row : ∃ e,S.get bp=some (.row [.int .i64 b.1.1,.int .i64 b.1.2,vb] 118 true e)
 lt : bp < S.next
 sl : SlAt S 25 vb (sing vals)
 len : vals.length=b.2.length
 pt : ∀ (i : Nat) (v : Value) (l : List Int),vals[i]?=some v→b.2[i]?=some l→Oc S v l∧∀ m ∈ ownsOf v,m ≠ bp∧m ∉ ownsOf vb
 ne : bp ∉ ownsOf vb
 hi : lo ≤ bp∧∀ m ∈ ownsOf vb,lo ≤ m
 inn : ∀ v ∈ vals,∀ m ∈ ownsOf v,lo ≤ m
structure TailAt (S V : AS) (lo bp : Nat) (vb v2 : Value) (vals2 : List Value) (L : List (List Int)) (cc : Cost) (be : Bool) : Prop where
 same : Same S V [bp]
 row : V.get bp=some (.row [.int .i64 cc.1,.int .i64 cc.2,v2] 118 true be)
 lt : bp < V.next
 sl : SlAt V 25 v2 (sing vals2)
 len : vals2.length=L.length
 pt : ∀ (i : Nat) (v : Value) (l : List Int),vals2[i]?=some v→L[i]?=some l→Oc V v l∧∀ m ∈ ownsOf v,m ≠ bp∧m ∉ ownsOf v2
 sub : ∀ m ∈ ownsOf v2,m ∈ ownsOf vb
 inn : ∀ v ∈ vals2,∀ m ∈ ownsOf v,lo ≤ m
theorem TailAt.of {S V : AS} {lo bp : Nat} {vb : Value} {vals : List Value} {b : Best} {cc : Cost} {be : Bool} (h : BestAt S lo bp vb vals b) (hs : Same S V [bp]) (g : V.get bp=some (.row [.int .i64 cc.1,.int .i64 cc.2,vb] 118 true be)) : TailAt S V lo bp vb vb vals b.2 cc be:=
 ⟨hs,g,Nat.lt_of_lt_of_le h.lt hs.1,h.sl.stays hs (fun m hm hk=>by simp at hk; exact h.ne (hk ▸ hm)),h.len,fun i v l h1 h2=>⟨(h.pt i v l h1 h2).1.stays hs fun m hm hk=>((h.pt i v l h1 h2).2 m hm).1 (by simpa using hk),(h.pt i v l h1 h2).2⟩,fun m hm=>hm,h.inn⟩
end Go.Gx.A
namespace Go.Gx.A
open Go.Gx Go.Proofs
set_option maxRecDepth 100000
set_option linter.all false
set_option maxHeartbeats 2000000
end Go.Gx.A
namespace Go.Gx.A
open Go.Gx Go.Proofs
set_option maxRecDepth 100000
set_option linter.all false
set_option maxHeartbeats 2000000
end Go.Gx.A
namespace Go.Gx.A
open Go.Gx Go.Proofs
set_option maxRecDepth 100000
set_option linter.all false
set_option maxHeartbeats 2000000
end Go.Gx.A
