/-
  Lists that are made; the reference's kept list.
-/
import Derived.Test.YtamljcdnphjgaaaPl
set_option linter.all false
set_option linter.deprecated false
set_option linter.unusedSimpArgs false
set_option linter.unusedVariables false
namespace Go.Gx.A
open Go.Gx Go.Proofs
set_option maxRecDepth 100000
set_option linter.all false
set_option maxHeartbeats 4000000
def ones (l : List Int) : List (List Value):=l.map fun x=>[.int .i64 x]
theorem ones_flat (l : List Int) : (ones l).flatten=ints l:=by
 induction l with
 | nil=>rfl
 | cons x l ih=>simp only [ones,List.map_cons,List.flatten_cons] at ih ⊢; rw [ih]; rfl
@[simp] theorem ones_len (l : List Int) : (ones l).length=l.length:=by simp [ones]
def Ow (S : AS) (v : Value) (l : List Int) : Prop:=SlAt S 3 v (ones l)∧l.length ≤ 9223372036854775807
theorem Ow.is {S : AS} {v : Value} {l : List Int} (h : Ow S v l) : Is S v l:=by
 refine ⟨h.2,?_⟩
 rcases h.1 with ⟨rfl,hn⟩ | ⟨p,ex,rfl,h2,h3⟩
 ·have : l=[]:=by
   have:=congrArg List.length hn
   simp at this
   exact this
  exact .inl ⟨this,.inl rfl⟩
 ·rw [ones_flat] at h2
  refine .inr ⟨p,0,l.length,ints l,3,true,ex,by simp,Nat.le_refl _,h2,h3,.inr rfl,by simp,by rw [List.drop_zero,← ints_len,List.take_length]⟩
theorem Ow.stays {S S' : AS} {v : Value} {l : List Int} (h : Ow S v l) {fp : List Nat} (hs : Same S S' fp) (hd : ∀ m ∈ ownsOf v,m ∉ fp) : Ow S' v l:=⟨h.1.stays hs hd,h.2⟩
theorem Is.one {S : AS} {p : Nat} {x : Int} {wr ex : Bool} (h : S.get p=some (.row [.int .i64 x] 3 wr ex)) (hp : p < S.next) : Is S (.slice (some ⟨p,0,none⟩) 1 1) [x]:=Is.row (l:=[x]) h hp (by simp)
end Go.Gx.A
namespace Go.Gx.A
open Go.Gx Go.Proofs
set_option maxRecDepth 100000
set_option linter.all false
set_option maxHeartbeats 4000000
def SB (B : Nat) (S S' : AS) (fp : List Nat) : Prop:=S.next ≤ S'.next∧∀ m,m < B→m ∉ fp→S'.get m=S.get m
theorem SB.of {B : Nat} {S U V : AS} {fp gp : List Nat} (h : SB B S U fp) (k : Same U V gp) (hB : B ≤ U.next) (hg : ∀ m ∈ gp,B ≤ m ∨ m ∈ fp) : SB B S V fp:=by
 refine ⟨Nat.le_trans h.1 k.1,fun m hm hn=>?_⟩
 have : m ∉ gp:=fun hk=>by
  rcases hg m hk with h | h
  ·omega
  ·exact hn h
 rw [k.2 m (by omega) this,h.2 m hm hn]
end Go.Gx.A
namespace Go.Gx.A
open Go.Gx Go.Proofs
set_option maxRecDepth 100000
set_option linter.all false
set_option maxHeartbeats 4000000
end Go.Gx.A
namespace Go.Gx.A
open Go.Gx Go.Proofs
set_option maxRecDepth 100000
set_option linter.all false
set_option maxHeartbeats 4000000
theorem errL_nodup {l m : List Int} (h : errL [l,m]=0) : l.length ≤ 200∧m.length ≤ 200∧l.Nodup∧m.Nodup:=by
 unfold errL at h
 by_cases c1 : [l,m].any (fun l=>decide (200 < l.length))=true
 ·rw [if_pos c1] at h; cases h
 ·rw [if_neg c1] at h
  by_cases c2 : [l,m].any twice=true
  ·rw [if_pos c2] at h; cases h
  ·simp at c1 c2
   exact ⟨c1.1,c1.2,(twice_spec l).1 c2.1,(twice_spec m).1 c2.2⟩
theorem ls_two {S : AS} {v w : Value} {l m : List Int} {p : Nat} {wr ex : Bool} (h : Is S v l) (k : Is S w m) (hp : S.get p=some (.row [v,w] 25 wr ex)) (hps : p < S.next) : Ls S (.slice (some ⟨p,0,none⟩) 2 2) [v,w] [l,m]:=by
 refine ⟨⟨⟨_,_,rfl⟩,by simp [srcCells,hp],by simp [ownsOf]; exact hps⟩,rfl,by simp,fun i v' l' h1 h2=>?_⟩
 match i with
 | 0=>simp at h1 h2; subst h1; subst h2; exact h
 | 1=>simp at h1 h2; subst h1; subst h2; exact k
 | i + 2=>simp at h1
end Go.Gx.A
