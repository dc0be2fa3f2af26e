/-
  Orders checked, slices compared.
-/
import Derived.Test.YtamljcdnphjgaaaPm
import Derived.Test.YtamljcdnphjgaaaPp
import Derived.Test.YtamljcdnphjgaaaPo
import Derived.Test.YtamljcdnphjgaaaPb
import Derived.Test.YtamljcdnphjgaaaPn
set_option linter.all false
set_option linter.deprecated false
set_option linter.unusedSimpArgs false
set_option linter.unusedVariables false
namespace Go.Gx.A
open Go.Gx Go.Proofs
set_option maxRecDepth 100000
set_option linter.all false
set_option maxHeartbeats 1000000
end Go.Gx.A
namespace Go.Gx.A
open Go.Gx Go.Proofs
set_option maxRecDepth 100000
set_option linter.all false
set_option maxHeartbeats 1000000
theorem offR_snoc (w : Int→Int→Int) (l : List Int) (x : Int) : offR w [] (l ++ [x])=offR w [] l + isum (l.map (w x)):=by
 rw [offR_append]
 simp [offR]
end Go.Gx.A
namespace Go.Gx.A
open Go.Gx Go.Proofs
set_option maxRecDepth 100000
set_option linter.all false
set_option maxHeartbeats 1000000
end Go.Gx.A
namespace Go.Gx.A
open Go.Gx Go.Proofs
set_option maxRecDepth 100000
set_option linter.all false
set_option maxHeartbeats 1000000
def Chg.cg (c : Chg) : Cg:=⟨c.n.toNat,wt c.arrows,c.old,c.passed.toNat⟩
theorem checkOld_spec {N : Int} : ∀ (l seen : List Int),checkOld N seen l=0→(∀ x ∈ l,0 ≤ x∧x < N∧x ∉ seen)∧l.Nodup
 | [],seen,_=>⟨by simp,by simp⟩
 | x :: l,seen,h=>by
  rw [checkOld_cons] at h
  split at h
  ·cases h
  ·split at h
   ·cases h
   ·rename_i h1 h2
    obtain ⟨g1,g2⟩:=checkOld_spec l (x :: seen) h
    refine ⟨fun y hy=>?_,?_⟩
    ·rcases List.mem_cons.1 hy with rfl | hy
     ·exact ⟨by omega,by omega,h2⟩
     ·have:=g1 y hy
      simp only [List.mem_cons,not_or] at this
      exact ⟨this.1,this.2.1,this.2.2.2⟩
    ·rw [List.nodup_cons]
     exact ⟨fun hm=>(g1 x hm).2.2 (by simp),g2⟩
structure ChgOk (c : Chg) : Prop where
 n0 : 0 ≤ c.n
 n1 : c.n ≤ 24
 ar : arrsOk c.n none c.arrows=true
 nd : c.old.Nodup
 lt : ∀ x ∈ c.old,0 ≤ x∧x < c.n
 p0 : 0 ≤ c.passed
 p1 : c.passed ≤ c.old.length
 am : c.n - c.passed ≤ 8
theorem check_ok {c : Chg} (h : c.check=0) : ChgOk c:=by
 unfold Chg.check at h
 by_cases h1 : checkR c.n c.arrows=0
 ·rw [if_neg (by simp [h1])] at h
  by_cases h2 : checkOld c.n [] c.old=0
  ·rw [if_neg (by simp [h2])] at h
   split at h
   ·cases h
   ·split at h
    ·cases h
    ·obtain ⟨g1,g2,g3⟩:=checkR_pos h1
     obtain ⟨k1,k2⟩:=checkOld_spec _ _ h2
     exact ⟨g1,g2,g3,k2,fun x hx=>⟨(k1 x hx).1,(k1 x hx).2.1⟩,by omega,by omega,by omega⟩
  ·rw [if_pos h2] at h; exact absurd h h2
 ·rw [if_pos h1] at h; exact absurd h h1
theorem nodup_len {l : List Int} {n : Nat} (hn : l.Nodup) (h : ∀ x ∈ l,0 ≤ x∧x < n) : l.length ≤ n:=by
 have hnd : ((List.range n).map fun (x : Nat)=>(x : Int)).Nodup:=List.pairwise_map.2 (List.Pairwise.imp (fun h e=>h (Int.ofNat.inj e)) (List.nodup_range (n:=n)))
 have h1 : (((List.range n).map fun (x : Nat)=>(x : Int)).filter fun x=>decide (x ∈ l)).Perm l:=by
  refine (List.perm_ext_iff_of_nodup (hnd.sublist List.filter_sublist) hn).2 fun x=>?_
  rw [List.mem_filter,decide_eq_true_eq,List.mem_map]
  constructor
  ·exact fun g=>g.2
  ·intro g
   have:=h x g
   exact ⟨⟨x.toNat,by simp; omega,by omega⟩,g⟩
 have h2:=h1.length_eq
 have h3:=List.length_filter_le (fun x=>decide (x ∈ l)) ((List.range n).map fun (x : Nat)=>(x : Int))
 simp only [List.length_map,List.length_range] at h3
 omega
theorem ChgOk.cgOk {c : Chg} (h : ChgOk c) : CgOk c.cg:=⟨h.nd,fun x hx=>by have:=h.lt x hx; have:=h.n0; unfold Chg.cg; simp only; omega,by have:=h.p0; have:=h.p1; unfold Chg.cg; simp only; omega⟩
theorem ChgOk.olen {c : Chg} (h : ChgOk c) : c.old.length ≤ c.n.toNat:=nodup_len h.nd fun x hx=>by have:=h.lt x hx; have:=h.n0; omega
theorem ChgOk.cgSm {c : Chg} (h : ChgOk c) : CgSm c.cg:=by
 have h1:=h.n0
 have h2:=h.n1
 have h3:=h.olen
 have hf : c.cg.free.length ≤ 24:=by
  have : c.cg.free.length ≤ ((List.range c.cg.n).map fun (x : Nat)=>(x : Int)).length:=List.length_filter_le _ _
  simp only [List.length_map,List.length_range] at this
  have e : c.cg.n=c.n.toNat:=rfl
  omega
 exact ⟨by show c.n.toNat ≤ 24; omega,fun x y=>wt_bd (arrsOk_none h.ar).1 x y,hf,by show c.old.length ≤ 24; omega,fun x hx=>by
  have:=h.lt x (List.mem_of_mem_take hx)
  have e : c.cg.n=c.n.toNat:=rfl
  omega,h.cgOk.ps⟩
end Go.Gx.A
namespace Go.Gx.A
open Go.Gx Go.Proofs
set_option maxRecDepth 100000
set_option linter.all false
set_option maxHeartbeats 1000000
end Go.Gx.A
