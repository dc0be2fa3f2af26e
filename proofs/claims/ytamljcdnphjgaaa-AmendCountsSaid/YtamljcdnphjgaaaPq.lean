/-
  Orders checked, slices compared.
-/
import Derived.Test.YtamljcdnphjgaaaPm
import Derived.Test.YtamljcdnphjgaaaPp
import Derived.Test.YtamljcdnphjgaaaPo
import Derived.Test.YtamljcdnphjgaaaPb
import Derived.Test.YtamljcdnphjgaaaPn
set_option linter.all false
set_option linter.deprecated false
set_option linter.unusedSimpArgs false
set_option linter.unusedVariables false
namespace Go.Gx.A
open Go.Gx Go.Proofs
set_option maxRecDepth 100000
set_option linter.all false
set_option maxHeartbeats 1000000
end Go.Gx.A
namespace Go.Gx.A
open Go.Gx Go.Proofs
set_option maxRecDepth 100000
set_option linter.all false
set_option maxHeartbeats 1000000
theorem wt_step {l : List Arw} {x y : Int} {i : Nat} (h : i < l.length) : wt (l.drop i) x y=if l[i].f=x∧l[i].t=y then l[i].w else wt (l.drop (i + 1)) x y:=by
 rw [List.drop_eq_getElem_cons h]
 unfold wt
 rw [List.find?_cons]
 by_cases hc : l[i].f=x∧l[i].t=y <;> simp [hc]
theorem weight_ok {S : AS} {v : Value} {N : Int} {l : List Arw} (h : As S v l) {x y : Int} {Q : En→AS→Prop} (hq : ∀ S',Same S S' []→Q (.ret (.int .i64 (wt l x y))) S') : Call G 110 [.agg #[.int .i64 N,v],.int .i64 x,.int .i64 y] S Q:=by
 obtain ⟨a,cap,rfl⟩:=h.shape
 refine call_run' (G:=G) rfl (ext_none (by decide)) ?_
 simp
 have hsm:=h.small
 have s1 : Same S ((S.bump 1).put S.next (AObj.row [Value.int IntKind.i64 N,.slice a l.length cap] 24 true true)) []:=by
  repeat' first | exact Same.refl _ _ | apply Same.bu | (refine Same.pn ?_ (by first | omega | (simp; omega)))
 refine run_loop (fun j a' S'=>∃ i,j=l.length - i∧i ≤ l.length∧Same S S' []∧S'.get S.next=some (.row [.int .i64 N,.slice a l.length cap] 24 true true)∧Has a' 39 [(1,.int .i64 x),(2,.int .i64 y),(3,ptr S.next),(7,.int .i64 i)]∧wt l x y=wt (l.drop i) x y) _ ⟨0,rfl,by omega,s1,by simp,⟨rfl,rfl,by simp⟩,by simp⟩ ?_
 rintro _ R hR _ S1 ⟨i,rfl,hi,hs1,hg1,ha,hok⟩
 obtain ⟨z,rfl⟩:=ha.lit
 by_cases hlt : i < l.length
 ·obtain ⟨p,o,cells,e,wr,ex,h1,h2,h3,h4,h5,h6,h7,h8,h9⟩:=(h.stay0 hs1).at hlt
  have hlt' : (i : Int) < l.length:=by omega
  have hwS:=wrapS (show i < 9223372036854775807 by omega)
  rw [wt_step hlt] at hok
  by_cases c1 : l[i].f=x
  ·by_cases c2 : l[i].t=y
   ·simp [fillF,pickL,hlt,hlt',hg1,h1,h2,h6,h7,h9,c1,c2,undef]
    rw [if_pos ⟨c1,c2⟩] at hok
    rw [hok] at hq
    exact hq _ hs1
   ·simp [fillF,pickL,hlt,hlt',hg1,h1,h2,h6,h7,h9,c1,c2,undef,hwS]
    rw [if_neg (fun h=>c2 h.2)] at hok
    exact hR _ _ _ (by omega) ⟨i + 1,rfl,by omega,hs1,hg1,⟨rfl,rfl,by simp⟩,hok⟩
  ·simp [fillF,pickL,hlt,hlt',hg1,h1,h2,h6,h7,h9,c1,undef,hwS]
   rw [if_neg (fun h=>c1 h.1)] at hok
   exact hR _ _ _ (by omega) ⟨i + 1,rfl,by omega,hs1,hg1,⟨rfl,rfl,by simp⟩,hok⟩
 ·have hlt' : ¬ (i : Int) < l.length:=by omega
  obtain rfl : i=l.length:=by omega
  simp [fillF,pickL,hg1]
  rw [List.drop_length] at hok
  have : wt l x y=0:=hok
  rw [this] at hq
  exact hq _ hs1
theorem rbehind_ok {S : AS} {v w : Value} {N : Int} {l : List Arw} {ah : List Int} (h : As S v l) (k : Is S w ah) (hw : ∀ x y,0 ≤ wt l x y∧wt l x y ≤ 1000) (hl : ah.length ≤ 1000) {x : Int} {Q : En→AS→Prop}
  (hq : ∀ S',Same S S' []→Q (.ret (.int .i64 (isum (ah.map (wt l x))))) S') : Call G 109 [.agg #[.int .i64 N,v],.int .i64 x,w] S Q:=by
 obtain ⟨b,bcap,rfl⟩:=k.shape
 refine call_run' (G:=G) rfl (ext_none (by decide)) ?_
 simp
 have s1 : Same S ((S.bump 1).put S.next (AObj.row [Value.int IntKind.i64 N,v] 24 true true)) []:=by
  repeat' first | exact Same.refl _ _ | apply Same.bu | (refine Same.pn ?_ (by first | omega | (simp; omega)))
 refine run_loop (fun j a' S'=>∃ i,j=ah.length - i∧i ≤ ah.length∧Same S S' []∧S'.get S.next=some (.row [.int .i64 N,v] 24 true true)∧S.next < S'.next∧Has a' 25 [(1,.int .i64 x),(2,.slice b ah.length bcap),(3,ptr S.next),(7,.int .i64 (isum ((ah.map (wt l x)).take i))),(8,.int .i64 i)]) _ ⟨0,rfl,by omega,s1,by simp,by simp,⟨rfl,rfl,by simp [isum]⟩⟩ ?_
 rintro _ R hR _ S1 ⟨i,rfl,hi,hs1,hg1,hn1,ha⟩
 obtain ⟨z,rfl⟩:=ha.lit
 by_cases hlt : i < ah.length
 ·obtain ⟨p,o,cells,e,wr,ex,h1,h2,h3,h4,h5⟩:=(k.stay0 hs1).at hlt
  have hlt' : (i : Int) < ah.length:=by omega
  have hwS:=wrapS (show i < 9223372036854775807 by omega)
  have hwi:=hw x ah[i]
  have hb:=isum_bd (l:=(ah.map (wt l x)).take i) fun y hy=>by
   obtain ⟨z,_,rfl⟩:=List.mem_map.1 (List.mem_of_mem_take hy)
   exact hw x z
  have hbl : ((ah.map (wt l x)).take i).length ≤ 1000:=by simp; omega
  have hs : IntKind.i64.wrap (isum ((ah.map (wt l x)).take i) + wt l x ah[i])=isum ((ah.map (wt l x)).take (i + 1)):=by
   rw [wrap64 (by omega) (by omega),isum_take _ (by simpa using hlt)]; simp
  simp [fillF,pickL,hlt,hlt',hg1,h1,h2,h5]
  refine weight_ok (h.stay0 hs1) fun S2 hs2=>?_
  have hg2 : S2.get S.next=_:=(hs2.2 _ (by omega) (by simp)).trans hg1
  have h22 : S2.get p=_:=(hs2.2 p h3 (by simp)).trans h2
  simp [hg2,h1,h22,h5,hs,hwS]
  exact hR _ _ _ (by omega) ⟨i + 1,rfl,by omega,hs1.tr0 hs2,hg2,by have:=hs2.1; omega,⟨rfl,rfl,by simp⟩⟩
 ·have hlt' : ¬ (i : Int) < ah.length:=by omega
  obtain rfl : i=ah.length:=by omega
  simp [fillF,pickL]
  rw [List.take_of_length_le (by simp)]
  exact hq _ hs1
theorem offR_snoc (w : Int→Int→Int) (l : List Int) (x : Int) : offR w [] (l ++ [x])=offR w [] l + isum (l.map (w x)):=by
 rw [offR_append]
 simp [offR]
theorem roffence_ok {S : AS} {v w : Value} {N : Int} {l : List Arw} {order : List Int} (h : As S v l) (k : Is S w order) (hw : ∀ x y,0 ≤ wt l x y∧wt l x y ≤ 1000) (hl : order.length ≤ 24) {Q : En→AS→Prop}
  (hq : ∀ S',Same S S' []→Q (.ret (.int .i64 (offR (wt l) [] order))) S') : Call G 89 [.agg #[.int .i64 N,v],w] S Q:=by
 obtain ⟨b,bcap,rfl⟩:=k.shape
 refine call_run' (G:=G) rfl (ext_none (by decide)) ?_
 simp
 have s1 : Same S ((S.bump 1).put S.next (AObj.row [Value.int IntKind.i64 N,v] 24 true true)) []:=by
  repeat' first | exact Same.refl _ _ | apply Same.bu | (refine Same.pn ?_ (by first | omega | (simp; omega)))
 refine run_loop (fun j a' S'=>∃ i,j=order.length - i∧i ≤ order.length∧Same S S' []∧S'.get S.next=some (.row [.int .i64 N,v] 24 true true)∧S.next < S'.next∧Has a' 25 [(1,.slice b order.length bcap),(2,ptr S.next),(5,.int .i64 (offR (wt l) [] (order.take i))),(6,.int .i64 i)]) _ ⟨0,rfl,by omega,s1,by simp,by simp,⟨rfl,rfl,by simp [offR]⟩⟩ ?_
 rintro _ R hR _ S1 ⟨i,rfl,hi,hs1,hg1,hn1,ha⟩
 obtain ⟨z,rfl⟩:=ha.lit
 by_cases hlt : i < order.length
 ·obtain ⟨p,o,cells,e,wr,ex,h1,h2,h3,h4,h5⟩:=(k.stay0 hs1).at hlt
  obtain ⟨v',f1,f2,f3⟩:=(k.stay0 hs1).slc (lo:=none) (hi:=some (.int .i64 i)) (i:=0) (j:=i) (.inl ⟨rfl,rfl⟩) (.inr rfl) (by omega) (by omega)
  rw [List.drop_zero] at f2
  have hlt' : (i : Int) < order.length:=by omega
  have hwS:=wrapS (show i < 9223372036854775807 by omega)
  have hb:=offR_bd hw (order.take i) [] (by simp; omega)
  have hb2:=offR_bd hw (order.take (i + 1)) [] (by simp; omega)
  have e1 : order.take (i + 1)=order.take i ++ [order[i]]:=List.take_succ_eq_append_getElem hlt
  have e2:=offR_snoc (wt l) (order.take i) order[i]
  have hlt1 : (order.take (i + 1)).length ≤ 24:=by simp; omega
  have hs : IntKind.i64.wrap (offR (wt l) [] (order.take i) + isum ((order.map (wt l order[i])).take i))=offR (wt l) [] (order.take (i + 1)):=by
   rw [← List.map_take,← e2,← e1,wrap64 (by omega) (by omega)]
  simp [fillF,pickL,hlt,hlt',hg1,h1,h2,h5,f1]
  refine rbehind_ok (h.stay0 hs1) f2 hw (by simp; omega) fun S2 hs2=>?_
  have hg2 : S2.get S.next=_:=(hs2.2 _ (by omega) (by simp)).trans hg1
  have h22 : S2.get p=_:=(hs2.2 p h3 (by simp)).trans h2
  simp [hg2,h1,h22,h5,hs,hwS]
  exact hR _ _ _ (by omega) ⟨i + 1,rfl,by omega,hs1.tr0 hs2,hg2,by have:=hs2.1; omega,⟨rfl,rfl,by simp⟩⟩
 ·have hlt' : ¬ (i : Int) < order.length:=by omega
  obtain rfl : i=order.length:=by omega
  simp [fillF,pickL]
  exact hq _ hs1
end Go.Gx.A
namespace Go.Gx.A
open Go.Gx Go.Proofs
set_option maxRecDepth 100000
set_option linter.all false
set_option maxHeartbeats 1000000
end Go.Gx.A
namespace Go.Gx.A
open Go.Gx Go.Proofs
set_option maxRecDepth 100000
set_option linter.all false
set_option maxHeartbeats 1000000
def Chg.cg (c : Chg) : Cg:=⟨c.n.toNat,wt c.arrows,c.old,c.passed.toNat⟩
theorem checkOld_spec {N : Int} : ∀ (l seen : List Int),checkOld N seen l=0→(∀ x ∈ l,0 ≤ x∧x < N∧x ∉ seen)∧l.Nodup
 | [],seen,_=>⟨by simp,by simp⟩
 | x :: l,seen,h=>by
  rw [checkOld_cons] at h
  split at h
  ·cases h
  ·split at h
   ·cases h
   ·rename_i h1 h2
    obtain ⟨g1,g2⟩:=checkOld_spec l (x :: seen) h
    refine ⟨fun y hy=>?_,?_⟩
    ·rcases List.mem_cons.1 hy with rfl | hy
     ·exact ⟨by omega,by omega,h2⟩
     ·have:=g1 y hy
      simp only [List.mem_cons,not_or] at this
      exact ⟨this.1,this.2.1,this.2.2.2⟩
    ·rw [List.nodup_cons]
     exact ⟨fun hm=>(g1 x hm).2.2 (by simp),g2⟩
structure ChgOk (c : Chg) : Prop where
 n0 : 0 ≤ c.n
 n1 : c.n ≤ 24
 ar : arrsOk c.n none c.arrows=true
 nd : c.old.Nodup
 lt : ∀ x ∈ c.old,0 ≤ x∧x < c.n
 p0 : 0 ≤ c.passed
 p1 : c.passed ≤ c.old.length
 am : c.n - c.passed ≤ 8
theorem check_ok {c : Chg} (h : c.check=0) : ChgOk c:=by
 unfold Chg.check at h
 by_cases h1 : checkR c.n c.arrows=0
 ·rw [if_neg (by simp [h1])] at h
  by_cases h2 : checkOld c.n [] c.old=0
  ·rw [if_neg (by simp [h2])] at h
   split at h
   ·cases h
   ·split at h
    ·cases h
    ·obtain ⟨g1,g2,g3⟩:=checkR_pos h1
     obtain ⟨k1,k2⟩:=checkOld_spec _ _ h2
     exact ⟨g1,g2,g3,k2,fun x hx=>⟨(k1 x hx).1,(k1 x hx).2.1⟩,by omega,by omega,by omega⟩
  ·rw [if_pos h2] at h; exact absurd h h2
 ·rw [if_pos h1] at h; exact absurd h h1
theorem nodup_len {l : List Int} {n : Nat} (hn : l.Nodup) (h : ∀ x ∈ l,0 ≤ x∧x < n) : l.length ≤ n:=by
 have hnd : ((List.range n).map fun (x : Nat)=>(x : Int)).Nodup:=List.pairwise_map.2 (List.Pairwise.imp (fun h e=>h (Int.ofNat.inj e)) (List.nodup_range (n:=n)))
 have h1 : (((List.range n).map fun (x : Nat)=>(x : Int)).filter fun x=>decide (x ∈ l)).Perm l:=by
  refine (List.perm_ext_iff_of_nodup (hnd.sublist List.filter_sublist) hn).2 fun x=>?_
  rw [List.mem_filter,decide_eq_true_eq,List.mem_map]
  constructor
  ·exact fun g=>g.2
  ·intro g
   have:=h x g
   exact ⟨⟨x.toNat,by simp; omega,by omega⟩,g⟩
 have h2:=h1.length_eq
 have h3:=List.length_filter_le (fun x=>decide (x ∈ l)) ((List.range n).map fun (x : Nat)=>(x : Int))
 simp only [List.length_map,List.length_range] at h3
 omega
theorem ChgOk.cgOk {c : Chg} (h : ChgOk c) : CgOk c.cg:=⟨h.nd,fun x hx=>by have:=h.lt x hx; have:=h.n0; unfold Chg.cg; simp only; omega,by have:=h.p0; have:=h.p1; unfold Chg.cg; simp only; omega⟩
theorem ChgOk.olen {c : Chg} (h : ChgOk c) : c.old.length ≤ c.n.toNat:=nodup_len h.nd fun x hx=>by have:=h.lt x hx; have:=h.n0; omega
theorem ChgOk.cgSm {c : Chg} (h : ChgOk c) : CgSm c.cg:=by
 have h1:=h.n0
 have h2:=h.n1
 have h3:=h.olen
 have hf : c.cg.free.length ≤ 24:=by
  have : c.cg.free.length ≤ ((List.range c.cg.n).map fun (x : Nat)=>(x : Int)).length:=List.length_filter_le _ _
  simp only [List.length_map,List.length_range] at this
  have e : c.cg.n=c.n.toNat:=rfl
  omega
 exact ⟨by show c.n.toNat ≤ 24; omega,fun x y=>wt_bd (arrsOk_none h.ar).1 x y,hf,by show c.old.length ≤ 24; omega,fun x hx=>by
  have:=h.lt x (List.mem_of_mem_take hx)
  have e : c.cg.n=c.n.toNat:=rfl
  omega,h.cgOk.ps⟩
end Go.Gx.A
namespace Go.Gx.A
open Go.Gx Go.Proofs
set_option maxRecDepth 100000
set_option linter.all false
set_option maxHeartbeats 1000000
end Go.Gx.A
