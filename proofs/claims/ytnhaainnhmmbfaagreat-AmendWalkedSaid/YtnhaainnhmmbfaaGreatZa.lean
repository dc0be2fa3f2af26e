/-
  The relation of some guests, as the reference makes it (no program in sight).
-/
import Derived.Test.YtnhaainnhmmbfaaGreatQm
set_option linter.all false
set_option linter.deprecated false
namespace Go.Gx.Z
open Go.Gx Go.Proofs
theorem pw_eq {α : Type} {R : α→α→Prop} (irr : ∀ a,¬ R a a) (tr : ∀ a b c,R a b→R b c→R a c) : ∀ {l m : List α},l.Pairwise R→m.Pairwise R→(∀ x,x∈l↔x∈m)→l=m
 | [],[],_,_,_=>rfl
 | [],b :: m,_,_,h=>absurd ((h b).2 (List.mem_cons_self ..)) (by simp)
 | a :: l,[],_,_,h=>absurd ((h a).1 (List.mem_cons_self ..)) (by simp)
 | a :: l,b :: m,hl,hm,h=>by
  rw [List.pairwise_cons] at hl hm
  have e : a=b:=by
   rcases List.mem_cons.1 ((h a).1 (List.mem_cons_self ..)) with h1 | h1
   ·exact h1
   ·rcases List.mem_cons.1 ((h b).2 (List.mem_cons_self ..)) with h2 | h2
    ·exact h2.symm
    ·exact absurd (tr _ _ _ (hl.1 b h2) (hm.1 a h1)) (irr a)
  subst e
  rw [pw_eq irr tr hl.2 hm.2 fun x=>?_]
  constructor
  ·intro hx
   rcases List.mem_cons.1 ((h x).1 (List.mem_cons_of_mem _ hx)) with rfl | h1
   ·exact absurd (hl.1 x hx) (irr x)
   ·exact h1
  ·intro hx
   rcases List.mem_cons.1 ((h x).2 (List.mem_cons_of_mem _ hx)) with rfl | h1
   ·exact absurd (hm.1 x hx) (irr x)
   ·exact h1
theorem ltA_irr (a : Arw) : ¬ ltA a a=true:=by unfold ltA; simp
theorem ltA_tr (a b c : Arw) (h : ltA a b=true) (k : ltA b c=true) : ltA a c=true:=by
 unfold ltA at *
 simp only [decide_eq_true_eq] at *
 omega
theorem ix_at {stay : List Int} (hs : stay.Pairwise (· < ·)) {i : Nat} (hi : i < stay.length) : ixI stay stay[i]=i:=by
 obtain ⟨j,hj,h1,h2,_⟩:=ixI_some (ixI_mem.2 (List.getElem_mem hi))
 rw [hj]
 rw [List.getElem?_eq_getElem h1] at h2
 simp only [Option.some.injEq] at h2
 rw [List.pairwise_iff_getElem] at hs
 by_cases c1 : i < j
 ·have:=hs i j hi h1 c1; omega
 ·by_cases c2 : j < i
  ·have:=hs j i h1 hi c2; omega
  ·omega
def arAt (l : List Arw) (x y : Int) : Option Arw:=l.find? fun z=>decide (z.f=x∧z.t=y)
theorem arAt_some {l : List Arw} (hl : l.Pairwise fun x y=>ltA x y=true) {x y : Int} {z : Arw} : arAt l x y=some z↔z∈l∧z.f=x∧z.t=y:=by
 unfold arAt
 constructor
 ·intro h
  have h1:=List.find?_some h
  have h2:=List.mem_of_find?_eq_some h
  simp only [decide_eq_true_eq] at h1
  exact ⟨h2,h1⟩
 ·rintro ⟨h1,h2,h3⟩
  induction l with
  | nil=>simp at h1
  | cons a l ih=>
   rw [List.pairwise_cons] at hl
   rw [List.find?_cons]
   rcases List.mem_cons.1 h1 with rfl | h1
   ·simp [h2,h3]
   ·have:=hl.1 z h1
    unfold ltA at this
    simp only [decide_eq_true_eq] at this
    have hn : ¬ (a.f=x∧a.t=y):=by omega
    simp only [hn,decide_false]
    exact ih hl.2 h1
def cellR (stay : List Int) (l : List Arw) (a b : Nat) : Option Arw:=(arAt l (stay.getD a 0) (stay.getD b 0)).map fun z=>⟨a,b,z.r,z.w⟩
def rowR (stay : List Int) (l : List Arw) (a k : Nat) : List Arw:=(List.range k).filterMap (cellR stay l a)
def refR (stay : List Int) (l : List Arw) (j : Nat) : List Arw:=(List.range j).flatMap fun a=>rowR stay l a stay.length
theorem rowR_succ (stay : List Int) (l : List Arw) (a k : Nat) : rowR stay l a (k + 1)=rowR stay l a k ++ (cellR stay l a k).toList:=by
 unfold rowR
 rw [List.range_succ,List.filterMap_append]
 congr 1
 all_goals (cases h : cellR stay l a k <;> simp [h])
theorem refR_succ (stay : List Int) (l : List Arw) (j : Nat) : refR stay l (j + 1)=refR stay l j ++ rowR stay l j stay.length:=by
 unfold refR
 rw [List.range_succ,List.flatMap_append]
 all_goals simp
theorem mem_rowR {stay : List Int} {l : List Arw} {a k : Nat} {y : Arw} : y∈rowR stay l a k↔∃ b,b < k∧cellR stay l a b=some y:=by
 unfold rowR
 simp [List.mem_filterMap]
theorem rowR_pw (stay : List Int) (l : List Arw) (a : Nat) : ∀ k,(rowR stay l a k).Pairwise fun x y=>ltA x y=true
 | 0=>by simp [rowR]
 | k + 1=>by
  rw [rowR_succ,List.pairwise_append]
  refine ⟨rowR_pw stay l a k,by cases cellR stay l a k <;> simp,fun x hx y hy=>?_⟩
  obtain ⟨b,hb,h1⟩:=mem_rowR.1 hx
  unfold cellR at h1 hy
  simp only [Option.map_eq_some_iff] at h1
  obtain ⟨z,_,rfl⟩:=h1
  rw [Option.mem_toList,Option.map_eq_some_iff] at hy
  obtain ⟨u,_,rfl⟩:=hy
  unfold ltA
  simp only [decide_eq_true_eq]
  exact .inr ⟨trivial,by omega⟩
theorem refR_pw (stay : List Int) (l : List Arw) : ∀ j,(refR stay l j).Pairwise fun x y=>ltA x y=true
 | 0=>by simp [refR]
 | j + 1=>by
  rw [refR_succ,List.pairwise_append]
  refine ⟨refR_pw stay l j,rowR_pw stay l j _,fun x hx y hy=>?_⟩
  unfold refR at hx
  obtain ⟨a,ha,h1⟩:=List.mem_flatMap.1 hx
  obtain ⟨b,hb,h2⟩:=mem_rowR.1 h1
  obtain ⟨c,hc,h3⟩:=mem_rowR.1 hy
  unfold cellR at h2 h3
  rw [Option.map_eq_some_iff] at h2 h3
  obtain ⟨z,_,rfl⟩:=h2
  obtain ⟨u,_,rfl⟩:=h3
  rw [List.mem_range] at ha
  unfold ltA
  simp only [decide_eq_true_eq]
  omega
theorem refR_eq {stay : List Int} (hs : stay.Pairwise (· < ·)) {l : List Arw} (hl : l.Pairwise fun x y=>ltA x y=true) : refR stay l stay.length=rsArr stay l:=by
 refine pw_eq (R:=fun x y=>ltA x y=true) ltA_irr ltA_tr (refR_pw _ _ _) (rsArr_pw hs hl) fun y=>?_
 unfold refR rsArr
 rw [List.mem_flatMap,List.mem_filterMap]
 constructor
 ·rintro ⟨a,ha,h1⟩
  obtain ⟨b,hb,h2⟩:=mem_rowR.1 h1
  rw [List.mem_range] at ha
  unfold cellR at h2
  rw [Option.map_eq_some_iff] at h2
  obtain ⟨z,h3,rfl⟩:=h2
  obtain ⟨h4,h5,h6⟩:=(arAt_some hl).1 h3
  rw [List.getD_eq_getElem?_getD,List.getElem?_eq_getElem ha,Option.getD_some] at h5
  rw [List.getD_eq_getElem?_getD,List.getElem?_eq_getElem hb,Option.getD_some] at h6
  refine ⟨z,h4,?_⟩
  unfold rsA
  rw [h5,h6,if_pos ⟨List.getElem_mem ha,List.getElem_mem hb⟩,ix_at hs ha,ix_at hs hb]
 ·rintro ⟨z,h1,h2⟩
  obtain ⟨⟨h3,h4⟩,rfl⟩:=rsA_some h2
  obtain ⟨i,hi,i1,i2,_⟩:=ixI_some (ixI_mem.2 h3)
  obtain ⟨j,hj,j1,j2,_⟩:=ixI_some (ixI_mem.2 h4)
  refine ⟨i,by simpa using i1,mem_rowR.2 ⟨j,j1,?_⟩⟩
  unfold cellR
  rw [List.getD_eq_getElem?_getD,i2,Option.getD_some,List.getD_eq_getElem?_getD,j2,Option.getD_some,(arAt_some hl).2 ⟨h1,rfl,rfl⟩,hi,hj]
  rfl

set_option maxRecDepth 100000
set_option maxHeartbeats 4000000
theorem rin_ok {S : AS} {va : Value} {n x : Int} {Q : En→AS→Prop} (hq : ∀ S',Same S S' []→Q (.ret (.bool (decide (0≤x∧x < n)))) S') : Call G 84 [.agg #[.int .i64 n,va],.int .i64 x] S Q:=by
 refine call_run' (G:=G) rfl (ext_none (by decide)) ?_
 simp
 generalize hS1 : AS.put _ _ _=S1
 have s1 : Same S S1 []:=by rw [← hS1]; exact ((Same.refl _ _).bu).pn (by omega)
 have g0 : S1.get S.next=some (.row [.int .i64 n,va] 24 true true):=by rw [← hS1]; simp
 clear hS1
 by_cases c1 : 0≤x
 ·by_cases c2 : x < n
  ·rw [decide_eq_true ⟨c1,c2⟩] at hq
   simp [g0,c1,c2]
   exact hq _ s1
  ·rw [decide_eq_false (fun h=>c2 h.2)] at hq
   simp [g0,c1,c2]
   exact hq _ s1
 ·rw [decide_eq_false (fun h=>c1 h.1)] at hq
  simp [g0,c1]
  exact hq _ s1
def arZ : Option Arw→Arw
 | some z=>z
 | none=>⟨0,0,0,0⟩
theorem rarrow_ok {S : AS} {v : Value} {N : Int} {l : List Arw} {a b : Int} (h : As S v l) (hc : checkR N l=0) {Q : En→AS→Prop}
  (hq : ∀ S',Same S S' []→Q (.ret (.tuple #[.agg (arZ (arAt l a b)).cells.toArray,.bool (arAt l a b).isSome])) S') : Call G 85 [.agg #[.int .i64 N,v],.int .i64 a,.int .i64 b] S Q:=by
 obtain ⟨va,vcap,rfl⟩:=h.shape
 have hsm:=h.small
 refine call_run' (G:=G) rfl (ext_none (by decide)) ?_
 simp
 generalize hS1 : AS.put (AS.put (AS.bump S 2) _ _) _ _=S1
 have s1 : Same S S1 []:=by rw [← hS1]; exact (((Same.refl _ _).bu).pn (by omega)).pn (by omega)
 have g0 : S1.get S.next=some (.row [.int .i64 N,.slice va l.length vcap] 24 true true):=by rw [← hS1]; simp
 have g1 : S1.get (S.next + 1)=some (.row [.int .i64 0,.int .i64 0,.int .i64 0,.int .i64 0] 86 true true):=by rw [← hS1]; simp
 have hn1 : S1.next=S.next + 2:=by rw [← hS1]; simp
 clear hS1
 refine refCheck_ok (h.stay0 s1) fun S2 hs2=>?_
 rw [hc]
 have hs02:=s1.tr0 hs2
 have hn2:=hs2.1
 have k0 : S2.get S.next=_:=(hs2.2 _ (by omega) (by simp)).trans g0
 have k1 : S2.get (S.next + 1)=_:=(hs2.2 _ (by omega) (by simp)).trans g1
 simp
 refine run_loop (fun j a' S'=>∃ i,j=l.length - i∧i≤l.length∧S'=S2∧(l.take i).find? (fun z=>decide (z.f=a∧z.t=b))=none∧Has a' 44 [(1,.int .i64 a),(2,.int .i64 b),(3,ptr S.next),(6,ptr (S.next + 1)),(7,.bool false),(8,.int .i64 i)]) _
  ⟨0,rfl,by omega,rfl,by simp,⟨rfl,rfl,by simp⟩⟩ ?_
 rintro _ R hR _ S5 ⟨i,rfl,hi,hS5,hf,hA⟩
 subst hS5
 obtain ⟨x,rfl⟩:=hA.lit
 by_cases hlt : i < l.length
 ·have hwS:=wrapS (show i < 9223372036854775807 by omega)
  have hlt' : (i : Int) < l.length:=by omega
  have hps : Ps S5 4 (.slice va l.length vcap) ((l.map aq).map q4C):=by rw [aq_cells]; exact (h.stay0 hs02).ps
  obtain ⟨p,o,cells,e,wr,ex,h1,h2,h3,h4,h5,h6,h7,_⟩:=q4_at hps (i:=i) (by simpa using hlt)
  simp at h5 h6 h7
  have hstep : (l.take (i + 1)).find? (fun z=>decide (z.f=a∧z.t=b))=if l[i].f=a∧l[i].t=b then some l[i] else none:=by
   rw [List.take_add_one,List.getElem?_eq_getElem hlt,List.find?_append,hf]
   simp only [Option.toList_some,List.find?_cons,List.find?_nil,Option.none_or]
   by_cases hc : l[i].f=a∧l[i].t=b
   ·simp [hc]
   ·simp [hc]
  have hat : l[i].f=a∧l[i].t=b→arAt l a b=some l[i]:=fun hc=>by
   rw [if_pos hc] at hstep
   unfold arAt
   conv=>lhs; rw [← List.take_append_drop (i + 1) l]
   rw [List.find?_append,hstep]; rfl
  generalize l[i]=y at h5 h6 h7 hstep hat
  obtain ⟨yf,yt,yr,yw⟩:=y
  simp only [aq] at h5 h6 h7 hstep hat
  by_cases c1 : yf=a
  ·by_cases c2 : yt=b
   ·have e1:=hat ⟨c1,c2⟩
    rw [e1] at hq
    subst c1
    subst c2
    simp [fillF,pickL,k0,k1,hlt,hlt',h1,h2,h5,h6,h7,q4C,placeIn,splice,rowStore,okc]
    refine hq _ (hs02.pn (by omega))
   ·rw [if_neg (fun h=>c2 h.2)] at hstep
    subst c1
    simp [fillF,pickL,k0,k1,hlt,hlt',h1,h2,h5,h6,h7,c2,hwS]
    exact hR _ _ _ (by omega) ⟨i + 1,rfl,by omega,rfl,hstep,⟨rfl,rfl,by simp⟩⟩
  ·rw [if_neg (fun h=>c1 h.1)] at hstep
   simp [fillF,pickL,k0,k1,hlt,hlt',h1,h2,h5,h6,h7,c1,hwS]
   exact hR _ _ _ (by omega) ⟨i + 1,rfl,by omega,rfl,hstep,⟨rfl,rfl,by simp⟩⟩
 ·obtain rfl : i=l.length:=by omega
  rw [List.take_length] at hf
  have e1 : arAt l a b=none:=hf
  rw [e1] at hq
  simp [fillF,pickL,k0,k1,placeIn,splice,rowStore,okc]
  refine hq _ (hs02.pn (by omega))

theorem sorted_ne {stay : List Int} (hs : stay.Pairwise (· < ·)) {i k : Nat} (hi : i < stay.length) (hk : k < i) : stay[k]'(by omega)≠stay[i]:=by
 rw [List.pairwise_iff_getElem] at hs
 have:=hs k i (by omega) hi hk
 omega
theorem rowR_len (stay : List Int) (l : List Arw) (a k : Nat) : (rowR stay l a k).length≤k:=by
 unfold rowR
 have:=List.length_filterMap_le (cellR stay l a) (List.range k)
 simpa using this
theorem refR_len (stay : List Int) (l : List Arw) : ∀ j,(refR stay l j).length≤j * stay.length
 | 0=>by simp [refR]
 | j + 1=>by
  rw [refR_succ,List.length_append,Nat.add_mul,Nat.one_mul]
  have:=refR_len stay l j
  have:=rowR_len stay l j stay.length
  omega
theorem rrestrict_ok {S : AS} {va w : Value} {n : Nat} {l : List Arw} {stay : List Int} (h : As S va l) (k : Is S w stay) (hc : checkR n l=0) (hl : l.length≤100000) (hs : stay.Pairwise (· < ·)) (hb : ∀ x∈stay,0≤x∧x < n) (hsl : stay.length≤24)
  {Q : En→AS→Prop} (hq : ∀ S' v,Same S S' []→As S' v (rsArr stay l)→(∀ m∈ownsOf v,S.next≤m)→Q (.ret (.tuple #[.agg #[.int .i64 stay.length,v],.int .i64 0])) S') : Call G 62 [.agg #[.int .i64 n,va],w] S Q:=by
 obtain ⟨aa,acap,rfl⟩:=h.shape
 obtain ⟨ka,kcap,rfl⟩:=k.shape
 obtain ⟨hN0,hN1,har⟩:=checkR_pos hc
 refine call_run' (G:=G) rfl (ext_none (by decide)) ?_
 simp
 generalize hS1 : AS.put (AS.put (AS.bump S 2) _ _) _ _=S1
 have s1 : Same S S1 []:=by rw [← hS1]; exact (((Same.refl _ _).bu).pn (by omega)).pn (by omega)
 have g0 : S1.get S.next=some (.row [.int .i64 n,.slice aa l.length acap] 24 true true):=by rw [← hS1]; simp
 have g1 : S1.get (S.next + 1)=some (.row [.int .i64 0,.slice none 0 0] 24 true true):=by rw [← hS1]; simp
 have hn1 : S1.next=S.next + 2:=by rw [← hS1]; simp
 clear hS1
 refine refCheck_ok (h.stay0 s1) fun S2 hs2=>?_
 rw [hc]
 have t0 : S2.get S.next=_:=(hs2.2 _ (by omega) (by simp)).trans g0
 have t1 : S2.get (S.next + 1)=_:=(hs2.2 _ (by omega) (by simp)).trans g1
 have hs02:=s1.tr0 hs2
 have hn2:=hs2.1
 simp
 refine run_loop (fun j a' S'=>∃ i,j=stay.length - i∧i≤stay.length∧Same S S' []∧S2.next≤S'.next∧S'.get S.next=some (.row [.int .i64 n,.slice aa l.length acap] 24 true true)∧S'.get (S.next + 1)=some (.row [.int .i64 0,.slice none 0 0] 24 true true) ∧
   Has a' 91 [(1,.slice ka stay.length kcap),(2,ptr S.next),(4,ptr (S.next + 1)),(7,.int .i64 i)]) _
  ⟨0,rfl,by omega,hs02,by omega,t0,t1,⟨rfl,rfl,by simp⟩⟩ ?_
 rintro _ R hR _ S4 ⟨i,rfl,hi,hs4,hn4,q0,q1,hA⟩
 obtain ⟨x,rfl⟩:=hA.lit
 have k4:=k.stay0 hs4
 by_cases hlt : i < stay.length
 ·obtain ⟨p,o,cells,e,wr,ex,h1,h2,h3,h4,h5⟩:=k4.at hlt
  have hlt' : (i : Int) < stay.length:=by omega
  have hwS:=wrapS (show i < 9223372036854775807 by omega)
  have hxb:=hb _ (List.getElem_mem hlt)
  simp [fillF,pickL,hlt,hlt',h1,h2,h5,q0]
  refine rin_ok fun S5 hs5=>?_
  rw [decide_eq_true hxb]
  have hs05:=hs4.tr0 hs5
  have hn5:=hs5.1
  have r0 : S5.get S.next=_:=(hs5.2 _ (by omega) (by simp)).trans q0
  have r1 : S5.get (S.next + 1)=_:=(hs5.2 _ (by omega) (by simp)).trans q1
  have h25 : S5.get p=_:=(hs5.2 _ h3 (by simp)).trans h2
  simp [r0,h25,h5]
  refine run_loop (fun j a' S'=>∃ t,j=i - t∧t≤i∧S'=S5∧Has a' 91 [(1,.slice ka stay.length kcap),(2,ptr S.next),(4,ptr (S.next + 1)),(7,.int .i64 i),(8,.int .i64 t)]) _
   ⟨0,rfl,by omega,rfl,⟨rfl,rfl,by simp⟩⟩ ?_
  rintro _ R2 hR2 _ S6 ⟨t,rfl,ht,hS6,hAt⟩
  obtain ⟨xt,rfl⟩:=hAt.lit
  by_cases hlt2 : t < i
  ·have htS:=wrapS (show t < 9223372036854775807 by omega)
   have hlt2' : (t : Int) < i:=by omega
   have hne:=sorted_ne hs hlt hlt2
   obtain ⟨p2,o2,cells2,e2,wr2,ex2,b1,b2,b3,b4,b5⟩:=(k.stay0 hs05).at (i:=t) (by omega)
   have hltl : t < stay.length:=by omega
   rw [← hS6] at h25 b2
   simp [fillF,pickL,hlt2,hlt2',hlt,hltl,h1,h25,h5,b1,b2,b5,hne,htS]
   exact hR2 _ _ _ (by omega) ⟨t + 1,rfl,by omega,hS6,⟨rfl,rfl,by simp⟩⟩
  ·obtain rfl : t=i:=by omega
   simp [fillF,pickL,hwS]
   rw [hS6]
   exact hR _ _ _ (by omega) ⟨t + 1,rfl,by omega,hs05,by omega,r0,r1,⟨rfl,rfl,by simp⟩⟩
 ·obtain rfl : i=stay.length:=by omega
  simp [fillF,pickL,placeIn,splice,rowStore,okc]
  generalize hS5 : AS.put (AS.put (AS.bump S4 1) _ _) _ _=S5
  have s5 : Same S4 S5 []:=by rw [← hS5]; exact (((Same.refl _ _).bu).pn (by omega)).pn (by omega)
  have p5 : S5.get S4.next=some (.row [.int .i64 stay.length,.slice none 0 0] 24 true true):=by rw [← hS5,AS.get_put_self]
  have hn5 : S5.next=S4.next + 1:=by rw [← hS5]; rfl
  clear hS5
  have q50:=(s5.2 _ (by omega) (by simp)).trans q0
  have q51:=(s5.2 _ (by omega) (by simp)).trans q1
  have hs05:=hs4.tr0 s5
  refine run_loop (fun j a' S'=>∃ i v,j=stay.length - i∧i≤stay.length∧Same S S' []∧S5.next≤S'.next∧S'.get S.next=some (.row [.int .i64 n,.slice aa l.length acap] 24 true true)∧S'.get (S.next + 1)=some (.row [.int .i64 0,.slice none 0 0] 24 true true) ∧
    S'.get S4.next=some (.row [.int .i64 stay.length,v] 24 true true)∧Qs S' 86 v ((refR stay l i).map aq)∧(∀ m∈ownsOf v,S5.next≤m) ∧
    Has a' 91 [(1,.slice ka stay.length kcap),(2,ptr S.next),(4,ptr (S.next + 1)),(9,ptr S4.next),(10,.int .i64 i)]) _
   ⟨0,_,rfl,by omega,hs05,by omega,q50,q51,p5,by simpa [refR] using Qs.nil,by simp [ownsOf],⟨rfl,rfl,by simp⟩⟩ ?_
  rintro _ R hR _ S6 ⟨i,v,rfl,hi,hs6,hn6,r0,r1,r2,hv,hown,hA⟩
  obtain ⟨x,rfl⟩:=hA.lit
  by_cases hlt : i < stay.length
  ·have hwS:=wrapS (show i < 9223372036854775807 by omega)
   have hlt' : (i : Int) < stay.length:=by omega
   simp [fillF,pickL,hlt']
   refine run_loop (fun j a' S'=>∃ t v,j=stay.length - t∧t≤stay.length∧Same S S' []∧S5.next≤S'.next∧S'.get S.next=some (.row [.int .i64 n,.slice aa l.length acap] 24 true true)∧S'.get (S.next + 1)=some (.row [.int .i64 0,.slice none 0 0] 24 true true) ∧
     S'.get S4.next=some (.row [.int .i64 stay.length,v] 24 true true)∧Qs S' 86 v ((refR stay l i ++ rowR stay l i t).map aq)∧(∀ m∈ownsOf v,S5.next≤m) ∧
     Has a' 91 [(1,.slice ka stay.length kcap),(2,ptr S.next),(4,ptr (S.next + 1)),(9,ptr S4.next),(10,.int .i64 i),(11,.int .i64 t)]) _
    ⟨0,_,rfl,by omega,hs6,hn6,r0,r1,r2,by simpa [rowR] using hv,hown,⟨rfl,rfl,by simp⟩⟩ ?_
   have hbnd : ∀ t,(refR stay l i).length + (rowR stay l i t).length≤24 * 24 + t:=fun t=>by
    have h1:=refR_len stay l i
    have h2:=rowR_len stay l i t
    have h3 : i * stay.length≤24 * 24:=Nat.mul_le_mul (by omega) hsl
    omega
   rintro _ R2 hR2 _ S7 ⟨t,v7,rfl,ht,hs7,hn7,u0,u1,u2,hv7,hown7,hAt⟩
   obtain ⟨xt,rfl⟩:=hAt.lit
   by_cases hlt2 : t < stay.length
   ·have htS:=wrapS (show t < 9223372036854775807 by omega)
    have hlt2' : (t : Int) < stay.length:=by omega
    obtain ⟨pa,oa,ca,ea,wa,xa,a1,a2,a3,a4,a5⟩:=(k.stay0 hs7).at hlt
    obtain ⟨pb,ob,cb,eb,wb,xb,b1,b2,b3,b4,b5⟩:=(k.stay0 hs7).at hlt2
    simp [fillF,pickL,hlt,hlt',hlt2,hlt2',a1,a2,a5,b1,b2,b5,u0]
    have s7b : Same S7 (S7.bump 1) []:=(Same.refl _ _).bu
    refine rarrow_ok (h.stay0 (hs7.tr0 s7b)) hc fun S8 hs8=>?_
    have hs78:=s7b.tr0 hs8
    have hn8:=hs8.1
    simp at hn8
    have w0 : S8.get S.next=_:=(hs78.2 _ (by omega) (by simp)).trans u0
    have w1 : S8.get (S.next + 1)=_:=(hs78.2 _ (by omega) (by simp)).trans u1
    have w2 : S8.get S4.next=_:=(hs78.2 _ (by omega) (by simp)).trans u2
    have wa : S8.get pa=_:=(hs78.2 _ a3 (by simp)).trans a2
    have wb : S8.get pb=_:=(hs78.2 _ b3 (by simp)).trans b2
    have hcell : cellR stay l i t=(arAt l stay[i] stay[t]).map fun z=>⟨i,t,z.r,z.w⟩:=by
     unfold cellR
     rw [List.getD_eq_getElem?_getD,List.getElem?_eq_getElem hlt,Option.getD_some,List.getD_eq_getElem?_getD,List.getElem?_eq_getElem hlt2,Option.getD_some]
    have hrow:=rowR_succ stay l i t
    rw [hcell] at hrow
    cases hz : arAt l stay[i] stay[t] with
    | none=>
     rw [hz] at hrow
     simp at hrow
     simp [w0,w2,wa,wb,a5,b5,arZ,Arw.cells,rowStore,okc,splice,htS]
     have sX : ∀ o o',Same S7 ((S8.put S7.next o).put S7.next o') []:=fun o o'=>(hs78.pn (by omega)).pn (by omega)
     refine hR2 _ _ _ (by omega) ⟨t + 1,v7,rfl,by omega,hs7.tr0 (sX _ _),by simp; omega,((sX _ _).2 _ (by omega) (by simp)).trans u0,((sX _ _).2 _ (by omega) (by simp)).trans u1,((sX _ _).2 _ (by omega) (by simp)).trans u2,by rw [hrow]; exact hv7.stay0 (sX _ _),hown7,⟨rfl,rfl,by simp⟩⟩
    | some z=>
     rw [hz] at hrow
     simp at hrow
     obtain ⟨zf,zt,zr,zw⟩:=z
     have sX : ∀ o o',Same S7 (((S8.put S7.next o).put S7.next o')) []:=fun o o'=>(hs78.pn (by omega)).pn (by omega)
     have x2 : ∀ o o',((S8.put S7.next o).put S7.next o').get S4.next=some (.row [.int .i64 stay.length,v7] 24 true true):=fun o o'=>((sX o o').2 _ (by omega) (by simp)).trans u2
     simp [w0,w2,wa,wb,a5,b5,arZ,Arw.cells,rowStore,okc,splice,placeIn,x2]
     generalize hS9 : AS.put (AS.put S8 _ _) _ _=S9
     have s79 : Same S7 S9 []:=by rw [← hS9]; exact sX _ _
     have hn9 : S9.next=S8.next:=by rw [← hS9]; rfl
     clear hS9
     obtain ⟨T',f1,f2,f3,f4⟩:=(hv7.stay0 s79).app1 (T:=(S9.bump 2).put S8.next (.row [.int .i64 i,.int .i64 t,.int .i64 zr,.int .i64 zw] 86 true true)) (p:=S8.next) (fr:=S8.next + 1) (a:=(i,t,zr,zw)) (wr:=true) (ex:=true)
      (((Same.refl _ _).bu).pn (by omega)) (by rw [AS.get_put_self]; rfl) (by simp; omega) (by omega) (by simp; have:=hbnd t; omega)
     have hlen : ((refR stay l i ++ rowR stay l i t).map aq).length=(refR stay l i ++ rowR stay l i t).length:=by simp
     rw [hlen] at f1 f2
     have y0 : T'.get S.next=_:=(f3.2 _ (by omega) (fun hm=>by have:=hown7 _ hm; omega)).trans ((s79.2 _ (by omega) (by simp)).trans u0)
     have y1 : T'.get (S.next + 1)=_:=(f3.2 _ (by omega) (fun hm=>by have:=hown7 _ hm; omega)).trans ((s79.2 _ (by omega) (by simp)).trans u1)
     have y2 : T'.get S4.next=_:=(f3.2 _ (by omega) (fun hm=>by have:=hown7 _ hm; omega)).trans ((s79.2 _ (by omega) (by simp)).trans u2)
     have hT : S8.next + 2≤T'.next:=by rw [f4]; simp; omega
     simp only [f1]
     simp [y2,rowStore,okc,splice,htS]
     refine hR2 _ _ _ (by omega) ⟨t + 1,.slice (some ⟨S8.next + 1,0,none⟩) ((refR stay l i ++ rowR stay l i t).length + 1) ((refR stay l i ++ rowR stay l i t).length + 1),rfl,by omega,?_,by simp; omega,?_,?_,?_,?_,?_,⟨rfl,rfl,by simp⟩⟩
     ·exact ((hs7.tr0 s79).trans f3 (fun m hm hl=>by have:=hown7 _ hm; omega)).pn (by omega)
     ·rw [AS.get_put_ne _ _ (by omega)]; exact y0
     ·rw [AS.get_put_ne _ _ (by omega)]; exact y1
     ·rw [AS.get_put_self]; simp
     ·rw [hrow,← List.append_assoc,List.map_append]
      refine f2.stays (fp:=[S4.next]) ((Same.refl _ _).po (by simp)) ?_
      simp [ownsOf]; omega
     ·simp [ownsOf]; omega
   ·obtain rfl : t=stay.length:=by omega
    simp [fillF,pickL,hwS]
    exact hR _ _ _ (by omega) ⟨i + 1,v7,rfl,by omega,hs7,hn7,u0,u1,u2,by rw [refR_succ]; exact hv7,hown7,⟨rfl,rfl,by simp⟩⟩
  ·obtain rfl : i=stay.length:=by omega
   obtain ⟨v',hvs⟩:=hv.shape
   rw [List.length_map] at hvs
   subst hvs
   have he:=refR_eq hs (arrsOk_iff.1 har).2.1
   simp [fillF,pickL,r1,r2,rowStore,okc,splice]
   have hlr:=rsArr_len stay l
   rw [he] at hv ⊢
   refine hq _ _ (hs6.pn (by omega)) ((hv.as (by omega)).stays (fp:=[S.next + 1]) ((Same.refl _ _).po (by simp)) (fun m hm=>?_)) (fun m hm=>by rw [← he] at hm; have:=hown _ hm; omega)
   rw [← he] at hm
   have:=hown _ hm
   simp; omega

theorem rothers_ok {S : AS} {n : Nat} {g : Int} (hn : n≤24) {Q : En→AS→Prop} (hq : ∀ S' v,Same S S' []→Is S' v (stayL n g)→(∀ m∈ownsOf v,S.next≤m)→Q (.ret v) S') : Call G 63 [.int .i64 n,.int .i64 g] S Q:=by
 refine call_run' (G:=G) rfl (ext_none (by decide)) ?_
 simp
 refine run_loop (fun j a' S'=>∃ i a m,j=n - i∧i≤n∧Same S S' []∧m=(stayL i g).length∧Ow S' (.slice a m m) (stayL i g)∧(∀ q∈ownsOf (.slice a m m),S.next≤q)∧Has a' 20 [(0,.int .i64 n),(1,.int .i64 g),(5,.slice a m m),(6,.int .i64 i)]) _
  ⟨0,none,0,rfl,by omega,.refl _ _,rfl,Ow.nil,by simp [ownsOf],⟨rfl,rfl,by simp⟩⟩ ?_
 rintro _ R hR _ S2 ⟨i,a,m,rfl,hi,hs2,hm,how,hown,hA⟩
 obtain ⟨x,rfl⟩:=hA.lit
 have hle:=stayL_le i g
 have hn2:=hs2.1
 by_cases hlt : i < n
 ·have hwS:=wrapS (show i < 9223372036854775807 by omega)
  have hlt' : (i : Int) < n:=by omega
  have hst1:=stayL_step i g
  by_cases he : (i : Int)=g
  ·simp [he] at hst1
   have he' : g=i:=he.symm
   simp [fillF,pickL,hlt',he',hwS]
   refine hR _ _ _ (by omega) ⟨i + 1,a,m,rfl,by omega,hs2,by rw [hst1]; exact hm,by rw [hst1]; exact how,hown,⟨rfl,rfl,by simp [he']⟩⟩
  ·simp [he] at hst1
   simp [fillF,pickL,hlt',he,placeIn,splice]
   obtain ⟨T',a2,f1,f2,f3,f4,f5⟩:=how.app (T:=(S2.bump 2).put S2.next (.row [.int .i64 (i : Int)] 3 true true)) (y:=.slice (some ⟨S2.next,0,none⟩) 1 1) (m:=[(i : Int)]) (fr:=S2.next + 1) (by simp; omega) (((Same.refl _ _).bu).pn (by omega)) (Is.one (by rw [AS.get_put_self]) (by simp)) (by simp) (by omega)
   simp only [List.length_singleton] at f1 f2 f5
   subst hm
   simp [f1,hwS]
   refine hR _ _ _ (by omega) ⟨i + 1,a2,(stayL i g).length + 1,rfl,by omega,hs2.trans f3 (fun q hq hl=>by have:=hown q hq; omega),by rw [hst1]; simp,by rw [hst1]; exact f2,fun q hq=>?_,⟨rfl,rfl,by simp⟩⟩
   rcases f5 q hq with h' | h'
   ·exact hown q h'
   ·omega
 ·obtain rfl : i=n:=by omega
  simp [fillF,pickL]
  exact hq _ _ hs2 how.is hown
theorem rchange_ok {S : AS} {va vo : Value} {n : Int} {p : Int} {ar : List Arw} {old : List Int} (h : As S va ar) (ho : Is S vo old) {Q : En→AS→Prop} (hq : ∀ S',Same S S' []→Q (.ret (.agg #[.int .i64 n,va,vo,.int .i64 p])) S') : Call G 29 [.agg #[.int .i64 n,va,vo,.int .i64 p]] S Q:=by
 obtain ⟨ra,rcap,rfl⟩:=h.shape
 obtain ⟨oa,ocap,rfl⟩:=ho.shape
 refine call_run' (G:=G) rfl (ext_none (by decide)) ?_
 simp [placeIn,splice,rowStore,okc]
 refine hq _ ?_
 exact (((((Same.refl _ _).bu).pn (by omega)).pn (by omega))).pn (by omega)
theorem rbegun_ok {S : AS} {va vo : Value} {n : Int} {ar : List Arw} {order : List Int} {la : Option Addr} {len lcap : Nat} (h : As S va ar) (ho : Is S vo order) {Q : En→AS→Prop} (hq : ∀ S',Same S S' []→Q (.ret (.int .i64 (beginE n ar order len))) S') : Call G 26 [.agg #[.int .i64 n,va],vo,.slice la len lcap] S Q:=by
 refine call_run' (G:=G) rfl (ext_none (by decide)) ?_
 simp
 generalize hS1 : AS.put _ _ _=S1
 have s1 : Same S S1 []:=by rw [← hS1]; exact ((Same.refl _ _).bu).pn (by omega)
 have g0 : S1.get S.next=some (.row [.int .i64 n,va] 24 true true):=by rw [← hS1]; simp
 have hn1 : S1.next=S.next + 1:=by rw [← hS1]; simp
 clear hS1
 unfold beginE at hq
 refine refCheck_ok (h.stay0 s1) fun S2 hs2=>?_
 have hs02:=s1.tr0 hs2
 have k0 : S2.get S.next=_:=(hs2.2 _ (by omega) (by simp)).trans g0
 by_cases hc : checkR n ar=0
 ·rw [if_neg (by simp [hc])] at hq
  obtain ⟨hN0,hN1,har⟩:=checkR_pos hc
  obtain ⟨m,hm⟩ : ∃ m : Nat,n=m:=⟨n.toNat,by omega⟩
  subst hm
  rw [Int.toNat_natCast] at hq
  simp [hc,k0]
  refine all86_ok (ho.stay0 hs02) (by omega) ?_
  cases hx : ordOk m order with
  | true=>
   rw [if_neg (by simp [hx])] at hq
   simp
   by_cases hl : len≤200
   ·have hl' : ¬ (200 : Int) < len:=by omega
    rw [if_pos hl] at hq
    simp [hl']
    exact hq _ hs02
   ·have hl' : (200 : Int) < len:=by omega
    rw [if_neg hl] at hq
    simp [hl']
    exact hq _ hs02
  | false=>
   rw [if_pos hx] at hq
   simp
   exact hq _ hs02
 ·rw [if_pos hc] at hq
  simp [hc]
  exact hq _ hs02


theorem short_ok {S : AS} {va vo vl : Value} {n : Int} {order : List Int} {L : List (Stp × Value)} (ho : Is S vo order) (hL : Sts S vl L) {Q : En→AS→Prop} (hq : ∀ S' (b : Bool),Same S S' []→(b=true→n≤5)→Q (.ret (.bool b)) S') : Call G 5 [.agg #[.int .i64 n,va],vo,vl] S Q:=by
 obtain ⟨la,lcap,rfl⟩:=hL.shape
 obtain ⟨oa,ocap,rfl⟩:=ho.shape
 have hsm:=hL.small
 refine call_run' (G:=G) rfl (ext_none (by decide)) ?_
 simp
 generalize hS1 : AS.put _ _ _=S1
 have s1 : Same S S1 []:=by rw [← hS1]; exact ((Same.refl _ _).bu).pn (by omega)
 have g0 : S1.get S.next=some (.row [.int .i64 n,va] 24 true true):=by rw [← hS1,AS.get_put_self]
 clear hS1
 by_cases c1 : 5 < n
 ·simp [g0,c1,undef]
  exact hq _ false s1 (by simp)
 by_cases c2 : 10 < order.length
 ·have c2' : (10 : Int) < order.length:=by omega
  simp [g0,c1,c2',undef]
  exact hq _ false s1 (by simp)
 by_cases c3 : 6 < L.length
 ·have c2' : ¬ (10 : Int) < order.length:=by omega
  have c3' : (6 : Int) < L.length:=by omega
  simp [g0,c1,c2',c3',undef]
  exact hq _ false s1 (by simp)
 have c2' : ¬ (10 : Int) < order.length:=by omega
 have c3' : ¬ (6 : Int) < L.length:=by omega
 simp [g0,c1,c2',c3',undef]
 refine run_loop (fun j a' S'=>∃ i c,j=L.length - i∧i≤L.length∧Same S S' []∧Has a' 39 [(7,.int .i64 c),(25,.slice la L.length lcap),(26,.int .i64 L.length),(27,.int .i64 i)]) _ ⟨0,n,rfl,by omega,s1,⟨rfl,rfl,by simp⟩⟩ ?_
 rintro _ R hR _ S2 ⟨i,c,rfl,hi,hs2,hA⟩
 obtain ⟨x,rfl⟩:=hA.lit
 by_cases hlt : i < L.length
 ·have hwS:=wrapS (show i < 9223372036854775807 by omega)
  have hlt' : (i : Int) < L.length:=by omega
  obtain ⟨p,q,cells,et,wr,ex,h1,h2,h3,h4,h5,_⟩:=(hL.stay0 hs2).at hlt
  obtain ⟨sa,scap,hsv⟩:=(hL.pt L[i] (List.getElem_mem hlt)).1.shape
  simp [fillF,pickL,hlt,hlt',h1,h2,h5,stC,rowStore,okc,splice,hsv,hwS]
  refine hR _ _ _ (by omega) ⟨i + 1,_,rfl,by omega,hs2.tr0 ((((Same.refl _ _).bu).pn (by omega)).pn (by omega)),⟨rfl,rfl,by simp; rfl⟩⟩
 ·obtain rfl : i=L.length:=by omega
  simp [fillF,pickL]
  exact hq _ _ hs2 (fun _=>by omega)
end Go.Gx.Z
