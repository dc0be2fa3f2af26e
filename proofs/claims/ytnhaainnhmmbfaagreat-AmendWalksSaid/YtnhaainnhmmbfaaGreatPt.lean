/-
  The program's Amend.
-/
import Derived.Test.YtnhaainnhmmbfaaGreatPs
set_option linter.all false
set_option linter.deprecated false
namespace Go.Gx.Z
open Go.Gx Go.Proofs
set_option maxRecDepth 100000
set_option maxHeartbeats 4000000
structure Amd where
 order : List Int
 off : Int
 mov : Int
 kept : List Int
def Cg.amd (c : Cg) : Amd:=⟨c.bests.headD [],c.goal.total.1,c.goal.total.2,kept c.old (c.bests.headD [])⟩
theorem bests_head (c : Cg) : c.bests[0]?=some (c.bests.headD []):=by
 have:=bests_ne c
 cases h : c.bests with
 | nil=>exact absurd h this
 | cons a l=>rfl
theorem amend_ok {S : AS} {va vo : Value} {c : Chg} (h : ChgAt S va vo c) (ok : ChgOk c) {Q : En→AS→Prop}
  (hq : ∀ S' w a n,Same S S' []→Oc S' w c.cg.amd.order→(∀ m∈ownsOf w,S.next≤m)→n=c.cg.amd.kept.length→Ow S' (.slice a n n) c.cg.amd.kept→(∀ m∈ownsOf (.slice a n n),S.next≤m)→(∀ m∈ownsOf w,m∉ownsOf (.slice a n n)) →
   Q (.ret (.agg #[w,.int .i64 c.cg.amd.off,.int .i64 c.cg.amd.mov,.slice a n n])) S') : Call G 23 [c.val va vo] S Q:=by
 have cok:=ok.cgOk
 have sm:=ok.cgSm
 refine call_run' (G:=G) rfl (ext_none (by decide)) ?_
 simp [Chg.val,Nat.add_assoc]
 generalize hS1 : AS.put (AS.bump (AS.put (AS.put (AS.bump S 2) _ _) _ _) 1) _ _=S1
 have s1 : Same S S1 []:=by rw [← hS1]; exact (((((Same.refl _ _).bu).pn (by omega)).pn (by omega)).bu).pn (by omega)
 have g0 : S1.get S.next=some (.row [.int .i64 c.n,va,vo,.int .i64 c.passed] 41 true true):=by rw [← hS1]; simp
 have g1 : S1.get (S.next + 1)=some (.row [.slice none 0 0,.int .i64 0,.int .i64 0,.slice none 0 0] 43 true true):=by rw [← hS1]; simp
 have g2 : S1.get (S.next + 2)=some (.row [.slice none 0 0,.int .i64 0,.int .i64 0,.slice none 0 0] 43 true true):=by rw [← hS1]; simp
 have hn1 : S1.next=S.next + 3:=by rw [← hS1]; simp
 clear hS1
 refine open_ok (h.stay0 s1) ok.n0 ok.n1 ok.ar cok ok.p0 fun S2 v hs2 hT hL hvo hva hlm hvB hown=>?_
 have hn2:=hs2.1
 have s2:=s1.tr0 hs2
 have k0 : S2.get S.next=_:=(hs2.2 _ (by omega) (by simp)).trans g0
 have k1 : S2.get (S.next + 1)=_:=(hs2.2 _ (by omega) (by simp)).trans g1
 have k2 : S2.get (S.next + 2)=_:=(hs2.2 _ (by omega) (by simp)).trans g2
 simp
 refine orders118_ok fun S3 hs3 hn3 gb=>?_
 have s3:=s2.tr0 hs3
 simp
 refine run_range rfl ?_
 simp
 generalize hS4 : ((S3.bump 2).put S3.next (.defd (some []))).put (S3.next + 1) _=S4
 obtain ⟨lo,hlo⟩ : ∃ lo,S4.get (S3.next + 1)=some lo:=by rw [← hS4]; exact ⟨_,AS.get_put_self _ _ _⟩
 have hlo':=hlo
 rw [← hS4,AS.get_put_self] at hlo'
 have hlo2:=Option.some.inj hlo'
 clear hlo'
 have gd : S4.get S3.next=some (.defd (some [])):=by rw [← hS4,AS.get_put_ne _ _ (by omega),AS.get_put_self]
 have hn4 : S4.next=S3.next + 2:=by rw [← hS4]; simp
 have hs34 : Same S3 S4 []:=by rw [← hS4]; exact (((Same.refl _ _).bu).pn (by omega)).pn (by omega)
 clear hS4
 have hs24 : Same S2 S4 []:=hs3.tr0 hs34
 have s4:=s2.tr0 hs24
 have hvl:=hT.lt
 have hT4:=hT.stay0 hs24
 have hL4:=hL.stay0 hs24 (by omega)
 have gb4 : S4.get S2.next=some (.row [ptr v.d] 81 true true):=(hs34.2 _ (by omega) (by simp)).trans gb
 have q0 : S4.get S.next=_:=(hs24.2 _ (by omega) (by simp)).trans k0
 have q1 : S4.get (S.next + 1)=_:=(hs24.2 _ (by omega) (by simp)).trans k1
 have q2 : S4.get (S.next + 2)=_:=(hs24.2 _ (by omega) (by simp)).trans k2
 simp [calleeOf]
 have hcost:=bests_head c.cg
 have hxB : ∀ x : FV,S4.next≤x.B→v.lm < x.B:=fun x h=>by omega
 refine orders_ok (v:=v) (c:=c.cg) hT4 hL4 gb4 ⟨by omega,by omega⟩ cok sm [S3.next + 1,S.next + 2]
  (fun x n S'=>n=0∧FE S' x c.cg∧x.v=v∧S4.next≤x.B∧SB S4.next S4 S' [v.lm])
  (fun S'=>SB S4.next S4 S' [v.lm,S3.next + 1,S.next + 2]∧LeastAt S' v.lm c.cg∧(∃ pend env ps asg body dblk,S'.get (S3.next + 1)=some (.loop .done (some (.exit 0)) env ps asg body dblk)∧pend=()) ∧
   ∃ w,S'.get (S.next + 2)=some (.row [w,.int .i64 0,.int .i64 0,.slice none 0 0] 43 true true)∧Oc S' w c.cg.amd.order∧∀ m∈ownsOf w,S4.next≤m) ?_ ?_ ?_ ?_
 ·intro x xv xl xt _ _ _ xB
  refine ⟨fun n S' hI=>hI.2.1,?_,?_,?_,?_⟩
  ·rintro n S' S'' fo ⟨e1,e2,e3,e4,e5⟩ hs hfo hl
   rw [e3] at hs hl
   refine ⟨e1,e2.keep ⟨hs.1,fun m hm hn=>hs.2 m (by have:=e2.lt; omega) (fun hk=>?_)⟩ (by rw [e3]; exact hl),e3,e4,⟨Nat.le_trans e5.1 hs.1,fun m hm hn=>?_⟩⟩
   ·rw [e3] at hn
    rcases List.mem_cons.1 hk with h | h
    ·exact hn (by simp [h])
    ·have:=(hfo m h).1; omega
   ·rw [hs.2 m (by have:=e2.lt; omega) (fun hk=>by
     rcases List.mem_cons.1 hk with h | h
     ·exact hn (by simp [h])
     ·have:=(hfo m h).1; omega),e5.2 m hm hn]
  ·rintro S' S'' fo ⟨d1,d2,⟨_,env,ps,asg,body,dblk,d3,_⟩,w,d4,d5,d6⟩ hs hfo
   have hfo2 : ∀ m∈fo,S4.next≤m:=fun m hm=>by have:=(hfo m hm).1; omega
   have hn1':=d1.1
   have keep : ∀ m,m < S4.next→S''.get m=S'.get m:=fun m hm=>hs.2 m (by omega) (fun hk=>by have:=hfo2 m hk; omega)
   refine ⟨⟨Nat.le_trans d1.1 hs.1,fun m hm hn=>by rw [keep m hm,d1.2 m hm hn]⟩,d2.stays (keep _ (by omega)),⟨(),env,ps,asg,body,dblk,by rw [keep _ (by omega)]; exact d3,rfl⟩,w,by rw [keep _ (by omega)]; exact d4,d5.stays hs (fun m hm hk=>?_),d6⟩
   obtain ⟨ds,hds⟩:=(hfo m hk).2
   rcases d5 with ⟨_,rfl⟩ | ⟨p,cap,rest,ex,rfl,_,_,g,_,_⟩
   ·simp [ownsOf] at hm
   ·simp [ownsOf] at hm
    subst hm
    rw [g] at hds; cases hds
  ·intro m hm
   simp at hm
   omega
  ·rintro n q w S' P hq0 ⟨e1,e2,e3,e4,e5⟩ hw hwo _ hP
   subst e1
   rw [hcost] at hq0
   cases hq0
   have hnn:=e5.1
   have r1 : S'.get (S3.next + 1)=some lo:=(e5.2 _ (by omega) (by simp; omega)).trans hlo
   have r2 : S'.get (S.next + 2)=_:=(e5.2 _ (by omega) (by simp; omega)).trans q2
   rw [← hlo2] at r1
   rw [xl]
   have hwc : ∃ a n cap,w=.slice a n cap:=by obtain ⟨a,cap,e⟩:=hw.shape; exact ⟨a,_,cap,e⟩
   obtain ⟨wa,wn,wcap,rfl⟩:=hwc
   refine callRd' r1 rfl ?_
   simp [r1]
   rw [AS.get_put_ne _ _ (by omega),r2]
   simp [okc,rowStore,splice]
   rw [AS.get_put_ne _ _ (by omega),AS.get_put_self]
   simp
   generalize hS'' : AS.put (AS.put (AS.put S' _ _) _ _) _ _=S''
   have hsm : Same S' S'' [S3.next + 1,S.next + 2]:=by
    rw [← hS'']
    refine ⟨by simp,fun m hm hn=>?_⟩
    simp at hn
    rw [AS.get_put_ne _ _ (by omega),AS.get_put_ne _ _ (by omega),AS.get_put_ne _ _ (by omega)]
   obtain ⟨zenv,zps,zasg,zbody,zd,gl⟩ : ∃ env ps asg body dblk,S''.get (S3.next + 1)=some (.loop .done (some (.exit 0)) env ps asg body dblk):=⟨_,_,_,_,_,by rw [← hS'',AS.get_put_self]⟩
   have gr : S''.get (S.next + 2)=some (.row [.slice wa wn wcap,.int .i64 0,.int .i64 0,.slice none 0 0] 43 true true):=by rw [← hS'',AS.get_put_ne _ _ (by omega),AS.get_put_self]
   clear hS''
   have e2l:=e2.lt
   refine hP S'' ⟨⟨Nat.le_trans e5.1 hsm.1,fun m hm hn=>?_⟩,(e3 ▸ e2.le).stays (hsm.2 _ (by omega) (by simp; omega)),⟨(),_,_,_,_,_,gl,rfl⟩,_,gr,hw.stays hsm (fun m hm=>by have:=hwo m hm; simp; omega),fun m hm=>by have:=hwo m hm; omega⟩ hsm
   simp at hn
   rw [hsm.2 m (by omega) (by simp; omega),e5.2 m hm (by simpa using hn.1)]
 ·intro x S' xv xl xt _ _ _ xB hF hs
  exact ⟨rfl,hF,xv,xB,⟨hs.1,fun m hm hn=>hs.2 m hm hn⟩⟩
 ·rintro x S' ⟨e1,_⟩
  exact absurd (List.length_eq_zero_iff.1 e1) (bests_ne c.cg)
 ·rintro S' ⟨d1,d2,⟨_,env,ps,asg,body,dblk,d3,_⟩,w,d4,d5,d6⟩
  have hlmB : v.lm < S4.next:=by omega
  have t0 : S'.get S.next=_:=(d1.2 _ (by omega) (by simp; omega)).trans q0
  have t1 : S'.get (S.next + 1)=_:=(d1.2 _ (by omega) (by simp; omega)).trans q1
  have t2 : S'.get S3.next=_:=(d1.2 _ (by omega) (by simp; omega)).trans gd
  have hT' : TkAt S' v c.cg:=hT4.away (fp:=[v.lm,S3.next + 1,S.next + 2]) ⟨d1.1,fun m hm hn=>d1.2 m (by omega) hn⟩ (fun m hm=>by
   have l1:=hT4.ne
   have : m < v.B∧m≠v.lm:=by
    rcases hm with hm | hm | hm | hm | hm | hm | hm
    ·subst hm; exact ⟨hvl.1,l1.1⟩
    ·subst hm; exact ⟨hvl.2.1,l1.2⟩
    ·have:=hT4.o1 m hm; simpa using this
    ·have:=hT4.o2 m hm; simpa using this
    ·have:=hT4.o3 m hm; simpa using this
    ·have:=hT4.o4 m hm; simpa using this
    ·have:=hT4.o5 m hm; simpa using this
   have h2:=hown m hm
   have h3 : m∈ownsOf vo→m < S.next:=h.old.owns_lt m
   simp
   refine ⟨this.2,by omega,?_⟩
   rcases h2 with h2 | h2
   ·have:=h3 h2; omega
   ·omega)
  simp [d3]
  have hn':=d1.1
  generalize hU : AS.bump (AS.put S' _ _) 1=U
  have hsU : Same S' U [S3.next + 1]:=by rw [← hU]; exact ⟨by simp,fun m hm hn=>by simp at hn; rw [AS.get_bump,AS.get_put_ne _ _ (by omega)]⟩
  have hnU : U.next=S'.next + 1:=by rw [← hU]; simp
  clear hU
  refine total_ok (hT'.sb ⟨hsU.1,fun m hm hn=>hsU.2 m (by omega) (by simp; omega)⟩) (d2.stays (hsU.2 _ (by omega) (by simp; omega))) sm fun S5 hs5 hL5=>?_
  have hn5:=hs5.1
  have u0 : S5.get S.next=_:=(hs5.2 _ (by omega) (by simp; omega)).trans ((hsU.2 _ (by omega) (by simp; omega)).trans t0)
  have u1 : S5.get (S.next + 1)=_:=(hs5.2 _ (by omega) (by simp; omega)).trans ((hsU.2 _ (by omega) (by simp; omega)).trans t1)
  have u2 : S5.get (S.next + 2)=_:=(hs5.2 _ (by omega) (by simp; omega)).trans ((hsU.2 _ (by omega) (by simp; omega)).trans d4)
  have u3 : S5.get S3.next=_:=(hs5.2 _ (by omega) (by simp; omega)).trans ((hsU.2 _ (by omega) (by simp)).trans t2)
  have hw5 : Oc S5 w c.cg.amd.order:=(d5.stays hsU (fun m hm=>by have:=d6 m hm; simp; omega)).stays hs5 (fun m hm=>by have:=d6 m hm; simp; omega)
  have hwS':=d5.is.owns_lt
  simp [cV,rowStore,splice,okc]
  generalize hS6 : AS.put (AS.put S5 _ _) _ _=S6
  have hs6 : Same S5 S6 [S'.next]:=by
   rw [← hS6]; exact ⟨by simp,fun m hm hn=>by simp at hn; rw [AS.get_put_ne _ _ (by omega),AS.get_put_ne _ _ (by omega)]⟩
  have gg : S6.get S'.next=some (.row [.int .i64 c.cg.goal.total.1,.int .i64 c.cg.goal.total.2] 79 true true):=by rw [← hS6,AS.get_put_self]
  clear hS6
  have v0 : S6.get S.next=_:=(hs6.2 _ (by omega) (by simp; omega)).trans u0
  have v1 : S6.get (S.next + 1)=_:=(hs6.2 _ (by omega) (by simp; omega)).trans u1
  have v2 : S6.get (S.next + 2)=_:=(hs6.2 _ (by omega) (by simp; omega)).trans u2
  have v3 : S6.get S3.next=_:=(hs6.2 _ (by omega) (by simp; omega)).trans u3
  have hw6 : Oc S6 w c.cg.amd.order:=hw5.stays hs6 (fun m hm=>by have:=hwS' m hm; simp; omega)
  have hn6:=hs6.1
  have hS4n:=s4.1
  have sb6 : SB S.next S S6 []:=⟨by omega,fun m hm _=>by
   rw [hs6.2 m (by omega) (by simp; omega),hs5.2 m (by omega) (by simp; omega),hsU.2 m (by omega) (by simp; omega),d1.2 m (by omega) (by simp; omega),s4.2 m hm (by simp)]⟩
  have hold6 : Is S6 vo c.old:=h.old.sb sb6 fun m hm=>⟨h.old.owns_lt m hm,by simp⟩
  obtain ⟨wa,wcap,hwv⟩:=hw6.shape
  subst hwv
  simp [v0,gg,v2]
  have hnd : c.cg.amd.order.Nodup:=by
   obtain ⟨q,q1,q2,q3⟩:=mem_bests.1 (List.mem_of_getElem? hcost)
   show (c.cg.bests.headD []).Nodup
   rw [q3]
   exact order_nodup cok (mem_all.1 q1).1
  have hol:=ok.olen
  have hol2 : c.cg.amd.order.length=c.cg.n:=by
   obtain ⟨q,q1,q2,q3⟩:=mem_bests.1 (List.mem_of_getElem? hcost)
   show (c.cg.bests.headD []).length=_
   rw [q3,order_len,(mem_all.1 q1).2]
   exact len_free cok
  have hcn24:=sm.n
  refine kept_ok hold6 hw6.is hnd (by have:=sm.ol; have e : c.cg.old=c.old:=rfl; rw [e] at this; omega) (by omega) fun S7 a n hs7 hna hK hKo=>?_
  have hn7:=hs7.1
  have x0 : S7.get S.next=_:=(hs7.2 _ (by omega) (by simp)).trans v0
  have x1 : S7.get (S.next + 1)=_:=(hs7.2 _ (by omega) (by simp)).trans v1
  have x2 : S7.get (S.next + 2)=_:=(hs7.2 _ (by omega) (by simp)).trans v2
  have x3 : S7.get S3.next=_:=(hs7.2 _ (by omega) (by simp)).trans v3
  have xg : S7.get S'.next=_:=(hs7.2 _ (by omega) (by simp)).trans gg
  have d0 : (S.next=S'.next)=False:=eq_false (by omega)
  have d0' : (S'.next=S.next)=False:=eq_false (by omega)
  have d2' : (S.next + 2=S'.next)=False:=eq_false (by omega)
  have d2'' : (S'.next=S.next + 2)=False:=eq_false (by omega)
  simp [x0,xg,x2,x1,okc,rowStore,splice,d0,d0',d2',d2'']
  have dd3 : (S3.next=S.next + 1)=False:=eq_false (by omega)
  have dd4 : (S3.next=S.next + 2)=False:=eq_false (by omega)
  have dd5 : (S.next + 1=S3.next)=False:=eq_false (by omega)
  simp [drain_cons,x3,dd3,dd4,dd5]
  generalize hS9 : AS.put (AS.put (AS.put (AS.put (AS.put S7 _ _) _ _) _ _) _ _) _ _=S9
  have hs9 : Same S7 S9 [S.next + 2,S.next + 1,S3.next]:=by
   rw [← hS9]
   refine ⟨by simp,fun m hm hn=>?_⟩
   simp at hn
   rw [AS.get_put_ne _ _ (by omega),AS.get_put_ne _ _ (by omega),AS.get_put_ne _ _ (by omega),AS.get_put_ne _ _ (by omega),AS.get_put_ne _ _ (by omega)]
  clear hS9
  have hwl : ∀ m∈ownsOf (Value.slice wa c.cg.amd.order.length wcap),S4.next≤m∧m < S6.next:=fun m hm=>⟨d6 m hm,hw6.is.owns_lt m hm⟩
  have sb9 : SB S.next S S9 []:=⟨by have:=hs9.1; omega,fun m hm _=>by
   rw [hs9.2 m (by omega) (by simp; omega),hs7.2 m (by omega) (by simp),sb6.2 m hm (by simp)]⟩
  exact hq S9 _ a n ⟨sb9.1,fun m hm _=>sb9.2 m hm (by simp)⟩ ((hw6.stay0 hs7).stays hs9 fun m hm=>by have:=hwl m hm; simp; omega) (fun m hm=>by have:=hwl m hm; omega) hna
   (hK.stays hs9 fun m hm=>by have:=hKo m hm; simp; omega) (fun m hm=>by have:=hKo m hm; omega) (fun m hm hk=>by have:=hwl m hm; have:=hKo m hk; omega)

set_option maxHeartbeats 2000000
def zeroAmd : Value:=.agg #[.slice none 0 0,.int .i64 0,.int .i64 0,.slice none 0 0]
end Go.Gx.Z
