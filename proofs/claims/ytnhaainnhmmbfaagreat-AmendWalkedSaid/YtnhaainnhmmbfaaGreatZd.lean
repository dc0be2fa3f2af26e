/-
  Is an order right? (the reference)
-/
import Derived.Test.YtnhaainnhmmbfaaGreatZc
import Derived.Test.YtnhaainnhmmbfaaGreatQo
set_option linter.all false
set_option linter.deprecated false
namespace Go.Gx.Z
open Go.Gx Go.Proofs
set_option maxRecDepth 100000
set_option maxHeartbeats 4000000
def rightB (c : Chg) (now : List Int) : Bool:=decide (validR c now=true∧c.cg.rcost now=c.cg.goal.total)
theorem costE_valid {c : Chg} {o : List Int} (hc : c.check=0) : costE c o=0↔validR c o=true:=by
 unfold costE
 rw [if_neg (by simp [hc])]
 by_cases h : ordOk c.cg.n o=false
 ·rw [if_pos h]
  unfold validR
  rw [if_pos hc,h]
  simp
 ·rw [if_neg h]
  by_cases k : validR c o=false
  ·rw [if_pos k,k]
   simp
  ·rw [if_neg k]
   simp at k
   simp [k]
theorem rright_ok {S : AS} {va vo w : Value} {c : Chg} {order : List Int} (h : ChgAt S va vo c) (k : Is S w order) (hc : c.check=0) {Q : En→AS→Prop}
  (hq : ∀ S',Same S S' []→Q (.ret (.bool (rightB c order))) S') : Call G 37 [c.val va vo,w] S Q:=by
 refine call_run' (G:=G) rfl (ext_none (by decide)) ?_
 simp [Chg.val]
 generalize hS1 : AS.put _ _ _=S1
 have s1 : Same S S1 []:=by rw [← hS1]; exact ((Same.refl _ _).bu).pn (by omega)
 have g0 : S1.get S.next=some (.row [.int .i64 c.n,va,vo,.int .i64 c.passed] 41 true true):=by rw [← hS1,AS.get_put_self]
 have hn1 : S1.next=S.next + 1:=by rw [← hS1]; rfl
 clear hS1
 refine rCost_ok (h.stay0 s1) (k.stay0 s1) fun S2 hs2=>?_
 have hs02:=s1.tr0 hs2
 have k0 : S2.get S.next=_:=(hs2.2 _ (by omega) (by simp)).trans g0
 have hn2:=hs2.1
 by_cases hv : validR c order=true
 ·have he:=(costE_valid (o:=order) hc).2 hv
  have hV : costV c order=c.cg.rcost order:=by unfold costV; rw [if_pos he]
  simp [he,k0,hV]
  refine rBests_ok (h.stay0 hs02) (check_ok hc) fun S3 bp vb vals hs3 hb=>?_
  have hs03:=hs02.tr0 hs3
  obtain ⟨be,gb⟩:=hb.row
  generalize hx : c.cg.rcost order=x at *
  generalize hy : c.cg.goal.total=y at *
  obtain ⟨x1,x2⟩:=x
  obtain ⟨y1,y2⟩:=y
  have hr : rightB c order=(decide (x1=y1) && decide (x2=y2)):=by
   unfold rightB
   rw [hx,hy]
   by_cases e1 : x1=y1 <;> by_cases e2 : x2=y2 <;> simp [hv,e1,e2]
  rw [hr] at hq
  simp only at gb
  by_cases e1 : x1=y1
  ·simp [gb,e1,undef] at hq ⊢
   exact hq _ hs03
  ·simp [gb,e1,undef] at hq ⊢
   exact hq _ hs03
 ·have he : ¬ costE c order=0:=fun h'=>hv ((costE_valid hc).1 h')
  have hr : rightB c order=false:=by unfold rightB; simp [hv]
  rw [hr] at hq
  simp [he]
  exact hq _ hs02
def bNext (w : Wk) (st : Stp) (w1 : Wk) (now : List Int) : Bool:=if st.kind=1 then decide (w1.order=now) else rightB w1.chg now
theorem checkL_B {told : List (List Int)} {i : Nat} {w : Wk} {l : List Stp} (hi : i < l.length) (hw : WkG w) : checkL told i w (l.drop i)=match doW chO () w l[i] with
  | .error e=>(false,e)
  | .ok r=>if bNext w l[i] r.1 told[i]! = true then checkL told (i + 1) ⟨r.1.n,r.1.ar,told[i]!,r.1.passed⟩ (l.drop (i + 1)) else (false,0):=by
 rw [List.drop_eq_getElem_cons hi]
 simp only [checkL]
 rw [do_gen (ch:=chB told[i]!)]
 cases h : doW chO () w l[i] with
 | error e=>rfl
 | ok r=>
  simp only
  generalize told[i]! = now
  unfold putC askC bNext
  by_cases k : l[i].kind=1
  ·rw [if_pos k,if_pos k]
   obtain ⟨e1,_⟩:=pass_g hw h k
   have hB : chB now true ⟨w.n,w.ar,w.order,-1⟩=(w.order,decide (now=w.order)):=by
    unfold chB
    rw [if_pos (by simp only; omega)]
    simp
   simp only [hB]
   rw [e1]
   by_cases e : w.order=now
   ·subst e; simp
   ·have e' : ¬ now=w.order:=fun h=>e h.symm
    simp [e,e']
  ·rw [if_neg k,if_neg k]
   unfold rightB
   by_cases e : validR r.1.chg now=true∧r.1.chg.cg.rcost now=r.1.chg.cg.goal.total
   ·have hB : chB now true r.1.chg=(now,true):=by
     unfold chB
     rw [if_neg (by show ¬ ((r.1.passed : Nat) : Int) < 0; omega),if_pos e]
    simp only [hB,decide_eq_true e]
   ·have hB : chB now true r.1.chg=(r.1.chg.old,false):=by
     unfold chB
     rw [if_neg (by show ¬ ((r.1.passed : Nat) : Int) < 0; omega),if_neg e]
    simp only [hB,decide_eq_false e]
    rw [if_neg (by simp),if_neg (by simp)]
theorem bNext_g {w : Wk} {st : Stp} {r : Wk × Unit} {now : List Int} (hw : WkG w) (h : doW chO () w st=.ok r) (hb : bNext w st r.1 now=true) : WkG ⟨r.1.n,r.1.ar,now,r.1.passed⟩:=by
 unfold bNext at hb
 by_cases k : st.kind=1
 ·rw [if_pos k] at hb
  simp only [decide_eq_true_eq] at hb
  subst hb
  exact (pass_g hw h k).2
 ·rw [if_neg k] at hb
  unfold rightB at hb
  simp only [decide_eq_true_eq] at hb
  have hc:=step_ck h k
  have hv:=hb.1
  unfold validR at hv
  rw [if_pos hc] at hv
  simp only [Bool.and_eq_true] at hv
  exact order_g hc hv.1

theorem rCheckWalk_ok {S : AS} {va vo vl vt : Value} {vals : List Value} {n : Int} {ar : List Arw} {order : List Int} {L : List (Stp × Value)} {told : List (List Int)} (h : As S va ar) (ho : Is S vo order) (hL : Sts S vl L) (hT : Ls S vt vals told) (hts : ∀ o∈told,o.length≤10) {Q : En→AS→Prop}
  (hq : ∀ S',Same S S' []→Q (.ret (.tuple #[.bool (checkW n ar order (L.map (·.1)) told).1,.int .i64 (checkW n ar order (L.map (·.1)) told).2])) S') : Call G 11 [.agg #[.int .i64 n,va],vo,vl,vt] S Q:=by
 obtain ⟨la,lcap,rfl⟩:=hL.shape
 obtain ⟨oa,ocap,rfl⟩:=ho.shape
 obtain ⟨ra,rcap,rfl⟩:=h.shape
 obtain ⟨ta,tcap,rfl⟩:=hT.shape
 refine call_run' (G:=G) rfl (ext_none (by decide)) ?_
 simp [-run_draw]
 generalize hS1 : AS.put _ _ _=S1
 have s1 : Same S S1 []:=by rw [← hS1]; exact ((Same.refl _ _).bu).pn (by omega)
 have g0 : S1.get S.next=some (.row [.int .i64 n,.slice ra ar.length rcap] 24 true true):=by rw [← hS1,AS.get_put_self]
 have hn1 : S1.next=S.next + 1:=by rw [← hS1]; rfl
 clear hS1
 unfold checkW at hq
 rw [List.length_map] at hq
 refine rbegun_ok (h.stay0 s1) (ho.stay0 s1) fun S2 hs2=>?_
 have hs02:=s1.tr0 hs2
 have hn2:=hs2.1
 have k0 : S2.get S.next=_:=(hs2.2 _ (by omega) (by simp)).trans g0
 by_cases hb : beginE n ar order L.length=0
 ·rw [if_neg (by simp [hb])] at hq
  obtain ⟨hck,hord,hl200⟩:=begin_facts hb
  obtain ⟨ol1,ol2,ol3⟩:=ordOk_iff.1 hord
  have hN:=checkR_pos hck
  have hw0 : WkG ⟨n,ar,order,0⟩:=⟨hck,hord,by simp⟩
  by_cases hll : told.length=L.length
  ·rw [if_neg (by simp [hll])] at hq
   simp [hb,hll,-run_draw]
   have sW : Same S2 ((S2.bump 3).put S2.next (.row [] 3 true true)) []:=((Same.refl _ _).bu).pn (by omega)
   obtain ⟨T',ca,cap',f1,f2,f3,f4,f5⟩:=app0 (T:=(S2.bump 3).put S2.next (.row [] 3 true true)) (p:=S2.next) (fr:=S2.next + 1) ((ho.stay0 hs02).stay0 sW) (by omega) (by simp) (by simp) (by simp)
   simp at f4
   have kT : T'.get S.next=_:=(f3.2 _ (by simp; omega) (by simp; omega)).trans ((sW.2 _ (by omega) (by simp)).trans k0)
   rw [run_draw]
   simp [k0,placeIn,splice,f1,kT,rowStore,okc]
   generalize hS3 : AS.put _ _ _=S3
   have sT : Same S2 T' []:=sW.trans f3 (fun m hm hl=>by simp at hm; omega)
   have s23 : Same S2 S3 []:=by rw [← hS3]; exact (sT.pn (by omega)).pn (by omega)
   have sT3 : Same T' S3 [S2.next + 2]:=by rw [← hS3]; exact ((Same.refl _ _).po (by simp)).po (by simp)
   obtain ⟨d,hd⟩ : ∃ d,d=S2.next + 2:=⟨_,rfl⟩
   have gd : S3.get d=some (.row [.int .i64 n,.slice ra ar.length rcap,.slice ca order.length cap',.int .i64 0] 73 true true):=by rw [← hS3,hd]; exact AS.get_put_self _ _ _
   have hn3 : S3.next=S2.next + 3:=by rw [← hS3]; exact f4
   rw [← hd] at sT3
   rw [← hd]
   clear hS3
   have s3:=hs02.tr0 s23
   have hco:=f2.is.stays sT3 (fun m hm hk=>by have:=f5 m hm; simp at hk; omega)
   have hcown : ∀ m∈ownsOf (.slice ca order.length cap'),S2.next≤m∧m < d:=fun m hm=>by have:=f5 m hm; omega
   clear f1 f2 f3 f4 f5 kT sT sT3 sW
   have hva:=h.lt
   generalize hst : L.map (·.1)=sts at hq
   have hsl : sts.length=L.length:=by rw [← hst,List.length_map]
   have hsi : ∀ i (hi : i < L.length),sts[i]'(by omega)=L[i].1:=fun i hi=>by subst hst; simp
   refine run_loop (fun j a' S'=>∃ i w va' vo',j=L.length - i∧i≤L.length∧Same S3 S' [d]∧WkG w∧S'.get d=some (.row [.int .i64 w.n,va',vo',.int .i64 w.passed] 73 true true)∧As S' va' w.ar∧Is S' vo' w.order ∧
     (∀ m∈ownsOf va',m≠d)∧(∀ m∈ownsOf vo',m≠d)∧checkL told 0 ⟨n,ar,order,0⟩ sts=checkL told i w (sts.drop i)∧Has a' 81 [(2,.slice la L.length lcap),(3,.slice ta L.length tcap),(11,ptr d),(12,.int .i64 i)]) _
    ⟨0,_,.slice ra ar.length rcap,.slice ca order.length cap',rfl,by omega,.refl _ _,hw0,gd,h.stay0 s3,hco,fun m hm=>by have:=hva m hm; omega,fun m hm=>by have:=hcown m hm; omega,by simp,⟨rfl,rfl,by simp⟩⟩ ?_
   rintro _ R hR _ S4 ⟨i,w,va4,vo4,rfl,hi,hs4,hwg,r1,hav,hov',hvd,hod,hwl,hA⟩
   obtain ⟨x,rfl⟩:=hA.lit
   have hn4:=hs4.1
   have s4 : Same S S4 []:=s3.trans hs4 (fun m hm hl=>by simp at hm; omega)
   by_cases hlt : i < L.length
   ·have hwS:=wrapS (show i < 9223372036854775807 by have:=hL.small; omega)
    have hlt' : (i : Int) < L.length:=by omega
    have hit : i < told.length:=by omega
    have hti : told[i]! = told[i]:=by simp [hit]
    have hstep:=checkL_B (told:=told) (i:=i) (w:=w) (l:=sts) (by omega) hwg
    have hog:=fun r now=>@bNext_g w sts[i] r now hwg
    have hck':=fun r=>@step_ck w sts[i] r
    rw [hsi i hlt,hti] at hstep
    rw [hsi i hlt] at hog hck'
    have hnow10:=hts _ (List.getElem_mem hit)
    obtain ⟨tp,tq,tcells,tet,twr,tex,tb,tbc,t1,t2,t3,t4,t5,t6,t7⟩:=(hT.stay0 s4).at hit
    have hLi:=hL.pt L[i] (List.getElem_mem hlt)
    obtain ⟨p,q,cells,et,wr,ex,h1,h2,h3,h4,h5,h6,_⟩:=(hL.stay0 s4).at hlt
    generalize told[i]=now at *
    generalize hx : L[i]=x at hstep hLi h5 h6 hog hck'
    obtain ⟨st,sv⟩:=x
    obtain ⟨hsa,hsn1,hsn2⟩:=hLi
    simp only at hstep hsn1 hsn2 hsa h6 hog hck'
    obtain ⟨sa,scap,rfl⟩:=hsa.shape
    have hsvl:=hsa.lt
    rw [hll] at t1
    simp [fillF,pickL,hlt,hlt',-run_draw]
    rw [run_draw]
    simp [r1,h1,h2,h5,stC,-run_draw]
    have sb : Same S4 (S4.bump 1) []:=(Same.refl _ _).bu
    have sb0:=s4.tr0 sb
    refine rnext_ok (w:=w) (st:=st) (hav.stay0 sb) (hov'.stay0 sb) hwg (hsa.stay0 sb0) hsn1 hsn2 ?_
    cases hdo : doW chO () w st with
    | error e=>
     rw [hdo] at hstep
     rw [hwl,hstep] at hq
     simp only at hq
     have he : e≠0:=doW_err hdo
     intro S5 n5 x5 y5 p5 ax nx cx ay ny cy hs5 hx5 hy5
     subst hx5
     subst hy5
     have hs05:=sb0.tr0 hs5
     have hs45:=sb.tr0 hs5
     have hn5:=hs5.1
     simp at hn5
     have q1 : S5.get d=_:=(hs45.2 _ (by omega) (by simp)).trans r1
     have q2 : S5.get p=_:=(hs45.2 _ (by omega) (by simp)).trans h2
     simp [q1,q2,h5,stC,rowStore,okc,splice,he]
     exact hq _ ((hs05.pn (by omega)).pn (by omega))
    | ok r=>
     rw [hdo] at hstep
     simp only at hstep
     intro S5 va5 vo5 hs5 hav5 hov5 hva5 hvo5
     have hs05:=sb0.tr0 hs5
     have hs45:=sb.tr0 hs5
     have hn5:=hs5.1
     simp at hn5
     have q1 : S5.get d=_:=(hs45.2 _ (by omega) (by simp)).trans r1
     have q2 : S5.get p=_:=(hs45.2 _ (by omega) (by simp)).trans h2
     obtain ⟨oa5,oc5,rfl⟩:=hov5.shape
     obtain ⟨ra5,rc5,rfl⟩:=hav5.shape
     simp [q1,q2,h5,stC,rowStore,okc,splice,colV,-run_draw]
     generalize hS6 : AS.put (AS.put _ _ _) _ _=S6
     obtain ⟨d2,hd2⟩ : ∃ d2,d2=S4.next:=⟨_,rfl⟩
     rw [← hd2] at hS6
     rw [← hd2]
     have s46 : Same S4 S6 []:=by rw [← hS6]; exact (hs45.pn (by omega)).pn (by omega)
     have s56 : Same S5 S6 [d2]:=by rw [← hS6]; exact ((Same.refl _ _).po (by simp)).po (by simp)
     have g6 : S6.get d2=some (.row [.int .i64 r.1.n,.slice ra5 r.1.ar.length rc5,.slice oa5 r.1.order.length oc5,.int .i64 r.1.passed] 73 true true):=by rw [← hS6]; exact AS.get_put_self _ _ _
     have hn6 : S6.next=S5.next:=by rw [← hS6]; rfl
     clear hS6
     have hva4l:=hav.lt
     have hvo4l:=hov'.owns_lt
     have hva5d : ∀ m∈ownsOf (Value.slice ra5 r.1.ar.length rc5),m≠d2∧m≠d:=fun m hm=>by
      rcases hva5 m hm with h' | h' | h'
      ·have:=hva4l m h'; have:=hvd m h'; omega
      ·have:=hsvl m h'; omega
      ·simp at h'; omega
     have hvo5d : ∀ m∈ownsOf (Value.slice oa5 r.1.order.length oc5),m≠d2:=fun m hm=>by
      rcases hvo5 m hm with h' | h'
      ·have:=hvo4l m h'; omega
      ·simp at h'; omega
     have hav6:=hav5.stays s56 (fun m hm hk=>by simp at hk; exact (hva5d m hm).1 hk)
     have hov6:=hov5.stays s56 (fun m hm hk=>by simp at hk; exact hvo5d m hm hk)
     have z2 : S6.get p=_:=(s46.2 _ (by omega) (by simp)).trans h2
     have y2 : S6.get tp=_:=(s46.2 _ (by omega) (by simp)).trans t2
     have t66:=t6.stay0 s46
     have ys : ∀ (T : AS),idxE T 1 none (.int .i64 i) (.slice ta L.length tcap)=.ret (.pointer (some ⟨tp,tq,none⟩),T):=fun T=>t1 T .i64
     rw [run_draw]
     simp [g6,ys,y2,t5,-run_draw]
     refine sameInts_ok hov6 t66 ?_
     simp [g6,ys,y2,t5,h1,z2,h6,-run_draw]
     refine cut_if (fun a' S'=>Same S6 S' []∧Has a' 81 [(2,.slice la L.length lcap),(3,.slice ta L.length tcap),(11,ptr d),(12,.int .i64 i),(13,ptr d2),(15,.bool (bNext w st r.1 now))]) ?_ ?_
     ·intro M hM
      by_cases hk : st.kind=1
      ·have hbn : bNext w st r.1 now=decide (r.1.order=now):=by unfold bNext; rw [if_pos hk]
       rw [hbn] at hM
       simp [hk]
       exact hM _ _ ⟨.refl _ _,⟨rfl,rfl,by simp⟩⟩
      ·have hbn : bNext w st r.1 now=rightB r.1.chg now:=by unfold bNext; rw [if_neg hk]
       rw [hbn] at hM
       have hc:=hck' r hdo hk
       simp [hk,-run_draw]
       rw [run_draw]
       simp [g6,ys,y2,t5,-run_draw]
       refine rchange_ok hav6 hov6 fun S7 hs7=>?_
       have hn7:=hs7.1
       have cok:=check_ok hc
       have hpp:=cok.p1
       have hnn0:=cok.n0
       have hnn1:=cok.n1
       have hol:=hov6.small
       simp only [Wk.chg] at hpp hnn0 hnn1
       have y7 : S7.get tp=_:=(hs7.2 _ (by omega) (by simp)).trans y2
       have g7 : S7.get d2=_:=(hs7.2 _ (by omega) (by simp)).trans g6
       simp [g7,ys,y7,t5]
       refine rright_ok (c:=r.1.chg) ⟨hav6.stay0 hs7,hov6.stay0 hs7,by simp only [Wk.chg]; omega,by simp only [Wk.chg]; omega,by simp only [Wk.chg]; omega,by simp only [Wk.chg]; omega⟩ (t66.stay0 hs7) hc fun S8 hs8=>?_
       have s68:=hs7.tr0 hs8
       have y8 : S8.get tp=_:=(s68.2 _ (by omega) (by simp)).trans y2
       have g8 : S8.get d2=_:=(s68.2 _ (by omega) (by simp)).trans g6
       simp [g8,ys,y8,t5]
       exact hM _ _ ⟨s68,⟨rfl,rfl,by simp⟩⟩
     ·rintro a' S7 ⟨hs7,hA7⟩
      obtain ⟨y,rfl⟩:=hA7.lit
      have hn7:=hs7.1
      have s47:=s46.tr0 hs7
      have s07:=s4.tr0 s47
      cases hbb : bNext w st r.1 now with
      | false=>
       rw [hbb] at hstep
       rw [hwl,hstep] at hq
       simp only [Bool.false_eq_true,if_false] at hq
       simp [fillF,pickL]
       exact hq _ s07
      | true=>
       rw [hbb] at hstep
       simp only [if_true] at hstep
       have hwg':=hog r now hdo hbb
       have sW : Same S7 ((S7.bump 2).put S7.next (.row [] 3 true true)) []:=((Same.refl _ _).bu).pn (by omega)
       have t77:=t66.stay0 hs7
       have y7 : S7.get tp=_:=(hs7.2 _ (by omega) (by simp)).trans y2
       have g7 : S7.get d2=_:=(hs7.2 _ (by omega) (by simp)).trans g6
       obtain ⟨T',ca,cap',f1,f2,f3,f4,f5⟩:=app0 (T:=(S7.bump 2).put S7.next (.row [] 3 true true)) (p:=S7.next) (fr:=S7.next + 1) (t77.stay0 sW) (by omega) (by simp) (by simp) (by simp)
       simp at f4
       have sT : Same S7 T' []:=sW.trans f3 (fun m hm hl=>by simp at hm; omega)
       have nd : d2≠S7.next:=by omega
       have nt : tp≠S7.next:=by omega
       have gT : T'.get d2=_:=(sT.2 _ (by omega) (by simp)).trans g7
       have gTd : T'.get d=some (.row [.int .i64 w.n,va4,vo4,.int .i64 w.passed] 73 true true):=(sT.2 _ (by omega) (by simp)).trans ((s47.2 _ (by omega) (by simp)).trans r1)
       have nd2 : d≠d2:=by omega
       have nd3 : d2≠d:=by omega
       have hcn : ∀ m∈ownsOf (.slice ca now.length cap'),S7.next≤m∧m < S7.next + 2:=fun m hm=>by have:=f5 m hm; omega
       simp [fillF,pickL,placeIn,splice,ys,y7,nt,t5,f1,gT,gTd,nd,nd2,nd3,rowStore,okc,hwS]
       generalize hF : AS.put (AS.put _ _ _) _ _=F
       have sTF : Same T' F [d2,d]:=by rw [← hF]; exact ((Same.refl _ _).po (by simp)).po (by simp)
       have gF : F.get d=some (.row [.int .i64 r.1.n,.slice ra5 r.1.ar.length rc5,.slice ca now.length cap',.int .i64 r.1.passed] 73 true true):=by rw [← hF]; exact AS.get_put_self _ _ _
       clear hF
       have s6T : Same S6 T' []:=hs7.tr0 sT
       have s6F : Same S6 F [d2,d]:=(s6T.mono (by simp)).trans sTF (fun m hm _=>hm)
       have s4F : Same S4 F [d]:=((s46.tr0 s6T).mono (gp:=[d]) (by simp)).trans sTF (fun m hm hl=>by simp at hm; simp; omega)
       refine hR _ _ _ (by omega) ⟨i + 1,⟨r.1.n,r.1.ar,now,r.1.passed⟩,.slice ra5 r.1.ar.length rc5,.slice ca now.length cap',rfl,by omega,hs4.trans s4F (fun m hm _=>hm),hwg',gF,hav6.stays s6F (fun m hm hk=>by have:=hva5d m hm; simp at hk; omega),f2.is.stays sTF (fun m hm hk=>by have:=hcn m hm; simp at hk; omega),fun m hm=>(hva5d m hm).2,fun m hm=>by have:=hcn m hm; omega,by rw [hwl,hstep],⟨rfl,rfl,by simp⟩⟩
   ·obtain rfl : i=L.length:=by omega
    rw [hwl,List.drop_eq_nil_of_le (by omega)] at hq
    simp only [checkL] at hq
    simp [fillF,pickL]
    exact hq _ s4
  ·rw [if_pos hll] at hq
   have hll' : ¬ (told.length : Int)=L.length:=by omega
   simp [hb,hll,hll']
   exact hq _ hs02
 ·rw [if_pos hb] at hq
  simp [hb]
  exact hq _ hs02

theorem u90 : Tryz.prog.underlying 29=some (.slice 25):=by kernel_rfl
theorem n25 : Tryz.prog.cellsOf 25=1:=by kernel_rfl
theorem ls_of {S : AS} {d : Nat} {v : Value} (hv : S.Valid) (h : Ty Tryz.prog S (d + 3) 29 [v]) : ∃ vals ls,Ls S v vals ls:=by
 obtain ⟨cs,g1,g2,g3⟩:=ty_slice1 u90 n25 hv h
 have : ∃ ls : List (List Int),cs.length=ls.length∧∀ (i : Nat) (u : Value) (l : List Int),cs[i]?=some u→ls[i]?=some l→Is S u l:=by
  clear g1 g2
  induction cs with
  | nil=>exact ⟨[],rfl,by simp⟩
  | cons x xs ih=>
   obtain ⟨ls,h1,h2⟩:=ih fun c hc=>g3 c (List.mem_cons_of_mem _ hc)
   obtain ⟨l,hl,_⟩:=is_of u25 u3 n3 hv (g3 x (List.mem_cons_self ..))
   refine ⟨l :: ls,by simp [h1],fun i u l' k1 k2=>?_⟩
   cases i with
   | zero=>simp at k1 k2; subst k1; subst k2; exact hl
   | succ i=>exact h2 i u l' (by simpa using k1) (by simpa using k2)
 obtain ⟨ls,h1,h2⟩:=this
 exact ⟨cs,ls,g1,h1,by unfold maxLen at g2; omega,h2⟩
theorem amendWalked {S : AS} {va vo vl vt : Value} {n : Int} {ar : List Arw} {order : List Int} {L : List (Stp × Value)} {vals : List Value} {told : List (List Int)} (h : As S va ar) (ho : Is S vo order) (hL : Sts S vl L) (hT : Ls S vt vals told) : Call G 4 [.agg #[.int .i64 n,va],vo,vl,vt] S fun e _=>e=.ret (.bool true):=by
 obtain ⟨ta,tcap,rfl⟩:=hT.shape
 have hvl:=hT.len
 have hsm:=hT.small
 refine call_run' (G:=G) rfl (ext_none (by decide)) ?_
 simp
 generalize hS1 : AS.put _ _ _=S1
 have s1 : Same S S1 []:=by rw [← hS1]; exact ((Same.refl _ _).bu).pn (by omega)
 have g0 : S1.get S.next=some (.row [.int .i64 n,va] 24 true true):=by rw [← hS1,AS.get_put_self]
 have hn1 : S1.next=S.next + 1:=by rw [← hS1]; rfl
 clear hS1
 refine short_ok (ho.stay0 s1) (hL.stay0 s1) fun S2 b hs2 _=>?_
 have hs02:=s1.tr0 hs2
 have k0 : S2.get S.next=_:=(hs2.2 _ (by omega) (by simp)).trans g0
 have hn2:=hs2.1
 cases b with
 | false=>
  simp [undef]
  refine alive_ok ?_
  simp
 | true=>
  by_cases hl : 10 < told.length
  ·have hl' : (10 : Int) < told.length:=by omega
   simp [hl',undef]
   refine alive_ok ?_
   simp
  ·have hl' : ¬ (10 : Int) < told.length:=by omega
   simp [hl',undef]
   refine run_loop (fun j a' S'=>∃ i,j=told.length - i∧i≤told.length∧S'=S2∧(∀ o∈told.take i,o.length≤10)∧Has a' 64 [(1,vo),(2,vl),(3,.slice ta told.length tcap),(4,ptr S.next),(26,.slice ta told.length tcap),(27,.int .i64 told.length),(28,.int .i64 i)]) _
    ⟨0,rfl,by omega,rfl,by simp,⟨rfl,rfl,by simp⟩⟩ ?_
   rintro _ R hR _ S5 ⟨i,rfl,hi,hS5,hf,hA⟩
   subst hS5
   obtain ⟨x,rfl⟩:=hA.lit
   by_cases hlt : i < told.length
   ·have hwS:=wrapS (show i < 9223372036854775807 by omega)
    have hlt' : (i : Int) < told.length:=by omega
    obtain ⟨p1,q1,c1,e1,w1,x1,b1,cap1,a1,a2,a3,a4,a5,a6,a7⟩:=(hT.stay0 hs02).at hlt
    by_cases hten : 10 < told[i].length
    ·have hten' : (10 : Int) < told[i].length:=by omega
     simp [fillF,pickL,hlt,hlt',a1,a2,a5,hten']
     refine alive_ok ?_
     simp
    ·have hten' : ¬ (10 : Int) < told[i].length:=by omega
     simp [fillF,pickL,hlt,hlt',a1,a2,a5,hten',hwS]
     refine hR _ _ _ (by omega) ⟨i + 1,rfl,by omega,rfl,fun o ho=>?_,⟨rfl,rfl,by simp⟩⟩
     rw [List.take_add_one,List.getElem?_eq_getElem hlt] at ho
     rcases List.mem_append.1 ho with h' | h'
     ·exact hf o h'
     ·simp at h'; subst h'; omega
   ·obtain rfl : i=told.length:=by omega
    rw [List.take_length] at hf
    simp [fillF,pickL,k0]
    refine CheckWalk_ok (h.stay0 hs02) (ho.stay0 hs02) (hL.stay0 hs02) (hT.stay0 hs02) fun S3 hs3=>?_
    have hs03:=hs02.tr0 hs3
    have k1 : S3.get S.next=_:=(hs3.2 _ (by omega) (by simp)).trans k0
    simp [k1]
    refine rCheckWalk_ok (h.stay0 hs03) (ho.stay0 hs03) (hL.stay0 hs03) (hT.stay0 hs03) hf fun S4 hs4=>?_
    simp
    refine alive_ok ?_
    simp
end Go.Gx.Z
