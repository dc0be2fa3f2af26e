/-
  The reference's next state: all kinds; what it leaves; choosers behind a step.
-/
import Derived.Test.YtnhaainnhmmbfaaGreatZb
import Derived.Test.YtnhaainnhmmbfaaGreatQn
set_option linter.all false
set_option linter.deprecated false
namespace Go.Gx.Z
open Go.Gx Go.Proofs
set_option maxRecDepth 100000
set_option maxHeartbeats 4000000
theorem Lo.ls {S : AS} {v : Value} {vals : List Value} {ls : List (List Int)} (h : Lo S v vals ls) (hl : ls.length≤100000) : Ls S v vals ls:=by
 have hvl:=h.len
 obtain ⟨a,e⟩:=h.shape
 have hsrc:=h.sl.src (sing_uni vals) (by omega)
 rw [sing_len,sing_flat] at hsrc
 exact ⟨⟨⟨a,ls.length,by rw [e,hvl]⟩,hsrc,h.sl.owns_lt⟩,hvl,by omega,h.pt⟩
def Wk.chg (w : Wk) : Chg:=⟨w.n,w.ar,w.order,w.passed⟩
section
variable {σ : Type} {ch : σ→Chg→List Int × σ}
def askC (w : Wk) (st : Stp) (w1 : Wk) : Chg:=if st.kind=1 then ⟨w.n,w.ar,w.order,-1⟩ else w1.chg
def putC (ch : σ→Chg→List Int × σ) (s : σ) (w : Wk) (st : Stp) (w1 : Wk) : Wk × σ:=(⟨w1.n,w1.ar,(ch s (askC w st w1)).1,w1.passed⟩,(ch s (askC w st w1)).2)
theorem turn_gen (s : σ) (w : Wk) (n : Int) (ar : List Arw) (old : List Int) : turnW ch s w n ar old=match turnW chO () w n ar old with
  | .error e=>.error e
  | .ok r=>.ok (⟨r.1.n,r.1.ar,(ch s r.1.chg).1,r.1.passed⟩,(ch s r.1.chg).2):=by
 unfold turnW
 by_cases h : (Chg.mk n ar old w.passed).check=0
 ·rw [if_neg (by simp [h]),if_neg (by simp [h])]
  rfl
 ·rw [if_pos h,if_pos h]
theorem do_gen (s : σ) (w : Wk) (st : Stp) : doW ch s w st=match doW chO () w st with
  | .error e=>.error e
  | .ok r=>.ok (putC ch s w st r.1):=by
 unfold doW putC askC
 by_cases c1 : st.kind=1
 ·rw [if_pos c1,if_pos c1]
  unfold passW
  by_cases h : w.passed < w.order.length
  ·rw [if_pos h,if_pos h]
   simp only [c1,if_true]
  ·rw [if_neg h,if_neg h]
 ·rw [if_neg c1,if_neg c1]
  simp only [c1,if_false]
  by_cases c2 : st.kind=2
  ·rw [if_pos c2,if_pos c2]
   unfold leaveW
   by_cases hg : 0≤st.guest∧st.guest < w.n
   ·rw [if_pos hg,if_pos hg]
    by_cases hm : st.guest∈w.order.take w.passed
    ·rw [if_pos hm,if_pos hm]
    ·rw [if_neg hm,if_neg hm]
     exact turn_gen _ _ _ _ _
   ·rw [if_neg hg,if_neg hg]
  ·rw [if_neg c2,if_neg c2]
   have hr : ∀ m : Int,renewW ch s w st m=match renewW chO () w st m with
     | .error e=>.error e
     | .ok r=>.ok (⟨r.1.n,r.1.ar,(ch s r.1.chg).1,r.1.passed⟩,(ch s r.1.chg).2):=by
    intro m
    unfold renewW
    by_cases hc : checkR st.n st.ar=0
    ·have hc' : ¬ checkR st.n st.ar≠0:=by simp [hc]
     rw [if_neg hc',if_neg hc']
     by_cases he : st.n=w.n + m
     ·rw [if_pos he,if_pos he]
      exact turn_gen _ _ _ _ _
     ·rw [if_neg he,if_neg he]
    ·rw [if_pos hc,if_pos hc]
   by_cases c3 : st.kind=3
   ·rw [if_pos c3,if_pos c3]; exact hr 1
   ·rw [if_neg c3,if_neg c3]
    by_cases c4 : st.kind=4
    ·rw [if_pos c4,if_pos c4]; exact hr 0
    ·rw [if_neg c4,if_neg c4]
end
structure WkG (w : Wk) : Prop where
 ck : checkR w.n w.ar=0
 or : ordOk w.n.toNat w.order=true
 ps : w.passed≤w.order.length
theorem WkG.len {w : Wk} (h : WkG w) : (w.order.length : Int)=w.n:=by
 have h1:=(ordOk_iff.1 h.or).1
 have h2:=(checkR_pos h.ck).1
 omega
theorem WkG.inn {w : Wk} (h : WkG w) : ∀ x∈w.order,0≤x∧x < w.n:=by
 intro x hx
 have h1:=(ordOk_iff.1 h.or).2.2 x hx
 have h2:=(checkR_pos h.ck).1
 omega
theorem WkG.sm {w : Wk} (h : WkG w) : w.order.length≤24:=by
 have h1:=h.len
 have h2:=(checkR_pos h.ck).2.1
 omega
theorem turn_ck {w : Wk} {n : Int} {ar : List Arw} {old : List Int} {r : Wk × Unit} (h : turnW chO () w n ar old=.ok r) : r.1.chg.check=0:=by
 unfold turnW at h
 split at h
 ·cases h
 ·rename_i h1
  cases h
  exact Decidable.of_not_not h1
theorem step_ck {w : Wk} {st : Stp} {r : Wk × Unit} (h : doW chO () w st=.ok r) (k : ¬ st.kind=1) : r.1.chg.check=0:=by
 have hr : ∀ {m : Int},renewW chO () w st m=.ok r→r.1.chg.check=0:=by
  intro m h
  unfold renewW at h
  split at h
  ·cases h
  ·split at h
   ·exact turn_ck h
   ·cases h
 unfold doW at h
 rw [if_neg k] at h
 split at h
 ·unfold leaveW at h
  split at h
  ·split at h
   ·cases h
   ·exact turn_ck h
  ·cases h
 ·split at h
  ·exact hr h
  ·split at h
   ·exact hr h
   ·cases h
theorem pass_g {w : Wk} {st : Stp} {r : Wk × Unit} (hw : WkG w) (h : doW chO () w st=.ok r) (k : st.kind=1) : r.1=⟨w.n,w.ar,w.order,w.passed + 1⟩∧WkG r.1:=by
 unfold doW at h
 rw [if_pos k] at h
 unfold passW at h
 split at h
 ·rename_i h1
  cases h
  exact ⟨rfl,hw.ck,hw.or,by simp only; exact h1⟩
 ·cases h
theorem order_g {w : Wk} {o : List Int} (h : w.chg.check=0) (ho : ordOk w.chg.cg.n o=true) : WkG ⟨w.n,w.ar,o,w.passed⟩:=by
 have ok:=check_ok h
 have e : w.chg.cg.n=w.n.toNat:=rfl
 have l1:=(ordOk_iff.1 ho).1
 have l2:=ok.p1
 have l3:=ok.olen
 have l4 : w.chg.passed=w.passed:=rfl
 have l5 : w.chg.old=w.order:=rfl
 have l6 : w.chg.n=w.n:=rfl
 rw [l5] at l2 l3
 rw [l4] at l2
 exact ⟨check_ck h,by rw [← e]; exact ho,by simp only; omega⟩
theorem rnext_ok {S : AS} {va vo sv : Value} {w : Wk} {st : Stp} (ha : As S va w.ar) (ho : Is S vo w.order) (hw : WkG w) (hs : As S sv st.ar) (hn1 : -9223372036854775808≤st.n) (hn2 : st.n≤9223372036854775807) {Q : En→AS→Prop}
  (hq : NextE S va vo sv w Q (doW chO () w st)) : Call G 27 [colV w va vo,st.val sv] S Q:=by
 have hsm:=hw.sm
 by_cases c1 : st.kind=1
 ·exact rnext_pass ha ho hw.ps (by omega) hw.len hs c1 hq
 by_cases c2 : st.kind=2
 ·unfold doW at hq
  rw [if_neg c1,if_pos c2] at hq
  exact rnext_leave ha ho hw.ck hw.ps (by omega) hw.inn hs c2 hq
 by_cases c3 : st.kind=3
 ·unfold doW at hq
  rw [if_neg c1,if_neg c2,if_pos c3] at hq
  exact rnext_renew ha ho hw.ck hw.ps (by omega) hs hn1 hn2 (.inl ⟨c3,rfl⟩) hq
 by_cases c4 : st.kind=4
 ·unfold doW at hq
  rw [if_neg c1,if_neg c2,if_neg c3,if_pos c4] at hq
  exact rnext_renew ha ho hw.ck hw.ps (by omega) hs hn1 hn2 (.inr ⟨c4,rfl⟩) hq
 exact rnext_other ha ho hs c1 c2 c3 c4 hq

def oStep (w : Wk) (st : Stp) (w1 : Wk) : List Int:=if st.kind=1 then w1.order else w1.chg.cg.amd.order
theorem walkL_O {w : Wk} {ws : List Wk} {l : List Stp} {i : Nat} (hi : i < l.length) (hw : WkG w) : pre ws (walkL w (l.drop i))=match doW chO () w l[i] with
  | .error e=>.error e
  | .ok r=>pre (ws ++ [⟨r.1.n,r.1.ar,oStep w l[i] r.1,r.1.passed⟩]) (walkL ⟨r.1.n,r.1.ar,oStep w l[i] r.1,r.1.passed⟩ (l.drop (i + 1))):=by
 rw [walkL_step hi,do_gen (ch:=chA)]
 cases h : doW chO () w l[i] with
 | error e=>rfl
 | ok r=>
  have e : (putC chA () w l[i] r.1).1=⟨r.1.n,r.1.ar,oStep w l[i] r.1,r.1.passed⟩:=by
   unfold putC oStep askC
   by_cases k : l[i].kind=1
   ·rw [if_pos k,if_pos k]
    obtain ⟨e1,_⟩:=pass_g hw h k
    have hA : (chA () ⟨w.n,w.ar,w.order,-1⟩).1=w.order:=by
     show (if (-1 : Int) < 0 then w.order else (Chg.mk w.n w.ar w.order (-1)).cg.amd.order)=_
     rw [if_pos (by omega)]
    simp only [hA]
    rw [e1]
   ·rw [if_neg k,if_neg k]
    have hA : (chA () r.1.chg).1=r.1.chg.cg.amd.order:=by
     show (if ((r.1.passed : Nat) : Int) < 0 then r.1.order else r.1.chg.cg.amd.order)=_
     rw [if_neg (by omega)]
    simp only [hA]
  simp only [e]
theorem oStep_g {w : Wk} {st : Stp} {r : Wk × Unit} (hw : WkG w) (h : doW chO () w st=.ok r) : WkG ⟨r.1.n,r.1.ar,oStep w st r.1,r.1.passed⟩:=by
 unfold oStep
 by_cases k : st.kind=1
 ·rw [if_pos k]
  exact (pass_g hw h k).2
 ·rw [if_neg k]
  have hc:=step_ck h k
  exact order_g hc (amd_ord (check_ok hc))
theorem rWalk_ok {S : AS} {va vo vl : Value} {n : Int} {ar : List Arw} {order : List Int} {L : List (Stp × Value)} (h : As S va ar) (ho : Is S vo order) (hL : Sts S vl L) {Q : En→AS→Prop}
  (hq : ∀ S' v vals,Same S S' []→Lo S' v vals (walkR n ar order (L.map (·.1))).1→Q (.ret (.tuple #[v,.int .i64 (walkR n ar order (L.map (·.1))).2])) S') : Call G 8 [.agg #[.int .i64 n,va],vo,vl] S Q:=by
 obtain ⟨la,lcap,rfl⟩:=hL.shape
 obtain ⟨oa,ocap,rfl⟩:=ho.shape
 obtain ⟨ra,rcap,rfl⟩:=h.shape
 refine call_run' (G:=G) rfl (ext_none (by decide)) ?_
 simp [-run_draw]
 generalize hS1 : AS.put _ _ _=S1
 have s1 : Same S S1 []:=by rw [← hS1]; exact ((Same.refl _ _).bu).pn (by omega)
 have g0 : S1.get S.next=some (.row [.int .i64 n,.slice ra ar.length rcap] 24 true true):=by rw [← hS1,AS.get_put_self]
 have hn1 : S1.next=S.next + 1:=by rw [← hS1]; rfl
 clear hS1
 unfold walkR at hq
 rw [List.length_map] at hq
 refine rbegun_ok (h.stay0 s1) (ho.stay0 s1) fun S2 hs2=>?_
 have hs02:=s1.tr0 hs2
 have hn2:=hs2.1
 have k0 : S2.get S.next=_:=(hs2.2 _ (by omega) (by simp)).trans g0
 by_cases hb : beginE n ar order L.length=0
 ·rw [if_neg (by simp [hb])] at hq
  obtain ⟨hck,hord,hl200⟩:=begin_facts hb
  obtain ⟨ol1,ol2,ol3⟩:=ordOk_iff.1 hord
  have hN:=checkR_pos hck
  have hw0 : WkG ⟨n,ar,order,0⟩:=⟨hck,hord,by simp⟩
  simp [hb,-run_draw]
  have sW : Same S2 ((S2.bump 3).put S2.next (.row [] 3 true true)) []:=((Same.refl _ _).bu).pn (by omega)
  obtain ⟨T',ca,cap',f1,f2,f3,f4,f5⟩:=app0 (T:=(S2.bump 3).put S2.next (.row [] 3 true true)) (p:=S2.next) (fr:=S2.next + 1) ((ho.stay0 hs02).stay0 sW) (by omega) (by simp) (by simp) (by simp)
  simp at f4
  have kT : T'.get S.next=_:=(f3.2 _ (by simp; omega) (by simp; omega)).trans ((sW.2 _ (by omega) (by simp)).trans k0)
  rw [run_draw]
  simp [k0,placeIn,splice,f1,kT,rowStore,okc]
  generalize hS3 : AS.put _ _ _=S3
  have sT : Same S2 T' []:=sW.trans f3 (fun m hm hl=>by simp at hm; omega)
  have s23 : Same S2 S3 []:=by rw [← hS3]; exact (sT.pn (by omega)).pn (by omega)
  have sT3 : Same T' S3 [S2.next + 2]:=by rw [← hS3]; exact ((Same.refl _ _).po (by simp)).po (by simp)
  obtain ⟨d,hd⟩ : ∃ d,d=S2.next + 2:=⟨_,rfl⟩
  have gd : S3.get d=some (.row [.int .i64 n,.slice ra ar.length rcap,.slice ca order.length cap',.int .i64 0] 73 true true):=by rw [← hS3,hd]; exact AS.get_put_self _ _ _
  have hn3 : S3.next=S2.next + 3:=by rw [← hS3]; exact f4
  rw [← hd] at sT3
  rw [← hd]
  clear hS3
  have s3:=hs02.tr0 s23
  have hco:=f2.is.stays sT3 (fun m hm hk=>by have:=f5 m hm; simp at hk; omega)
  have hcown : ∀ m∈ownsOf (.slice ca order.length cap'),S2.next≤m∧m < d:=fun m hm=>by have:=f5 m hm; omega
  clear f1 f2 f3 f4 f5 kT sT sT3 sW
  have hva:=h.lt
  generalize hst : L.map (·.1)=sts at hq
  have hsl : sts.length=L.length:=by rw [← hst,List.length_map]
  have hsi : ∀ i (hi : i < L.length),sts[i]'(by omega)=L[i].1:=fun i hi=>by subst hst; simp
  refine run_loop (fun j a' S'=>∃ i w va' vo' ov vals ws,j=L.length - i∧i≤L.length∧Same S3 S' [d]∧WkG w∧S'.get d=some (.row [.int .i64 w.n,va',vo',.int .i64 w.passed] 73 true true)∧As S' va' w.ar∧Is S' vo' w.order ∧
    (∀ m∈ownsOf va',m≠d∧m∉ownsOf ov)∧(∀ m∈ownsOf vo',m≠d∧m∉ownsOf ov)∧Lo S' ov vals (ws.map (·.order))∧(∀ m∈ownsOf ov,d < m)∧(∀ u∈vals,∀ m∈ownsOf u,d < m∧m∉ownsOf ov) ∧
    walkL ⟨n,ar,order,0⟩ sts=pre ws (walkL w (sts.drop i))∧ws.length=i∧Has a' 70 [(2,.slice la L.length lcap),(9,ptr d),(10,ov),(11,.int .i64 i)]) _
   ⟨0,_,.slice ra ar.length rcap,.slice ca order.length cap',.slice none 0 0,[],[],rfl,by omega,.refl _ _,hw0,gd,h.stay0 s3,hco,fun m hm=>⟨by have:=hva m hm; omega,by simp [ownsOf]⟩,fun m hm=>⟨by have:=hcown m hm; omega,by simp [ownsOf]⟩,Lo.nil,by simp [ownsOf],by simp,?_,rfl,⟨rfl,rfl,by simp⟩⟩ ?_
  ·simp only [List.drop_zero]
   generalize walkL ⟨n,ar,order,0⟩ sts=r
   cases r <;> rfl
  rintro _ R hR _ S4 ⟨i,w,va4,vo4,ov,vals,ws,rfl,hi,hs4,hwg,r1,hav,hov',hvd,hod,hLo,hov,hvals,hwl,hwsl,hA⟩
  obtain ⟨x,rfl⟩:=hA.lit
  have hn4:=hs4.1
  by_cases hlt : i < L.length
  ·have hwS:=wrapS (show i < 9223372036854775807 by have:=hL.small; omega)
   have hlt' : (i : Int) < L.length:=by omega
   have hstep:=walkL_O (w:=w) (ws:=ws) (l:=sts) (i:=i) (by omega) hwg
   have hog:=fun r=>@oStep_g w sts[i] r hwg
   rw [hsi i hlt] at hstep hog
   have hLi:=hL.pt L[i] (List.getElem_mem hlt)
   obtain ⟨p,q,cells,et,wr,ex,h1,h2,h3,h4,h5,h6,_⟩:=(hL.stay0 s3).at hlt
   generalize hx : L[i]=x at hstep hLi h5 h6 hog
   obtain ⟨st,sv⟩:=x
   obtain ⟨hsa,hsn1,hsn2⟩:=hLi
   simp only at hstep hsn1 hsn2 hsa h6 hog
   obtain ⟨sa,scap,rfl⟩:=hsa.shape
   have hsvl:=hsa.lt
   have hlv:=hL.ps.lt p h4
   have h2' : S4.get p=_:=(hs4.2 _ h3 (by simp; omega)).trans h2
   simp [fillF,pickL,hlt,hlt',-run_draw]
   rw [run_draw]
   simp [r1,h1,h2',h5,stC]
   have sb : Same S4 (S4.bump 1) []:=(Same.refl _ _).bu
   have sb0 : Same S (S4.bump 1) []:=(s3.trans hs4 (fun m hm hl=>by simp at hm; omega)).tr0 sb
   refine rnext_ok (w:=w) (st:=st) (hav.stay0 sb) (hov'.stay0 sb) hwg (hsa.stay0 sb0) hsn1 hsn2 ?_
   cases hdo : doW chO () w st with
   | error e=>
    rw [hdo] at hstep
    rw [hwl,hstep] at hq
    simp only at hq
    have he:=doW_err hdo
    intro S5 n5 x5 y5 p5 ax nx cx ay ny cy hs5 hx5 hy5
    subst hx5
    subst hy5
    have hs05:=sb0.tr0 hs5
    have hs45:=sb.tr0 hs5
    have hn5:=hs5.1
    simp at hn5
    have q1 : S5.get d=_:=(hs45.2 _ (by omega) (by simp)).trans r1
    have q2 : S5.get p=_:=(hs45.2 _ (by omega) (by simp)).trans h2'
    simp [q1,q2,h5,stC,rowStore,okc,splice,he]
    refine hq _ _ [] ((hs05.pn (by omega)).pn (by omega)) Lo.nil
   | ok r=>
    rw [hdo] at hstep
    simp only at hstep
    have hwg':=hog r hdo
    intro S5 va5 vo5 hs5 hav5 hov5 hva5 hvo5
    have hs05:=sb0.tr0 hs5
    have hs45:=sb.tr0 hs5
    have hn5:=hs5.1
    simp at hn5
    have q1 : S5.get d=_:=(hs45.2 _ (by omega) (by simp)).trans r1
    have q2 : S5.get p=_:=(hs45.2 _ (by omega) (by simp)).trans h2'
    obtain ⟨oa5,oc5,rfl⟩:=hov5.shape
    obtain ⟨ra5,rc5,rfl⟩:=hav5.shape
    simp [q1,q2,h5,stC,rowStore,okc,splice,colV]
    generalize hS6 : AS.put (AS.put _ _ _) _ _=S6
    obtain ⟨d2,hd2⟩ : ∃ d2,d2=S4.next:=⟨_,rfl⟩
    rw [← hd2] at hS6
    rw [← hd2]
    have s46 : Same S4 S6 []:=by rw [← hS6]; exact (hs45.pn (by omega)).pn (by omega)
    have s56 : Same S5 S6 [d2]:=by rw [← hS6]; exact ((Same.refl _ _).po (by simp)).po (by simp)
    have g6 : S6.get d2=some (.row [.int .i64 r.1.n,.slice ra5 r.1.ar.length rc5,.slice oa5 r.1.order.length oc5,.int .i64 r.1.passed] 73 true true):=by rw [← hS6]; exact AS.get_put_self _ _ _
    have hn6 : S6.next=S5.next:=by rw [← hS6]; rfl
    clear hS6
    have hva4l:=hav.lt
    have hvo4l:=hov'.owns_lt
    have hovl:=hLo.sl.owns_lt
    have hsvS : ∀ m∈ownsOf (Value.slice sa st.ar.length scap),m < S.next:=hsvl
    have hva5d : ∀ m∈ownsOf (Value.slice ra5 r.1.ar.length rc5),m≠d2:=fun m hm=>by
     rcases hva5 m hm with h' | h' | h'
     ·have:=hva4l m h'; omega
     ·have:=hsvS m h'; omega
     ·simp at h'; omega
    have hvo5d : ∀ m∈ownsOf (Value.slice oa5 r.1.order.length oc5),m≠d2:=fun m hm=>by
     rcases hvo5 m hm with h' | h'
     ·have:=hvo4l m h'; omega
     ·simp at h'; omega
    have hav6:=hav5.stays s56 (fun m hm hk=>by simp at hk; exact hva5d m hm hk)
    have hov6:=hov5.stays s56 (fun m hm hk=>by simp at hk; exact hvo5d m hm hk)
    have t2 : S6.get p=_:=(s46.2 _ (by omega) (by simp)).trans h2'
    simp [h1,t2,h6]
    refine cut_if (fun a' S'=>∃ vo7,Same S6 S' [d2]∧S'.get d2=some (.row [.int .i64 r.1.n,.slice ra5 r.1.ar.length rc5,vo7,.int .i64 r.1.passed] 73 true true)∧Is S' vo7 (oStep w st r.1)∧(∀ m∈ownsOf vo7,m∈ownsOf (Value.slice oa5 r.1.order.length oc5)∨S6.next≤m) ∧
     Has a' 70 [(2,.slice la L.length lcap),(9,ptr d),(10,ov),(11,.int .i64 i),(12,ptr d2)]) ?_ ?_
    ·intro M hM
     by_cases hk : st.kind=1
     ·have ho : oStep w st r.1=r.1.order:=by unfold oStep; rw [if_pos hk]
      simp [hk]
      exact hM _ _ ⟨_,.refl _ _,g6,by rw [ho]; exact hov6,fun m hm=>.inl hm,⟨rfl,rfl,by simp⟩⟩
     ·have ho : oStep w st r.1=r.1.chg.cg.amd.order:=by unfold oStep; rw [if_neg hk]
      have hc:=step_ck hdo hk
      simp [hk,g6]
      have s6b : Same S6 (S6.bump 1) []:=(Same.refl _ _).bu
      refine rchange_ok (hav6.stay0 s6b) (hov6.stay0 s6b) fun S7 hs7=>?_
      have s67:=s6b.tr0 hs7
      have hn7:=hs7.1
      simp at hn7
      have cok:=check_ok hc
      have hpp:=cok.p1
      have hnn0:=cok.n0
      have hnn1:=cok.n1
      have hol:=hov6.small
      simp only [Wk.chg] at hpp hnn0 hnn1
      simp
      refine rAmend_ok (c:=r.1.chg) ⟨hav6.stay0 s67,hov6.stay0 s67,by simp only [Wk.chg]; omega,by simp only [Wk.chg]; omega,by simp only [Wk.chg]; omega,by simp only [Wk.chg]; omega⟩ (fun hz=>absurd hc hz) fun _ S8 v8 k8 hs8 hi8 hk8 ho8=>?_
      have s68:=s67.tr0 hs8
      have hn8:=hs8.1
      have g8 : S8.get d2=_:=(s68.2 _ (by omega) (by simp)).trans g6
      obtain ⟨va8,vc8,rfl⟩:=hi8.shape
      obtain ⟨ka8,kc8,rfl⟩:=hk8.shape
      have hne : d2≠S6.next:=by omega
      simp [g8,rowStore,okc,splice,hne]
      generalize hF : AS.put (AS.put (AS.put _ _ _) _ _) _ _=F
      have s8F : Same S8 F [S6.next,d2]:=by rw [← hF]; exact (((Same.refl _ _).po (by simp)).po (by simp)).po (by simp)
      have s6F : Same S6 F [d2]:=by rw [← hF]; exact (((s68.pn (by omega)).pn (by omega)).mono (by simp)).po (by simp)
      have gF : F.get d2=some (.row [.int .i64 r.1.n,.slice ra5 r.1.ar.length rc5,.slice va8 r.1.chg.cg.amd.order.length vc8,.int .i64 r.1.passed] 73 true true):=by rw [← hF]; exact AS.get_put_self _ _ _
      clear hF
      have ho8' : ∀ m∈ownsOf (.slice va8 r.1.chg.cg.amd.order.length vc8),S6.next + 1≤m:=fun m hm=>by have:=ho8 m (List.mem_append_left _ hm); omega
      exact hM _ _ ⟨_,s6F,gF,by rw [ho]; exact hi8.stays s8F (fun m hm hk=>by have:=ho8' m hm; simp at hk; omega),fun m hm=>.inr (by have:=ho8' m hm; omega),⟨rfl,rfl,by simp⟩⟩
    ·rintro a' S7 ⟨vo7,hs7,g7,hov7,hvo7,hA7⟩
     obtain ⟨y,rfl⟩:=hA7.lit
     have hn7:=hs7.1
     have hvo7l:=hov7.owns_lt
     have s47 : Same S4 S7 []:=s46.trans hs7 (fun m hm hl=>by simp at hm; omega)
     have hwsl24 : (ws.map (·.order)).length≤100000:=by rw [List.length_map]; omega
     have hol24:=hwg'.sm
     simp only at hol24
     have sW : Same S7 ((S7.bump 4).put S7.next (.row [] 3 true true)) []:=((Same.refl _ _).bu).pn (by omega)
     obtain ⟨T',ca,cap',f1,f2,f3,f4,f5⟩:=app0 (T:=(S7.bump 4).put S7.next (.row [] 3 true true)) (p:=S7.next) (fr:=S7.next + 1) (hov7.stay0 sW) (by omega) (by simp) (by simp) (by simp)
     simp at f4
     generalize hol : oStep w st r.1=ol at *
     have sT : Same S7 T' []:=sW.trans f3 (fun m hm hl=>by simp at hm; omega)
     have sX : Same S7 (T'.put (S7.next + 2) (.row [.slice ca ol.length cap'] 25 true true)) []:=sT.pn (by omega)
     have sTX : Same T' (T'.put (S7.next + 2) (.row [.slice ca ol.length cap'] 25 true true)) [S7.next + 2]:=(Same.refl _ _).po (by simp)
     have s4X:=s47.tr0 sX
     have hcn : ∀ m∈ownsOf (.slice ca ol.length cap'),S7.next≤m∧m < S7.next + 2:=fun m hm=>by have:=f5 m hm; omega
     have hvlt : ∀ u∈vals,∀ m∈ownsOf u,m < S4.next:=fun u hu m hm=>by
      obtain ⟨j,hj,rfl⟩:=List.mem_iff_getElem.1 hu
      have hj' : j < (ws.map (·.order)).length:=by have:=hLo.len; omega
      exact (hLo.pt j _ _ (List.getElem?_eq_getElem hj) (List.getElem?_eq_getElem hj')).owns_lt m hm
     obtain ⟨T2,v',q3,q4,q5,q6,q7⟩:=(hLo.stays s4X (by simp) (by simp)).app1 (u:=.slice ca ol.length cap') (l:=ol) (fr:=S7.next + 3) (y:=S7.next + 2) (wr:=true) (ex:=true) (f2.is.stays sTX (fun m hm hk=>by have:=hcn m hm; simp at hk; omega)) hwsl24 (AS.get_put_self _ _ _) (by simp; omega) (fun hm=>by have:=hovl _ hm; omega)
      (fun u' hu' m hm=>by
       rcases List.mem_cons.1 hu' with rfl | hu'
       ·have:=hcn m hm; exact ⟨by omega,fun hk=>by have:=hovl m hk; omega⟩
       ·have:=hvlt u' hu' m hm; exact ⟨by omega,(hvals u' hu' m hm).2⟩)
     simp at q6
     have gT : T'.get d2=_:=(sT.2 _ (by omega) (by simp)).trans g7
     have gT2 : T2.get d2=some (.row [.int .i64 r.1.n,.slice ra5 r.1.ar.length rc5,vo7,.int .i64 r.1.passed] 73 true true):=(q5.2 _ (by simp; omega) (fun hm=>by
      rcases List.mem_cons.1 hm with h' | h'
      ·omega
      ·have:=hovl _ h'; omega)).trans ((sX.2 _ (by omega) (by simp)).trans g7)
     have q7d : T2.get d=some (.row [.int .i64 w.n,va4,vo4,.int .i64 w.passed] 73 true true):=(q5.2 _ (by simp; omega) (fun hm=>by
      rcases List.mem_cons.1 hm with h' | h'
      ·omega
      ·have:=hov _ h'; omega)).trans ((s4X.2 _ (by omega) (by simp)).trans r1)
     obtain ⟨va',hv'⟩:=q4.shape
     obtain ⟨oa7,oc7,rfl⟩:=hov7.shape
     subst hv'
     have nd : d2≠S7.next:=by omega
     simp [fillF,pickL,placeIn,splice,g7,nd,f1,gT,q3,gT2,q7d,rowStore,okc,hwS]
     generalize hF : AS.put T2 _ _=F
     have sF : Same T2 F [d]:=by rw [← hF]; exact (Same.refl _ _).po (by simp)
     have gF : F.get d=some (.row [.int .i64 r.1.n,.slice ra5 r.1.ar.length rc5,.slice oa7 ol.length oc7,.int .i64 r.1.passed] 73 true true):=by rw [← hF]; exact AS.get_put_self _ _ _
     clear hF
     have s4T : Same S4 T2 (ownsOf ov):=⟨by have:=q5.1; have:=s4X.1; omega,fun m hm hk=>(q5.2 m (by have:=s4X.1; omega) (fun hc=>by
      rcases List.mem_cons.1 hc with h' | h'
      ·omega
      ·exact hk h')).trans (s4X.2 m hm (by simp))⟩
     have s4F : Same S4 F (d :: ownsOf ov):=(s4T.mono (gp:=d :: ownsOf ov) (fun m hm _=>List.mem_cons_of_mem _ hm)).trans sF (fun m hm hl=>by simp at hm; simp [hm])
     have sXT : Same S7 T2 (ownsOf ov):=⟨by have:=q5.1; have:=sX.1; omega,fun m hm hk=>(q5.2 m (by have:=sX.1; omega) (fun hc=>by
      rcases List.mem_cons.1 hc with h' | h'
      ·omega
      ·exact hk h')).trans (sX.2 m hm (by simp))⟩
     have s7F : Same S7 F (d :: ownsOf ov):=(sXT.mono (gp:=d :: ownsOf ov) (fun m hm _=>List.mem_cons_of_mem _ hm)).trans sF (fun m hm hl=>by simp at hm; simp [hm])
     have hva5' : ∀ m∈ownsOf (Value.slice ra5 r.1.ar.length rc5),m≠d∧m∉ownsOf ov:=fun m hm=>by
      rcases hva5 m hm with h' | h' | h'
      ·exact hvd m h'
      ·have:=hsvS m h'
       exact ⟨by omega,fun hk=>by have:=hov m hk; omega⟩
      ·simp at h'
       exact ⟨by omega,fun hk=>by have:=hovl m hk; omega⟩
     have hvo5' : ∀ m∈ownsOf (Value.slice oa7 ol.length oc7),m≠d∧m∉ownsOf ov:=fun m hm=>by
      rcases hvo7 m hm with h' | h'
      ·rcases hvo5 m h' with h'' | h''
       ·exact hod m h''
       ·simp at h''
        exact ⟨by omega,fun hk=>by have:=hovl m hk; omega⟩
      ·exact ⟨by omega,fun hk=>by have:=hovl m hk; omega⟩
     have hav7 : As S7 (Value.slice ra5 r.1.ar.length rc5) r.1.ar:=hav6.stays hs7 (fun m hm hk=>by simp at hk; exact hva5d m hm hk)
     have hva5l:=hav7.lt
     have hv'n : ∀ m∈ownsOf (Value.slice va' (ws.map (·.order) ++ [ol]).length (ws.map (·.order) ++ [ol]).length),m∈ownsOf ov∨m=S7.next + 3:=q7
     refine hR _ _ _ (by omega) ⟨i + 1,_,.slice ra5 r.1.ar.length rc5,.slice oa7 ol.length oc7,.slice va' (ws.map (·.order) ++ [ol]).length (ws.map (·.order) ++ [ol]).length,vals ++ [.slice ca ol.length cap'],ws ++ [⟨r.1.n,r.1.ar,ol,r.1.passed⟩],rfl,by omega,?_,hwg',gF,hav7.stays s7F ?_,hov7.stays s7F ?_,?_,?_,?_,?_,?_,by rw [hwl,hstep],by simp [hwsl],⟨rfl,rfl,by simp⟩⟩
     ·exact hs4.trans s4F (fun m hm hl=>by
       rcases List.mem_cons.1 hm with h' | h'
       ·simp [h']
       ·have:=hov m h'; omega)
     ·intro m hm hk
      rcases List.mem_cons.1 hk with h' | h'
      ·exact (hva5' m hm).1 h'
      ·exact (hva5' m hm).2 h'
     ·intro m hm hk
      rcases List.mem_cons.1 hk with h' | h'
      ·exact (hvo5' m hm).1 h'
      ·exact (hvo5' m hm).2 h'
     ·intro m hm
      refine ⟨(hva5' m hm).1,fun hk=>?_⟩
      rcases hv'n m hk with h' | h'
      ·exact (hva5' m hm).2 h'
      ·have:=hva5l m hm; omega
     ·intro m hm
      refine ⟨(hvo5' m hm).1,fun hk=>?_⟩
      rcases hv'n m hk with h' | h'
      ·exact (hvo5' m hm).2 h'
      ·have:=hvo7l m hm; omega
     ·rw [List.map_append]
      refine q4.stays sF (fun m hm hk=>?_) (fun u hu m hm hk=>?_)
      ·simp at hk
       rcases hv'n m hm with h' | h'
       ·have:=hov m h'; omega
       ·omega
      ·simp at hk
       rcases List.mem_append.1 hu with h' | h'
       ·have:=hvals u h' m hm; omega
       ·simp at h'
        subst h'
        have:=hcn m hm; omega
     ·intro m hm
      rcases hv'n m hm with h' | h'
      ·exact hov m h'
      ·omega
     ·intro u hu m hm
      rcases List.mem_append.1 hu with h' | h'
      ·have h2:=hvals u h' m hm
       refine ⟨h2.1,fun hk=>?_⟩
       rcases hv'n m hk with h3 | h3
       ·exact h2.2 h3
       ·have:=hvlt u h' m hm; omega
      ·simp at h'
       subst h'
       have h2:=hcn m hm
       refine ⟨by omega,fun hk=>?_⟩
       rcases hv'n m hk with h3 | h3
       ·have:=hovl m h3; omega
       ·omega
  ·obtain rfl : i=L.length:=by omega
   have hws : walkL ⟨n,ar,order,0⟩ sts=.ok ws:=by
    rw [hwl,List.drop_eq_nil_of_le (by omega)]
    simp [walkL,pre]
   rw [hws] at hq
   simp only at hq
   simp [fillF,pickL]
   exact hq _ _ vals (s3.trans hs4 (fun m hm hl=>by simp at hm; omega)) hLo
 ·rw [if_pos hb] at hq
  simp [hb]
  exact hq _ _ [] hs02 Lo.nil

theorem walkL_len : ∀ {l : List Stp} {w : Wk} {ws : List Wk},walkL w l=.ok ws→ws.length=l.length
 | [],w,ws,h=>by
  simp only [walkL,Except.ok.injEq] at h
  subst h; rfl
 | st :: l,w,ws,h=>by
  simp only [walkL] at h
  cases h1 : doW chA () w st with
  | error e=>rw [h1] at h; cases h
  | ok r=>
   rw [h1] at h
   simp only at h
   cases h2 : walkL r.1 l with
   | error e=>rw [h2] at h; cases h
   | ok ws'=>
    rw [h2] at h
    simp only [Except.ok.injEq] at h
    subst h
    simp [walkL_len h2]
theorem walkR_len (n : Int) (ar : List Arw) (order : List Int) (l : List Stp) : (walkR n ar order l).1.length≤200:=by
 unfold walkR
 split
 ·simp
 ·rename_i hb
  have hb : beginE n ar order l.length=0:=Decidable.of_not_not hb
  obtain ⟨_,_,h⟩:=begin_facts hb
  cases hw : walkL ⟨n,ar,order,0⟩ l with
  | error e=>simp
  | ok ws=>simp only [List.length_map,walkL_len hw]; exact h
theorem amendWalks {S : AS} {va vo vl : Value} {n : Int} {ar : List Arw} {order : List Int} {L : List (Stp × Value)} (h : As S va ar) (ho : Is S vo order) (hL : Sts S vl L) : Call G 3 [.agg #[.int .i64 n,va],vo,vl] S fun e _=>e=.ret (.bool true):=by
 refine call_run' (G:=G) rfl (ext_none (by decide)) ?_
 simp
 generalize hS1 : AS.put _ _ _=S1
 have s1 : Same S S1 []:=by rw [← hS1]; exact ((Same.refl _ _).bu).pn (by omega)
 have g0 : S1.get S.next=some (.row [.int .i64 n,va] 24 true true):=by rw [← hS1,AS.get_put_self]
 have hn1 : S1.next=S.next + 1:=by rw [← hS1]; rfl
 clear hS1
 obtain ⟨la,lcap,hls⟩:=hL.shape
 subst hls
 have hwl:=walkR_len n ar order (L.map (·.1))
 refine short_ok (ho.stay0 s1) (hL.stay0 s1) fun S2 b hs2 _=>?_
 have hs02:=s1.tr0 hs2
 have k0 : S2.get S.next=_:=(hs2.2 _ (by omega) (by simp)).trans g0
 cases b with
 | false=>
  simp
  refine alive_ok ?_
  simp
 | true=>
  simp [k0]
  refine Walk_ok (h.stay0 hs02) (ho.stay0 hs02) (hL.stay0 hs02) fun S3 v vals hs3 hlo hov hvs=>?_
  have hs03:=hs02.tr0 hs3
  have hn2:=hs2.1
  have k1 : S3.get S.next=_:=(hs3.2 _ (by omega) (by simp)).trans k0
  simp [k1]
  refine rWalk_ok (h.stay0 hs03) (ho.stay0 hs03) (hL.stay0 hs03) fun S4 v2 vals2 hs4 hlo2=>?_
  have hlo':=hlo.stays hs4 (by simp) (by simp)
  simp
  refine alive_ok ?_
  simp
  refine sameOrders_ok (hlo'.ls (by omega)) (hlo2.ls (by omega)) ?_
  simp
end Go.Gx.Z
