/-
  What CheckProof accepts is the least (no program in sight).
-/
import Derived.Test.YtamljcdnphjgaaaQb
import Derived.Test.YtamljcdnphjgaaaPv
import Derived.Test.YtamljcdnphjgaaaQe
import Derived.Test.YtamljcdnphjgaaaQa
set_option linter.all false
set_option linter.deprecated false
set_option linter.unusedSimpArgs false
set_option linter.unusedVariables false
namespace Go.Gx.A
open Go.Gx Go.Proofs
set_option linter.all false
theorem bget_mem {P : List Bnd} {s : Int × Int} {w : Cost} (h : bget P s=some w) : ∃ b ∈ P,b.1=s.1∧b.2.1=s.2∧b.2.2=w:=by
 induction P with
 | nil=>simp [bget] at h
 | cons b P ih=>
  simp only [bget] at h
  split at h
  ·rename_i e
   exact ⟨b,List.mem_cons_self ..,e.1,e.2,Option.some.inj h⟩
  ·obtain ⟨b',h1,h2⟩:=ih h
   exact ⟨b',List.mem_cons_of_mem _ h1,h2⟩
theorem folw_iff {P : List Bnd} {tot : Cost} {s : Int × Int} {v : Cost} : folw P tot s v=true ↔ cle tot v ∨ ∃ w,bget P s=some w∧cle w v:=by
 unfold folw
 rw [Bool.or_eq_true]
 refine or_congr ?_ ?_
 ·rw [Bool.not_eq_true',clt_not]
 ·cases bget P s with
  | none=>simp
  | some w=>
   simp only [Option.some.injEq,exists_eq_left']
   rw [Bool.not_eq_true',clt_not]
theorem folw_mono {P : List Bnd} {tot : Cost} {s : Int × Int} {v v' : Cost} (h : cle v v') (k : folw P tot s v=true) : folw P tot s v'=true:=by
 rw [folw_iff] at k ⊢
 rcases k with k | ⟨w,k1,k2⟩
 ·exact .inl (cle_trans k h)
 ·exact .inr ⟨w,k1,cle_trans k2 h⟩
theorem cle_add {a b : Cost} (h1 : 0 ≤ b.1) (h2 : 0 ≤ b.2) : cle a (cadd a b):=by unfold cle cadd; simp only; omega
theorem folw_path {c : Cg} (sm : CgSm c) {tot : Cost} {P : List Bnd} (hg : ∀ b ∈ P,0 ≤ b.1∧b.1 < ((2 ^ c.free.length : Nat) : Int) - 1) (hst : ∀ b ∈ P,stepsB c tot P b=true) : ∀ (q : List Nat) (s : St) (d e : Cost) (s' : St),Path c.tk s q e s'→cnt c.tk.f s'.1=0→s.1 < 2 ^ c.tk.f→folw P tot ((s.1 : Int),s.2) d=true→cle tot (cadd d e)
 | [],s,d,e,s',⟨h1,h2⟩,hc,hs,hf=>by
  subst h1
  subst h2
  rw [cadd_zero]
  rcases folw_iff.1 hf with h | ⟨w,h1,_⟩
  ·exact h
  ·exfalso
   obtain ⟨b,hb,h2,h3,h4⟩:=bget_mem h1
   have h5:=(hg b hb).2
   have h6:=(cnt_full hs).1 hc
   have e0 : c.tk.f=c.free.length:=rfl
   rw [e0] at h6
   have h7:=Nat.two_pow_pos c.free.length
   simp only at h2
   omega
 | i :: q,s,d,e,s',⟨to,x,y,h1,h2,h3⟩,hc,hs,hf=>by
  subst h3
  have hb1:=step_bd sm h1
  have hb2:=path_bd sm q to y s' h2
  rcases folw_iff.1 hf with h | ⟨w,k1,k2⟩
  ·refine cle_trans h (cle_add ?_ ?_) <;> (unfold cadd; simp only; omega)
  ·obtain ⟨b,hb,g2,g3,g4⟩:=bget_mem k1
   have hs':=hst b hb
   unfold stepsB at hs'
   simp only at g2 g3
   have e1 : b.1.toNat=s.1:=by omega
   rw [e1,g3] at hs'
   have:=List.all_eq_true.1 hs' (i,to,x) (mem_steps.2 h1)
   simp only at this
   rw [g4] at this
   have:=folw_path sm hg hst q to (cadd d x) y s' h2 hc (h1.set_lt hs) (folw_mono (cadd_mono_r x k2) this)
   rw [cadd_assoc] at this
   exact this
theorem cpR_least {c : Chg} {A : Amd} {P : List Bnd} (hc : c.check=0) (h : cpR c A P=true) : (A.off,A.mov)=c.cg.goal.total∧validR c A.order=true∧c.cg.rcost A.order=(A.off,A.mov):=by
 have ok:=check_ok hc
 have sm:=ok.cgSm
 unfold cpR at h
 simp only [Bool.and_eq_true,decide_eq_true_eq] at h
 obtain ⟨⟨⟨⟨⟨h1,h2⟩,h3⟩,h4⟩,h5⟩,h6⟩:=h
 refine ⟨?_,h1,h2⟩
 have hg : ∀ b ∈ P,0 ≤ b.1∧b.1 < ((2 ^ c.cg.free.length : Nat) : Int) - 1:=fun b hb=>by
  obtain ⟨j,hj,rfl⟩:=List.getElem_of_mem hb
  have:=List.all_eq_true.1 h4 j (by simpa using hj)
  unfold goodB at this
  simp only [Bool.and_eq_true,decide_eq_true_eq] at this
  rw [show P.getD j bZ=P[j] from by rw [List.getD_eq_getElem?_getD,List.getElem?_eq_getElem hj]; rfl] at this
  exact ⟨this.1.2.1,this.1.2.2.1⟩
 obtain ⟨q,s',hp,hc'⟩:=rest_ex (T:=c.cg.tk) _ (0,c.cg.goal.last0) rfl
 have hle : cle (A.off,A.mov) c.cg.goal.total:=folw_path sm hg (fun b hb=>List.all_eq_true.1 h6 b hb) q (0,c.cg.goal.last0) (c.cg.goal.base,0) _ s' hp hc' (Nat.two_pow_pos _) h5
 have hv:=h1
 unfold validR at hv
 rw [if_pos hc,Bool.and_eq_true,decide_eq_true_eq] at hv
 have:=valid_le ok.cgOk hv.1 hv.2
 rw [h2] at this
 exact cle_anti hle this
theorem cost_not_less {c : Chg} (hc : c.check=0) {o : List Int} (h : costE c o=0) : clt (costV c o) c.cg.goal.total=false:=by
 have ok:=check_ok hc
 unfold costV
 rw [if_pos h]
 have hv : validR c o=true:=by
  unfold costE at h
  rw [if_neg (by simpa using hc)] at h
  cases hvv : validR c o with
  | true=>rfl
  | false=>
   rw [hvv] at h
   split at h <;> simp at h
 unfold validR at hv
 rw [if_pos hc,Bool.and_eq_true,decide_eq_true_eq] at hv
 exact clt_not.2 (valid_le ok.cgOk hv.1 hv.2)
theorem cpR_check {c : Chg} {A : Amd} {P : List Bnd} (h : cpR c A P=true) : c.check=0:=by
 by_cases hc : c.check=0
 ·exact hc
 ·unfold cpR validR at h
  rw [if_neg hc] at h
  simp at h
end Go.Gx.A
namespace Go.Gx.A
open Go.Gx Go.Proofs
set_option maxRecDepth 100000
set_option linter.all false
set_option maxHeartbeats 4000000
theorem lless_ok {S : AS} {a b : Cost} {Q : En→AS→Prop} (hq : Q (.ret (.bool (clt a b))) S) : Call G 53 [.int .i64 a.1,.int .i64 a.2,.int .i64 b.1,.int .i64 b.2] S Q:=by
 refine call_run' (G:=G) rfl (ext_none (by decide)) ?_
 unfold clt at hq
 by_cases h1 : a.1 < b.1
 ·simp [h1,undef] at hq ⊢; exact hq
 ·by_cases h2 : a.1=b.1
  ·simp [h1,h2,undef] at hq ⊢; exact hq
  ·simp [h1,h2,undef] at hq ⊢; exact hq
theorem true_walk {S : AS} {va vo v k w u : Value} {c : Chg} {A : Amd} {P : List Bnd} {o : List Int} (h : ChgAt S va vo c) (hA : AmAt S v k A) (hP : Bs S w P) (hO : Is S u o) : Call G 15 [c.val va vo,A.val v k,.agg #[w],u] S fun e _=>e=.ret (.bool true):=by
 obtain ⟨va',vcap,hvs⟩:=hA.o.shape
 obtain ⟨ka',kcap,hks⟩:=hA.k.shape
 obtain ⟨pa,pcap,hps⟩:=hP.shape
 have hPl : ∀ S' : AS,lnE S' w=.ret (.int .i64 P.length,S'):=fun S'=>by rw [hps]; rfl
 have hvl : ∀ S' : AS,lnE S' v=.ret (.int .i64 A.order.length,S'):=fun S'=>by rw [hvs]; rfl
 have hkl : ∀ S' : AS,lnE S' k=.ret (.int .i64 A.kept.length,S'):=fun S'=>by rw [hks]; rfl
 refine call_run' (G:=G) rfl (ext_none (by decide)) ?_
 simp [Chg.val,Amd.val,Nat.add_assoc]
 generalize hS1 : AS.put (AS.put (AS.put (AS.bump S 3) _ _) _ _) _ _=S1
 have s1 : Same S S1 []:=by rw [← hS1]; exact ((((Same.refl _ _).bu.pn (by omega)).pn (by omega))).pn (by omega)
 have g1 : S1.get S.next=some (.row [.int .i64 c.n,va,vo,.int .i64 c.passed] 27 true true):=by rw [← hS1]; simp
 have a1 : S1.get (S.next + 1)=some (.row [v,.int .i64 A.off,.int .i64 A.mov,k] 44 true true):=by rw [← hS1]; simp
 have p1 : S1.get (S.next + 2)=some (.row [w] 50 true true):=by rw [← hS1]; simp
 have hn1 : S1.next=S.next + 3:=by rw [← hS1]; simp
 clear hS1
 have hval : Value.agg #[.int .i64 c.n,va,vo,.int .i64 c.passed]=c.val va vo:=rfl
 have hval2 : Value.agg #[v,.int .i64 A.off,.int .i64 A.mov,k]=A.val v k:=rfl
 by_cases c1 : (3000 : Int) < P.length
 ·simp [undef,p1,hPl,c1]
  refine alive_ok ?_
  simp
 by_cases c2 : (40 : Int) < A.order.length
 ·simp [undef,p1,hPl,c1,a1,hvl,c2]
  refine alive_ok ?_
  simp
 by_cases c3 : (40 : Int) < A.kept.length
 ·simp [undef,p1,hPl,c1,a1,hvl,hkl,c2,c3]
  refine alive_ok ?_
  simp
 simp [undef,p1,hPl,c1,a1,hvl,hkl,c2,c3,g1,hval,hval2]
 refine CheckProof_ok (h.stay0 s1) (hA.stay0 s1) (hP.stay0 s1) fun S3 hs3=>?_
 have s3:=s1.tr0 hs3
 have g3 : S3.get S.next=_:=(hs3.2 _ (by omega) (by simp)).trans g1
 have a3 : S3.get (S.next + 1)=_:=(hs3.2 _ (by omega) (by simp)).trans a1
 have hn3:=hs3.1
 cases hcp : cpR c A P with
 | false=>
  by_cases hc : c.check=0
  ·simp [undef,hc]
   refine alive_ok ?_
   simp
  ·simp [undef,hc]
   refine alive_ok ?_
   simp
 | true=>
  have hc:=cpR_check hcp
  obtain ⟨t1,t2,t3⟩:=cpR_least hc hcp
  have e : amdR c=c.cg.amd:=if_pos hc
  have eo : (amdR c).off=A.off:=by rw [e]; have:=congrArg Prod.fst t1; exact this.symm
  have em : (amdR c).mov=A.mov:=by rw [e]; have:=congrArg Prod.snd t1; exact this.symm
  simp [undef,hc,g3,hval]
  have s3b : Same S3 (S3.bump 1) []:=(Same.refl _ _).bu
  refine Amend_ok2 ((h.stay0 s3).stay0 s3b) fun S4 v4 k4 hs4 ho4 hk4 hov4 hok4 _=>?_
  have hn4:=hs4.1
  simp at hn4
  have s34:=s3b.tr0 hs4
  have s4:=s3.tr0 s34
  have g4 : S4.get S.next=_:=(s34.2 _ (by omega) (by simp)).trans g3
  have a4 : S4.get (S.next + 1)=_:=(s34.2 _ (by omega) (by simp)).trans a3
  obtain ⟨z1,z2,hz⟩:=ho4.shape
  obtain ⟨y1,y2,hy⟩:=hk4.shape
  rw [eo,em,hc,hz,hy]
  simp [okc,rowStore,splice,placeIn,undef]
  generalize hS5 : AS.put (AS.put S4 _ _) _ _=S5
  have hs5 : Same S4 S5 [S3.next]:=by rw [← hS5]; exact ((Same.refl _ _).po (by simp)).po (by simp)
  have b5 : ∃ x y,S5.get S3.next=some (.row [x,.int .i64 A.off,.int .i64 A.mov,y] 44 true true):=⟨_,_,by rw [← hS5,AS.get_put_self]⟩
  clear hS5
  obtain ⟨x5,y5,b5⟩:=b5
  have s5 : Same S S5 []:=s4.trans hs5 (fun m hm hl=>by simp at hm; omega)
  have g5 : S5.get S.next=_:=(hs5.2 _ (by omega) (by simp; omega)).trans g4
  have a5 : S5.get (S.next + 1)=_:=(hs5.2 _ (by omega) (by simp; omega)).trans a4
  have hn5:=hs5.1
  simp [g5,hval]
  refine Cost_ok (h.stay0 s5) (hO.stay0 s5) fun S6 hs6=>?_
  have hn6:=hs6.1
  have a6 : S6.get (S.next + 1)=_:=(hs6.2 _ (by omega) (by simp)).trans a5
  have b6 : S6.get S3.next=_:=(hs6.2 _ (by omega) (by simp)).trans b5
  simp [undef]
  refine alive_ok ?_
  by_cases he : costE c o=0
  ·simp [undef,a6,b6,he]
   refine lless_ok (a:=costV c o) (b:=(A.off,A.mov)) ?_
   have:=cost_not_less hc he
   rw [← t1] at this
   rw [this]
   simp [undef,a6,b6,he]
  ·simp [undef,a6,b6,he]
end Go.Gx.A
