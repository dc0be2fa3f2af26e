/-
  Bounds: compared, looked up; whether a step is answered.
-/
import Derived.Test.YtamljcdnphjgaaaQa
set_option linter.all false
set_option linter.deprecated false
set_option linter.unusedSimpArgs false
set_option linter.unusedVariables false
namespace Go.Gx.A
open Go.Gx Go.Proofs
set_option maxRecDepth 100000
set_option linter.all false
set_option maxHeartbeats 2000000
def bget : List Bnd→Int × Int→Option Cost
 | [],_=>none
 | b :: P,s=>if b.1=s.1∧b.2.1=s.2 then some (b.2.2.1,b.2.2.2) else bget P s
def folw (P : List Bnd) (tot : Cost) (s : Int × Int) (v : Cost) : Bool:=!clt v tot || match bget P s with
 | none=>false
 | some b=>!clt v b
def bLt (a b : Bnd) : Prop:=a.1 < b.1 ∨ a.1=b.1∧a.2.1 < b.2.1
instance (a b : Bnd) : Decidable (bLt a b):=by unfold bLt; infer_instance
def cB (a b : Bnd) : Int:=(([cmpI a.1 b.1,cmpI a.2.1 b.2.1]).find? fun x=>decide (x ≠ 0)).getD 0
theorem cB_neg {a b : Bnd} : cB a b < 0 ↔ bLt a b:=by
 unfold cB bLt cmpI
 by_cases h1 : a.1 < b.1
 ·simp [h1]
 ·by_cases h2 : b.1 < a.1
  ·have h3 : ¬ a.1=b.1:=by omega
   simp [h1,h2,h3]
  ·have h3 : a.1=b.1:=by omega
   by_cases h4 : a.2.1 < b.2.1
   ·simp [h3,h4]
   ·by_cases h5 : b.2.1 < a.2.1
    ·simp [h3,h4,h5]
    ·simp [h3,h4,h5]
theorem compareBounds_ok {S : AS} {a b : Bnd} {Q : En→AS→Prop} (hq : ∀ S',Same S S' []→Q (.ret (.int .i64 (cB a b))) S') : Call G 111 [.agg (q4C a).toArray,.agg (q4C b).toArray] S Q:=by
 refine call_run' (G:=G) rfl (ext_none (by decide)) ?_
 simp [q4C]
 refine compare_ok ?_
 simp
 refine compare_ok ?_
 simp [placeIn,splice]
 generalize hS1 : AS.put (AS.bump (AS.put (AS.put (AS.bump S 2) _ _) _ _) 1) _ _=S1
 have s1 : Same S S1 []:=by rw [← hS1]; exact ((((Same.refl _ _).bu.pn (by omega)).pn (by omega)).bu).pn (by omega)
 have g1 : S1.get (S.next + 2)=some (.row (ints [cmpI a.1 b.1,cmpI a.2.1 b.2.1]) 3 true true):=by rw [← hS1]; simp [ints]
 have hn1 : S1.next=S.next + 3:=by rw [← hS1]; simp
 clear hS1
 refine or_ok (Is.row g1 (by omega) (by simp)) ?_
 have e : (([cmpI a.1 b.1,cmpI a.2.1 b.2.1]).find? fun x=>decide (x ≠ 0)).getD 0=cB a b:=rfl
 rw [e]
 simp
 exact hq _ s1
def fB (P : List Bnd) : Int × Int→Option Value:=fun s=>(bget P s).map cV
theorem follows_ok {S : AS} {m : Nat} {P : List Bnd} {s : St} {v tot : Cost} (h : MapAt S m [.int .i64,.int .i64] true (fun x : Int × Int=>Value.agg #[.int .i64 x.1,.int .i64 x.2]) (fB P)) (hm : m < S.next) {Q : En→AS→Prop}
  (hq : ∀ S',Same S S' []→Q (.ret (.bool (folw P tot ((s.1 : Int),s.2) v))) S') : Call G 112 [.map (some m),sV s,cV v,cV tot] S Q:=by
 refine call_run' (G:=G) rfl (ext_none (by decide)) ?_
 simp [Nat.add_assoc]
 generalize hS1 : AS.put (AS.put (AS.put (AS.bump S 3) _ _) _ _) _ _=S1
 have s1 : Same S S1 []:=by rw [← hS1]; exact ((((Same.refl _ _).bu.pn (by omega)).pn (by omega))).pn (by omega)
 have g0 : S1.get S.next=some (.row [.int .i64 s.1,.int .i64 s.2] 123 true true):=by rw [← hS1]; simp
 have g1 : S1.get (S.next + 1)=some (.row [.int .i64 v.1,.int .i64 v.2] 110 true true):=by rw [← hS1]; simp
 have g2 : S1.get (S.next + 2)=some (.row [.int .i64 tot.1,.int .i64 tot.2] 110 true true):=by rw [← hS1]; simp
 have hn1 : S1.next=S.next + 3:=by rw [← hS1]; simp
 clear hS1
 refine less_ok (c:=v) (d:=tot) fun S2 hs2=>?_
 have s2:=s1.tr0 hs2
 have hn2:=hs2.1
 have k0 : S2.get S.next=_:=(hs2.2 _ (by omega) (by simp)).trans g0
 have k1 : S2.get (S.next + 1)=_:=(hs2.2 _ (by omega) (by simp)).trans g1
 cases hlt : clt v tot with
 | false=>
  simp
  have:=hq S2 s2
  simp [folw,hlt] at this
  exact this
 | true=>
  simp [-lookE_map,k0]
  generalize hS3 : AS.bump S2 1=S3
  have h23 : Same S2 S3 []:=by rw [← hS3]; exact (Same.refl _ _).bu
  have hn3 : S3.next=S2.next + 1:=by rw [← hS3]; simp
  have s3:=s2.tr0 h23
  have j1 : S3.get (S.next + 1)=_:=(h23.2 _ (by omega) (by simp)).trans k1
  clear hS3
  have mA : MapAt S3 m [.int .i64,.int .i64] true (fun x : Int × Int=>Value.agg #[.int .i64 x.1,.int .i64 x.2]) (fB P):=by
   obtain ⟨es,k,e1,e2⟩:=h
   exact ⟨es,k,by rw [s3.2 _ hm (by simp)]; exact e1,e2⟩
  have lk:=mA.look keyInt2 ((s.1 : Int),s.2) (.agg #[.int .i64 0,.int .i64 0]) true
  simp only [fB] at lk
  have hfin:=hq
  cases hg : bget P ((s.1 : Int),s.2) with
  | none=>
   rw [hg] at lk
   simp only [Option.map_none,Option.map_some,Option.getD_none,Option.getD_some,Option.isSome_none,Option.isSome_some,if_true] at lk
   simp [-lookE_map,lk,rowStore,splice,okc,undef]
   have:=hq ((S3.put S2.next (.row [.int .i64 0,.int .i64 0] 110 true true)).put S2.next (.row [.int .i64 0,.int .i64 0] 110 true true)) ((s3.pn (by omega)).pn (by omega))
   simp [folw,hlt,hg] at this
   exact this
  | some b=>
   rw [hg] at lk
   simp only [Option.map_none,Option.map_some,Option.getD_none,Option.getD_some,Option.isSome_none,Option.isSome_some,if_true] at lk
   have u1 : (S.next + 1=S2.next)=False:=eq_false (by omega)
   simp [-lookE_map,lk,rowStore,splice,okc,undef,j1,u1]
   refine less_ok (c:=v) (d:=b) fun S4 hs4=>?_
   have s4:=((s3.pn (d:=S2.next) (o:=.row [.int .i64 0,.int .i64 0] 110 true true) (by omega)).pn (d:=S2.next) (o:=.row [.int .i64 b.1,.int .i64 b.2] 110 true true) (by omega)).tr0 hs4
   simp
   have:=hq S4 s4
   simp [folw,hlt,hg] at this
   exact this
structure Bs (S : AS) (v : Value) (P : List Bnd) : Prop where
 ps : Ps S 4 v (P.map q4C)
 small : P.length ≤ 9223372036854775807
theorem Bs.stay0 {S S' : AS} {v : Value} {P : List Bnd} (h : Bs S v P) (hs : Same S S' []) : Bs S' v P:=⟨h.ps.stays hs (by simp),h.small⟩
theorem Bs.shape {S : AS} {v : Value} {P : List Bnd} (h : Bs S v P) : ∃ a cap,v=.slice a P.length cap:=by
 obtain ⟨a,cap,e⟩:=h.ps.shape
 exact ⟨a,cap,by rw [e,List.length_map]⟩
theorem bget_drop {P : List Bnd} {s : Int × Int} {i : Nat} (h : i < P.length) : bget (P.drop i) s=if P[i].1=s.1∧P[i].2.1=s.2 then some (P[i].2.2.1,P[i].2.2.2) else bget (P.drop (i + 1)) s:=by
 rw [List.drop_eq_getElem_cons h]; rfl
theorem bound_ok {S : AS} {w : Value} {P : List Bnd} {s : Int × Int} (h : Bs S w P) {Q : En→AS→Prop}
  (hq : ∀ S' a b,Same S S' []→Q (.ret (.tuple #[.agg #[.int .i64 a,.int .i64 b,.int .i64 ((bget P s).getD (0,0)).1,.int .i64 ((bget P s).getD (0,0)).2],.bool (bget P s).isSome])) S') : Call G 145 [.agg #[w],.int .i64 s.1,.int .i64 s.2] S Q:=by
 obtain ⟨a,cap,hws⟩:=h.shape
 have hsm:=h.small
 refine call_run' (G:=G) rfl (ext_none (by decide)) ?_
 have hln : ∀ S' : AS,lnE S' w=.ret (.int .i64 P.length,S'):=fun S'=>by rw [hws]; rfl
 simp
 generalize hS1 : AS.put (AS.put (AS.bump S 2) _ _) _ _=S1
 have s1 : Same S S1 []:=by rw [← hS1]; exact (((Same.refl _ _).bu.pn (by omega))).pn (by omega)
 have g0 : S1.get S.next=some (.row [w] 50 true true):=by rw [← hS1]; simp
 have g1 : S1.get (S.next + 1)=some (.row [.int .i64 0,.int .i64 0,.int .i64 0,.int .i64 0] 131 true true):=by rw [← hS1]; simp
 have hn1 : S1.next=S.next + 2:=by rw [← hS1]; simp
 clear hS1
 refine run_loop (fun m a' S'=>∃ i,m=P.length - i∧i ≤ P.length∧S'=S1∧bget P s=bget (P.drop i) s∧Has a' 40 [(1,.int .i64 s.1),(2,.int .i64 s.2),(3,ptr S.next),(6,ptr (S.next + 1)),(8,.int .i64 i)]) _ ⟨0,rfl,by omega,rfl,rfl,⟨rfl,rfl,by simp⟩⟩ ?_
 rintro _ R hR _ S1 ⟨i,rfl,hi,rfl,hbg,hA⟩
 obtain ⟨x,rfl⟩:=hA.lit
 by_cases hlt : i < P.length
 ·have hlt' : (i : Int) < P.length:=by omega
  have hwS:=wrapS (show i < 9223372036854775807 by omega)
  obtain ⟨p,o,cells,e,wr,ex,h1,h2,h3,h4,h5,h6,h7,h8,h9⟩:=q4_at ((h.stay0 s1).ps) hlt
  rw [bget_drop hlt] at hbg
  simp only [q4C] at h5
  by_cases c1 : P[i].1=s.1
  ·by_cases c2 : P[i].2.1=s.2
   ·rw [if_pos ⟨c1,c2⟩] at hbg
    simp [fillF,pickL,hlt,hlt',g0,g1,hln,h1,h2,h5,h6,h7,c1,c2,undef,rowStore,splice,okc]
    rw [hbg] at hq
    exact hq _ _ _ (s1.pn (by omega))
   ·rw [if_neg (fun h=>c2 h.2)] at hbg
    simp [fillF,pickL,hlt,hlt',g0,hln,h1,h2,h6,h7,c1,c2,undef,hwS]
    exact hR _ _ _ (by omega) ⟨i + 1,rfl,by omega,rfl,hbg,⟨rfl,rfl,by simp⟩⟩
  ·rw [if_neg (fun h=>c1 h.1)] at hbg
   simp [fillF,pickL,hlt,hlt',g0,hln,h1,h2,h6,h7,c1,undef,hwS]
   exact hR _ _ _ (by omega) ⟨i + 1,rfl,by omega,rfl,hbg,⟨rfl,rfl,by simp⟩⟩
 ·have hlt' : ¬ (i : Int) < P.length:=by omega
  obtain rfl : i=P.length:=by omega
  rw [List.drop_length] at hbg
  simp only [bget] at hbg
  simp [fillF,pickL,g0,g1,hln,placeIn,splice,rowStore,okc]
  rw [hbg] at hq
  exact hq _ _ _ (s1.pn (by omega))
theorem held_ok {S : AS} {w v k : Value} {P : List Bnd} {tot d : Cost} {s : Int × Int} {la lk : List Int} (h : Bs S w P) (hv : Is S v la) (hk : Is S k lk) {Q : En→AS→Prop}
  (hq : ∀ S',Same S S' []→Q (.ret (.bool (folw P tot s d))) S') : Call G 113 [.agg #[w],.agg #[v,.int .i64 tot.1,.int .i64 tot.2,k],.int .i64 s.1,.int .i64 s.2,.int .i64 d.1,.int .i64 d.2] S Q:=by
 obtain ⟨a,cap,hws⟩:=h.shape
 obtain ⟨va,vcap,hvs⟩:=hv.shape
 obtain ⟨ka,kcap,hks⟩:=hk.shape
 refine call_run' (G:=G) rfl (ext_none (by decide)) ?_
 simp
 generalize hS1 : AS.put (AS.put (AS.bump S 2) _ _) _ _=S1
 have s1 : Same S S1 []:=by rw [← hS1]; exact (((Same.refl _ _).bu.pn (by omega))).pn (by omega)
 have g0 : S1.get S.next=some (.row [w] 50 true true):=by rw [← hS1]; simp
 have g1 : S1.get (S.next + 1)=some (.row [v,.int .i64 tot.1,.int .i64 tot.2,k] 44 true true):=by rw [← hS1]; simp
 have hn1 : S1.next=S.next + 2:=by rw [← hS1]; simp
 clear hS1
 refine rless_ok (a:=d) (b:=tot) ?_
 cases hlt : clt d tot with
 | false=>
  simp
  have:=hq S1 s1
  simp [folw,hlt] at this
  exact this
 | true=>
  simp [g0]
  have s1b : Same S1 (S1.bump 1) []:=(Same.refl _ _).bu
  refine bound_ok (s:=s) ((h.stay0 s1).stay0 s1b) fun S2 x y hs2=>?_
  have hn2:=hs2.1
  simp at hn2
  have s2:=(s1.tr0 s1b).tr0 hs2
  cases hg : bget P s with
  | none=>
   simp [rowStore,splice,okc,undef]
   have:=hq ((S2.put S1.next (.row [.int .i64 0,.int .i64 0,.int .i64 0,.int .i64 0] 131 true true)).put S1.next (.row [.int .i64 x,.int .i64 y,.int .i64 0,.int .i64 0] 131 true true)) ((s2.pn (by omega)).pn (by omega))
   simp [folw,hlt,hg] at this
   exact this
  | some b=>
   simp [rowStore,splice,okc,undef]
   refine rless_ok (a:=d) (b:=b) ?_
   simp
   have:=hq ((S2.put S1.next (.row [.int .i64 0,.int .i64 0,.int .i64 0,.int .i64 0] 131 true true)).put S1.next (.row [.int .i64 x,.int .i64 y,.int .i64 b.1,.int .i64 b.2] 131 true true)) ((s2.pn (by omega)).pn (by omega))
   simp [folw,hlt,hg] at this
   exact this
end Go.Gx.A
namespace Go.Gx.A
open Go.Gx Go.Proofs
set_option maxRecDepth 100000
set_option linter.all false
set_option maxHeartbeats 4000000
def bZ : Bnd:=(0,0,0,0)
def goodB (c : Cg) (tot : Cost) (P : List Bnd) (i : Nat) : Bool:=
 decide (0 < i→bLt (P.getD (i - 1) bZ) (P.getD i bZ)) && decide (0 ≤ (P.getD i bZ).1∧(P.getD i bZ).1 < ((2 ^ c.free.length : Nat) : Int) - 1∧-1 ≤ (P.getD i bZ).2.1∧(P.getD i bZ).2.1 < c.old.length∧0 ≤ (P.getD i bZ).2.2.1∧0 ≤ (P.getD i bZ).2.2.2∧(P.getD i bZ).2.2.2 ≤ c.old.length) && clt (P.getD i bZ).2.2 tot
def stepsB (c : Cg) (tot : Cost) (P : List Bnd) (b : Bnd) : Bool:=(c.tk.steps (b.1.toNat,b.2.1)).all fun x=>folw P tot ((x.2.1.1 : Int),x.2.1.2) (cadd b.2.2 x.2.2)
def cpR (c : Chg) (A : Amd) (P : List Bnd) : Bool:=
 validR c A.order && decide (c.cg.rcost A.order=(A.off,A.mov)) && decide (A.kept=kept c.old A.order) && (List.range P.length).all (goodB c.cg (A.off,A.mov) P) && folw P (A.off,A.mov) (0,c.cg.goal.last0) (c.cg.goal.base,0) && P.all (stepsB c.cg (A.off,A.mov) P)
theorem bad_one {c : Chg} {A : Amd} {P : List Bnd} {i : Nat} (h : i < P.length) (hb : ¬ goodB c.cg (A.off,A.mov) P i=true) : cpR c A P=false:=by
 have : (List.range P.length).all (goodB c.cg (A.off,A.mov) P)=false:=by
  rw [List.all_eq_false]
  exact ⟨i,by simpa using h,hb⟩
 unfold cpR
 rw [this]
 simp
theorem bad_step {c : Chg} {A : Amd} {P : List Bnd} {b : Bnd} {x : Sp} (h : b ∈ P) (hx : x ∈ c.cg.tk.steps (b.1.toNat,b.2.1)) (hb : folw P (A.off,A.mov) ((x.2.1.1 : Int),x.2.1.2) (cadd b.2.2 x.2.2)=false) : cpR c A P=false:=by
 have h1 : stepsB c.cg (A.off,A.mov) P b=false:=by
  unfold stepsB
  rw [List.all_eq_false]
  exact ⟨x,hx,by rw [hb]; exact Bool.false_ne_true⟩
 have : P.all (stepsB c.cg (A.off,A.mov) P)=false:=by
  rw [List.all_eq_false]
  exact ⟨b,h,by rw [h1]; exact Bool.false_ne_true⟩
 unfold cpR
 rw [this]
 simp
structure AmAt (S : AS) (v k : Value) (A : Amd) : Prop where
 o : Is S v A.order
 k : Is S k A.kept
theorem AmAt.stay0 {S S' : AS} {v k : Value} {A : Amd} (h : AmAt S v k A) (hs : Same S S' []) : AmAt S' v k A:=⟨h.o.stay0 hs,h.k.stay0 hs⟩
def Amd.val (A : Amd) (v k : Value) : Value:=.agg #[v,.int .i64 A.off,.int .i64 A.mov,k]
theorem free8 {c : Chg} (ok : ChgOk c) : c.cg.free.length ≤ 8:=by
 have h1:=len_free ok.cgOk
 have h2 : c.cg.n=c.n.toNat:=rfl
 have h3:=ok.am
 have h4 : c.cg.front.length=c.passed.toNat:=by show (c.old.take c.passed.toNat).length=_; rw [List.length_take]; have:=ok.p1; omega
 have:=ok.n0
 have:=ok.p0
 omega
theorem rcost_bd {c : Chg} (ok : ChgOk c) {o : List Int} (ho : ordOk c.cg.n o=true) : 0 ≤ (c.cg.rcost o).1∧(c.cg.rcost o).1 ≤ 576000:=by
 obtain ⟨h1,_,_⟩:=ordOk_iff.1 ho
 have h2 : c.cg.n ≤ 24:=ok.cgSm.n
 have:=offR_bd ok.cgSm.w o [] (by simp; omega)
 show 0 ≤ offR c.cg.w [] o∧offR c.cg.w [] o ≤ 576000
 omega
theorem rCheckProof_ok {S : AS} {va vo v k w : Value} {c : Chg} {A : Amd} {P : List Bnd} (h : ChgAt S va vo c) (hA : AmAt S v k A) (hP : Bs S w P) {Q : En→AS→Prop}
  (hq : ∀ S',Same S S' []→Q (.ret (.tuple #[.bool (cpR c A P),.int .i64 c.check])) S') : Call G 52 [c.val va vo,A.val v k,.agg #[w]] S Q:=by
 obtain ⟨oa,ocap,hov⟩:=h.old.shape
 obtain ⟨va',vcap,hvs⟩:=hA.o.shape
 obtain ⟨ka',kcap,hks⟩:=hA.k.shape
 obtain ⟨pa,pcap,hps⟩:=hP.shape
 have hsm:=hP.small
 have hPl : ∀ S' : AS,lnE S' w=.ret (.int .i64 P.length,S'):=fun S'=>by rw [hps]; rfl
 have hlo : ∀ S' : AS,lnE S' vo=.ret (.int .i64 c.old.length,S'):=fun S'=>by rw [hov]; rfl
 have hval : Value.agg #[.int .i64 c.n,va,vo,.int .i64 c.passed]=c.val va vo:=rfl
 refine call_run' (G:=G) rfl (ext_none (by decide)) ?_
 simp [Chg.val,Amd.val,Nat.add_assoc]
 generalize hS1 : AS.put (AS.put (AS.put (AS.bump S 3) _ _) _ _) _ _=S1
 have s1 : Same S S1 []:=by rw [← hS1]; exact ((((Same.refl _ _).bu.pn (by omega)).pn (by omega))).pn (by omega)
 have g1 : S1.get S.next=some (.row [.int .i64 c.n,va,vo,.int .i64 c.passed] 27 true true):=by rw [← hS1]; simp
 have a1 : S1.get (S.next + 1)=some (.row [v,.int .i64 A.off,.int .i64 A.mov,k] 44 true true):=by rw [← hS1]; simp
 have p1 : S1.get (S.next + 2)=some (.row [w] 50 true true):=by rw [← hS1]; simp
 have hn1 : S1.next=S.next + 3:=by rw [← hS1]; simp
 clear hS1
 simp [g1,hval]
 refine refCheckC_ok (h.stay0 s1) fun S2 hs2=>?_
 have hn2:=hs2.1
 have s2:=s1.tr0 hs2
 have g2 : S2.get S.next=_:=(hs2.2 _ (by omega) (by simp)).trans g1
 have a2 : S2.get (S.next + 1)=_:=(hs2.2 _ (by omega) (by simp)).trans a1
 have p2 : S2.get (S.next + 2)=_:=(hs2.2 _ (by omega) (by simp)).trans p1
 by_cases hc : c.check=0
 rotate_left
 ·simp [hc]
  have : cpR c A P=false:=by unfold cpR validR; rw [if_neg hc]; simp
  rw [this] at hq
  exact hq _ s2
 have ok:=check_ok hc
 have sm:=ok.cgSm
 rw [hc] at hq
 have hF : ∀ S',Same S S' []→cpR c A P=false→Q (.ret (.tuple #[.bool false,.int .i64 0])) S':=fun S' hs e=>by
  have:=hq S' hs
  rw [e] at this
  exact this
 have hf8:=free8 ok
 have hol : c.old.length ≤ 24:=sm.ol
 have hp8 : 2 ^ c.cg.free.length ≤ 2 ^ 8:=Nat.pow_le_pow_right (by omega) hf8
 have hpp : 0 < 2 ^ c.cg.free.length:=Nat.two_pow_pos _
 have e0 : c.cg.old.length=c.old.length:=rfl
 simp [hc,g2,a2,hval]
 refine rCost_ok (h.stay0 s2) (hA.o.stay0 s2) fun S3 hs3=>?_
 have hn3:=hs3.1
 have s3:=s2.tr0 hs3
 have g3 : S3.get S.next=_:=(hs3.2 _ (by omega) (by simp)).trans g2
 have a3 : S3.get (S.next + 1)=_:=(hs3.2 _ (by omega) (by simp)).trans a2
 have p3 : S3.get (S.next + 2)=_:=(hs3.2 _ (by omega) (by simp)).trans p2
 by_cases hce : costE c A.order=0
 rotate_left
 ·simp [hce,undef]
  refine hF _ s3 ?_
  have : validR c A.order=false:=by
   unfold costE at hce
   rw [if_neg (by simp [hc])] at hce
   by_cases h1 : ordOk c.cg.n A.order=false
   ·unfold validR; rw [if_pos hc,h1]; rfl
   ·rw [if_neg h1] at hce
    by_cases h2 : validR c A.order=false
    ·exact h2
    ·rw [if_neg h2] at hce; exact absurd rfl hce
  unfold cpR; rw [this]; simp
 have hcv : costV c A.order=c.cg.rcost A.order:=if_pos hce
 have hvd : validR c A.order=true:=by
  unfold costE at hce
  rw [if_neg (by simp [hc])] at hce
  by_cases h1 : ordOk c.cg.n A.order=false
  ·rw [if_pos h1] at hce; cases hce
  ·rw [if_neg h1] at hce
   by_cases h2 : validR c A.order=false
   ·rw [if_pos h2] at hce; cases hce
   ·simpa using h2
 have hord : ordOk c.cg.n A.order=true:=by
  unfold validR at hvd
  rw [if_pos hc,Bool.and_eq_true] at hvd
  exact hvd.1
 obtain ⟨o1,o2,o3⟩:=ordOk_iff.1 hord
 have hn24 : c.cg.n ≤ 24:=sm.n
 have hrb:=rcost_bd ok hord
 rw [hcv,hce]
 generalize hrc : c.cg.rcost A.order=rc at *
 by_cases d1 : rc.1=A.off
 rotate_left
 ·simp [d1,a3,undef]
  refine hF _ s3 ?_
  have : ¬ rc=(A.off,A.mov):=fun e=>d1 (by rw [e])
  unfold cpR; rw [hrc,decide_eq_false this]; simp
 by_cases d2 : rc.2=A.mov
 rotate_left
 ·simp [d1,d2,a3,undef]
  refine hF _ s3 ?_
  have : ¬ rc=(A.off,A.mov):=fun e=>d2 (by rw [e])
  unfold cpR; rw [hrc,decide_eq_false this]; simp
 have hrce : rc=(A.off,A.mov):=by rw [← d1,← d2]
 simp [d1,d2,a3,g3,undef]
 refine rkept_ok (h.old.stay0 s3) (hA.o.stay0 s3) o2 (by omega) (by omega) fun S4 ka4 kn4 hs4 hkn4 hk4 _=>?_
 have hn4:=hs4.1
 have s4:=s3.tr0 hs4
 have g4 : S4.get S.next=_:=(hs4.2 _ (by omega) (by simp)).trans g3
 have a4 : S4.get (S.next + 1)=_:=(hs4.2 _ (by omega) (by simp)).trans a3
 have p4 : S4.get (S.next + 2)=_:=(hs4.2 _ (by omega) (by simp)).trans p3
 simp [g4,a4,undef]
 refine sameInts_ok (hA.k.stay0 s4) hk4.is ?_
 by_cases d3 : A.kept=kept c.old A.order
 rotate_left
 ·simp [d3,g4,a4,undef]
  refine hF _ s4 ?_
  unfold cpR; rw [decide_eq_false d3]; simp
 simp [d3,g4,a4,undef,hval]
 refine rfree_ok (h.stay0 s4) ok fun S5 fa fn hs5 hfn hfo _=>?_
 have hn5:=hs5.1
 have s5:=s4.tr0 hs5
 have g5 : S5.get S.next=_:=(hs5.2 _ (by omega) (by simp)).trans g4
 have a5 : S5.get (S.next + 1)=_:=(hs5.2 _ (by omega) (by simp)).trans a4
 have p5 : S5.get (S.next + 2)=_:=(hs5.2 _ (by omega) (by simp)).trans p4
 have hshl:=shl_ok (k:=c.cg.free.length) (by omega)
 have hw1 : IntKind.i64.wrap (((2 ^ c.cg.free.length : Nat) : Int) - 1)=((2 ^ c.cg.free.length : Nat) : Int) - 1:=wrap64 (by omega) (by omega)
 subst hfn
 generalize hN : 2 ^ c.cg.free.length=N at *
 simp
 refine run_loop (fun m a' S'=>∃ i,m=P.length - i∧i ≤ P.length∧Same S5 S' []∧(∀ j,j < i→goodB c.cg (A.off,A.mov) P j=true) ∧
  Has a' 233 [(3,ptr S.next),(4,ptr (S.next + 1)),(5,ptr (S.next + 2)),(11,.slice fa c.cg.free.length c.cg.free.length),(12,.int .i64 i)]) _ ⟨0,rfl,by omega,.refl _ _,fun j hj=>by omega,⟨rfl,rfl,by simp⟩⟩ ?_
 rintro _ R hR _ S6 ⟨i,rfl,hi,hs6,hgood,hA'⟩
 obtain ⟨x,rfl⟩:=hA'.lit
 have hn6:=hs6.1
 have s6:=s5.tr0 hs6
 have g6' : S6.get S.next=_:=(hs6.2 _ (by omega) (by simp)).trans g5
 have a6' : S6.get (S.next + 1)=_:=(hs6.2 _ (by omega) (by simp)).trans a5
 have p6 : S6.get (S.next + 2)=_:=(hs6.2 _ (by omega) (by simp)).trans p5
 by_cases hlt : i < P.length
 ·have hlt' : (i : Int) < P.length:=by omega
  have hwS:=wrapS (show i < 9223372036854775807 by omega)
  obtain ⟨p,o,cells,e,wr,ex,h1,h2,h3,h4,h5,h6,h7,h8,h9⟩:=q4_at (hP.stay0 s6).ps hlt
  obtain ⟨b,hb⟩ : ∃ b,b=P[i]:=⟨_,rfl⟩
  have hgd : P.getD i bZ=b:=by rw [hb,List.getD_eq_getElem?_getD,List.getElem?_eq_getElem hlt]; rfl
  rw [← hb] at h5 h6 h7 h8 h9
  simp only [q4C] at h5
  simp [fillF,pickL,hlt,hlt',p6,hPl,h1,h2,h5,rowStore,splice,okc,-run_draw]
  generalize hT : AS.put (AS.put (AS.bump S6 1) _ _) _ _=T
  have h6T : Same S6 T []:=by rw [← hT]; exact (((Same.refl _ _).bu).pn (by omega)).pn (by omega)
  have cT : T.get S6.next=some (.row [.int .i64 b.1,.int .i64 b.2.1,.int .i64 b.2.2.1,.int .i64 b.2.2.2] 131 true true):=by rw [← hT,AS.get_put_self]
  have hnT : T.next=S6.next + 1:=by rw [← hT]; simp
  clear hT
  have sT:=s6.tr0 h6T
  have g6 : T.get S.next=_:=(h6T.2 _ (by omega) (by simp)).trans g6'
  have a6 : T.get (S.next + 1)=_:=(h6T.2 _ (by omega) (by simp)).trans a6'
  have p6T : T.get (S.next + 2)=_:=(h6T.2 _ (by omega) (by simp)).trans p6
  have fnl : True:=trivial
  by_cases c1 : b.1 < 0
  ·refine run_calm rfl ?_
   simp [cT,g6,hshl,hlo,fnl,c1,undef,hw1]
   exact hF _ sT (bad_one hlt (fun hg=>by unfold goodB at hg; simp only [Bool.and_eq_true,decide_eq_true_eq] at hg; rw [hgd] at hg; omega))
  by_cases c2 : (N : Int) ≤ b.1
  ·refine run_calm rfl ?_
   simp [cT,g6,hshl,hlo,fnl,c1,c2,undef,hw1]
   exact hF _ sT (bad_one hlt (fun hg=>by unfold goodB at hg; simp only [Bool.and_eq_true,decide_eq_true_eq] at hg; rw [hgd] at hg; omega))
  by_cases c3 : b.2.1 < -1
  ·refine run_calm rfl ?_
   simp [cT,g6,hshl,hlo,fnl,c1,c2,c3,undef,hw1]
   exact hF _ sT (bad_one hlt (fun hg=>by unfold goodB at hg; simp only [Bool.and_eq_true,decide_eq_true_eq] at hg; rw [hgd] at hg; omega))
  by_cases c4 : (c.old.length : Int) ≤ b.2.1
  ·refine run_calm rfl ?_
   simp [cT,g6,hshl,hlo,fnl,c1,c2,c3,c4,undef,hw1]
   exact hF _ sT (bad_one hlt (fun hg=>by unfold goodB at hg; simp only [Bool.and_eq_true,decide_eq_true_eq] at hg; rw [hgd] at hg; omega))
  by_cases c5 : b.2.2.1 < 0
  ·refine run_calm rfl ?_
   simp [cT,g6,hshl,hlo,fnl,c1,c2,c3,c4,c5,undef,hw1]
   exact hF _ sT (bad_one hlt (fun hg=>by unfold goodB at hg; simp only [Bool.and_eq_true,decide_eq_true_eq] at hg; rw [hgd] at hg; omega))
  by_cases c6 : b.2.2.2 < 0
  ·refine run_calm rfl ?_
   simp [cT,g6,hshl,hlo,fnl,c1,c2,c3,c4,c5,c6,undef,hw1]
   exact hF _ sT (bad_one hlt (fun hg=>by unfold goodB at hg; simp only [Bool.and_eq_true,decide_eq_true_eq] at hg; rw [hgd] at hg; omega))
  by_cases c7 : (c.old.length : Int) < b.2.2.2
  ·refine run_calm rfl ?_
   simp [cT,g6,hshl,hlo,fnl,c1,c2,c3,c4,c5,c6,c7,undef,hw1]
   exact hF _ sT (bad_one hlt (fun hg=>by unfold goodB at hg; simp only [Bool.and_eq_true,decide_eq_true_eq] at hg; rw [hgd] at hg; omega))
  by_cases c8 : b.1=(N : Int) - 1
  ·refine run_calm rfl ?_
   simp [cT,g6,hshl,hlo,fnl,c1,c2,c3,c4,c5,c6,c7,eq_true c8,undef,hw1]
   exact hF _ sT (bad_one hlt (fun hg=>by unfold goodB at hg; simp only [Bool.and_eq_true,decide_eq_true_eq] at hg; rw [hgd] at hg; omega))
  refine run_calm rfl ?_
  simp [cT,g6,hshl,hlo,fnl,c1,c2,c3,c4,c5,c6,c7,c8,undef,hw1]
  simp [a6]
  refine rless_ok (a:=b.2.2) (b:=(A.off,A.mov)) ?_
  cases hch : clt b.2.2 (A.off,A.mov) with
  | false=>
   simp [undef]
   exact hF _ sT (bad_one hlt (fun hg=>by unfold goodB at hg; simp only [Bool.and_eq_true,decide_eq_true_eq] at hg; rw [hgd,hch] at hg; exact Bool.false_ne_true hg.2))
  | true=>
   have fin : (0 < i→bLt (P.getD (i - 1) bZ) b)→∀ (z : Act) (U : AS),Same T U []→Has z 233 [(3,ptr S.next),(4,ptr (S.next + 1)),(5,ptr (S.next + 2)),(11,.slice fa c.cg.free.length c.cg.free.length),(12,.int .i64 ((i + 1 : Nat) : Int))]→R z U:=by
    intro hbl z U hU hz
    refine hR _ _ _ (show P.length - (i + 1) < P.length - i by omega) ⟨i + 1,rfl,by omega,(hs6.tr0 h6T).tr0 hU,fun j hj=>?_,hz⟩
    rcases Nat.lt_succ_iff_lt_or_eq.1 hj with h' | rfl
    ·exact hgood j h'
    ·unfold goodB
     simp only [Bool.and_eq_true,decide_eq_true_eq]
     rw [hgd]
     exact ⟨⟨hbl,by omega⟩,hch⟩
   by_cases hi0 : i=0
   ·subst hi0
    simp [undef,hwS,(show IntKind.i64.wrap 1=1 from by decide)]
    exact fin (fun h=>by omega) _ _ (.refl _ _) ⟨rfl,rfl,by simp⟩
   ·have hip : 0 < i:=by omega
    have hip' : (0 : Int) < i:=by omega
    have hwi : IntKind.i64.wrap ((i : Int) - 1)=((i - 1 : Nat) : Int):=by rw [wrap64 (by omega) (by omega)]; omega
    obtain ⟨p',o',cells',e',wr',ex',h1',h2',h3',h4',h5',h6',h7',h8',h9'⟩:=q4_at (hP.stay0 sT).ps (i:=i - 1) (by omega)
    have hpd : P.getD (i - 1) bZ=P[i - 1]:=by rw [List.getD_eq_getElem?_getD,List.getElem?_eq_getElem (by omega)]; rfl
    generalize hpb : P[i - 1]=pb at *
    simp [undef,hip,hip',hwi,p6T,cT,h1',h2',h6',h7']
    refine rless_ok (a:=(pb.1,pb.2.1)) (b:=(b.1,b.2.1)) ?_
    have hclt : clt (pb.1,pb.2.1) (b.1,b.2.1)=decide (bLt pb b):=rfl
    rw [hclt]
    by_cases hbl : bLt pb b
    ·simp [undef,hip,hip',hwi,p6T,cT,h1',h2',h6',h7',hbl,hwS]
     exact fin (fun _=>by rw [hpd]; exact hbl) _ _ (.refl _ _) ⟨rfl,rfl,by simp⟩
    ·simp [undef,hip,hip',hwi,p6T,cT,h1',h2',h6',h7',hbl]
     exact hF _ sT (bad_one hlt (fun hg=>by unfold goodB at hg; simp only [Bool.and_eq_true,decide_eq_true_eq] at hg; rw [hgd,hpd] at hg; exact hbl (hg.1.1 hip)))
 ·obtain rfl : i=P.length:=by omega
  have hlt' : ¬ ((P.length : Int) < P.length):=by omega
  obtain ⟨pp,hp⟩ : ∃ p : Nat,c.passed=p:=⟨c.passed.toNat,by have:=ok.p0; omega⟩
  have hpl : pp ≤ c.old.length:=by have:=ok.p1; omega
  have hfr : c.cg.front=c.old.take pp:=by show c.old.take c.passed.toNat=_; rw [hp]; rfl
  have hlast0 : c.cg.goal.last0=(pp : Int) - 1:=by
   show (c.passed.toNat : Int) - 1=_
   omega
  have hwp : IntKind.i64.wrap ((pp : Int) - 1)=(pp : Int) - 1:=wrap64 (by omega) (by omega)
  have hw : ∀ x y,0 ≤ wt c.arrows x y∧wt c.arrows x y ≤ 1000:=fun x y=>wt_bd (arrsOk_none ok.ar).1 x y
  rw [hp] at g6'
  obtain ⟨v',k1,k2,k3⟩:=(h.old.stay0 s6).slc (lo:=none) (hi:=some (.int .i64 pp)) (i:=0) (j:=pp) (.inl ⟨rfl,rfl⟩) (.inr rfl) (by omega) hpl
  rw [List.drop_zero] at k2
  simp [fillF,pickL,p6,hPl,g6',a6',hwp,k1]
  refine roffence_ok (h.arrows.stay0 s6) k2 hw (by rw [List.length_take]; omega) fun S7 hs7=>?_
  have hn7:=hs7.1
  have s7:=s6.tr0 hs7
  have g7 : S7.get S.next=_:=(hs7.2 _ (by omega) (by simp)).trans g6'
  have a7 : S7.get (S.next + 1)=_:=(hs7.2 _ (by omega) (by simp)).trans a6'
  have p7 : S7.get (S.next + 2)=_:=(hs7.2 _ (by omega) (by simp)).trans p6
  obtain ⟨v2,kk1,kk2,kk3⟩:=(h.old.stay0 s7).slc (lo:=none) (hi:=some (.int .i64 pp)) (i:=0) (j:=pp) (.inl ⟨rfl,rfl⟩) (.inr rfl) (by omega) hpl
  have hbase : offR (wt c.arrows) [] (c.old.take pp)=c.cg.goal.base:=by rw [← hfr]; rfl
  rw [hbase]
  simp [g7,a7,p7,hwp,kk1]
  refine held_ok (s:=(0,(pp : Int) - 1)) (tot:=(A.off,A.mov)) (d:=(c.cg.goal.base,0)) (hP.stay0 s7) (hA.o.stay0 s7) (hA.k.stay0 s7) fun S8 hs8=>?_
  have hn8:=hs8.1
  have s8:=s7.tr0 hs8
  have g8 : S8.get S.next=_:=(hs8.2 _ (by omega) (by simp)).trans g7
  have a8 : S8.get (S.next + 1)=_:=(hs8.2 _ (by omega) (by simp)).trans a7
  have p8 : S8.get (S.next + 2)=_:=(hs8.2 _ (by omega) (by simp)).trans p7
  obtain ⟨v3,kq1,kq2,kq3⟩:=(h.old.stay0 s8).slc (lo:=none) (hi:=some (.int .i64 pp)) (i:=0) (j:=pp) (.inl ⟨rfl,rfl⟩) (.inr rfl) (by omega) hpl
  simp [g8,a8,p8,hwp,kq1]
  have hcp : cpR c A P=(folw P (A.off,A.mov) (0,(pp : Int) - 1) (c.cg.goal.base,0) && P.all (stepsB c.cg (A.off,A.mov) P)):=by
   have hall : (List.range P.length).all (goodB c.cg (A.off,A.mov) P)=true:=List.all_eq_true.2 fun j hj=>hgood j (by simpa using hj)
   unfold cpR
   rw [hvd,hrc,hrce,decide_eq_true rfl,decide_eq_true d3,hall,hlast0]
   simp
  cases hfo2 : folw P (A.off,A.mov) (0,(pp : Int) - 1) (c.cg.goal.base,0) with
  | false=>
   simp
   exact hF _ s8 (by rw [hcp,hfo2]; rfl)
  | true=>
   rw [hfo2,Bool.true_and] at hcp
   simp
   refine run_loop (fun m a' S'=>∃ i,m=P.length - i∧i ≤ P.length∧Same S8 S' []∧(∀ j (hj : j < P.length),j < i→stepsB c.cg (A.off,A.mov) P P[j]=true) ∧
    Has a' 233 [(3,ptr S.next),(4,ptr (S.next + 1)),(5,ptr (S.next + 2)),(11,.slice fa c.cg.free.length c.cg.free.length),(16,.int .i64 i)]) _ ⟨0,rfl,by omega,.refl _ _,fun j _ hj=>by omega,⟨rfl,rfl,by simp⟩⟩ ?_
   rintro _ R3 hR3 _ S9 ⟨i,rfl,hi,hs9,hst,hA'⟩
   obtain ⟨y,rfl⟩:=hA'.lit
   have hn9:=hs9.1
   have s9:=s8.tr0 hs9
   have g9 : S9.get S.next=_:=(hs9.2 _ (by omega) (by simp)).trans g8
   have a9 : S9.get (S.next + 1)=_:=(hs9.2 _ (by omega) (by simp)).trans a8
   have p9 : S9.get (S.next + 2)=_:=(hs9.2 _ (by omega) (by simp)).trans p8
   by_cases hlt : i < P.length
   ·have hlti : (i : Int) < P.length:=by omega
    have hwS:=wrapS (show i < 9223372036854775807 by omega)
    obtain ⟨p,o,cells,e,wr,ex,h1,h2,h3,h4,h5,h6,h7,h8,h9⟩:=q4_at (hP.stay0 s9).ps hlt
    obtain ⟨b,hb⟩ : ∃ b,b=P[i]:=⟨_,rfl⟩
    have hgd : P.getD i bZ=b:=by rw [hb,List.getD_eq_getElem?_getD,List.getElem?_eq_getElem hlt]; rfl
    have hg:=hgood i hlt
    unfold goodB at hg
    simp only [Bool.and_eq_true,decide_eq_true_eq] at hg
    rw [hgd] at hg
    obtain ⟨⟨_,w1,w2,w3,w4,w5,w6,w7⟩,w8⟩:=hg
    rw [← hb] at h5 h6 h7 h8 h9
    obtain ⟨set,hset⟩ : ∃ n : Nat,b.1=n:=⟨b.1.toNat,by omega⟩
    simp only [q4C,hset] at h5
    have hcw : b.2.2.1 ≤ A.off:=by
     unfold clt at w8
     simp only [decide_eq_true_eq] at w8
     omega
    simp [fillF,pickL,hlt,hlti,p9,hPl,h1,h2,h5,rowStore,splice,okc]
    generalize hT : AS.put (AS.put (AS.bump S9 1) _ _) _ _=T
    have h9T : Same S9 T []:=by rw [← hT]; exact (((Same.refl _ _).bu).pn (by omega)).pn (by omega)
    have cT : T.get S9.next=some (.row [.int .i64 set,.int .i64 b.2.1,.int .i64 b.2.2.1,.int .i64 b.2.2.2] 131 true true):=by rw [← hT,AS.get_put_self]
    have hnT : T.next=S9.next + 1:=by rw [← hT]; simp
    clear hT
    have sT:=s9.tr0 h9T
    have gT : T.get S.next=_:=(h9T.2 _ (by omega) (by simp)).trans g9
    have hvalp : Value.agg #[.int .i64 c.n,va,vo,.int .i64 pp]=c.val va vo:=by unfold Chg.val; rw [hp]
    simp [gT,cT,hvalp]
    have hsl : set < 2 ^ c.cg.free.length:=by omega
    refine rsteps_ok (h.stay0 sT) ok ((((((hfo.is.stay0 hs6).stay0 hs7).stay0 hs8).stay0 hs9).stay0 h9T)) hsl (last:=b.2.1) fun S10 sa sn hs10 hsn hqs hso=>?_
    have hn10:=hs10.1
    have s10:=sT.tr0 hs10
    have a10 : S10.get (S.next + 1)=_:=(hs10.2 _ (by omega) (by simp)).trans ((h9T.2 _ (by omega) (by simp)).trans a9)
    have p10 : S10.get (S.next + 2)=_:=(hs10.2 _ (by omega) (by simp)).trans ((h9T.2 _ (by omega) (by simp)).trans p9)
    have c10 : S10.get S9.next=_:=(hs10.2 _ (by omega) (by simp)).trans cT
    rw [List.length_map] at hsn
    obtain ⟨L,hL⟩ : ∃ L,L=c.cg.tk.rsteps (set,b.2.1):=⟨_,rfl⟩
    rw [← hL] at hsn hqs
    have hLl : L.length ≤ 48:=by
     have:=rsteps_len c.cg.tk (set,b.2.1) c.cg.tk.f
     have htf : c.cg.tk.f=c.cg.free.length:=rfl
     rw [hL]
     unfold Tk.rsteps
     omega
    simp
    refine run_loop (fun m a' S'=>∃ u,m=L.length - u∧u ≤ L.length∧Same S10 S' []∧(∀ x ∈ L.take u,folw P (A.off,A.mov) ((x.2.1.1 : Int),x.2.1.2) (cadd b.2.2 x.2.2)=true) ∧
     Has a' 233 [(3,ptr S.next),(4,ptr (S.next + 1)),(5,ptr (S.next + 2)),(11,.slice fa c.cg.free.length c.cg.free.length),(16,.int .i64 i),(17,ptr S9.next),(18,.slice sa sn sn),(19,.int .i64 u)]) _ ⟨0,rfl,by omega,.refl _ _,by simp,⟨rfl,rfl,by simp⟩⟩ ?_
    rintro _ R4 hR4 _ S11 ⟨u,rfl,hu,hs11,hfw,hA'⟩
    obtain ⟨z,rfl⟩:=hA'.lit
    have hn11:=hs11.1
    have s11:=s10.tr0 hs11
    by_cases hltu : u < L.length
    ·have hltu' : (u : Int) < sn:=by omega
     have hltu2 : u < sn:=by omega
     have hwSu:=wrapS (show u < 9223372036854775807 by omega)
     obtain ⟨⟨i',⟨t1,t2⟩,e1,e2⟩,hx⟩ : ∃ x : Sp,x=L[u]:=⟨_,rfl⟩
     have hxm : (i',(t1,t2),(e1,e2)) ∈ c.cg.tk.rsteps (set,b.2.1):=by rw [hx,← hL]; exact List.getElem_mem _
     have hsb:=step_bd sm (mem_steps.1 (mem_rsteps.1 hxm))
     simp only at hsb
     have hel : (L.map sp4)[u]'(by simpa using hltu)=((t1 : Int),t2,e1,e2):=by rw [List.getElem_map,← hx]; rfl
     have hqs11:=hqs.stay0 hs11
     obtain ⟨qp,qo,qc,qe,qw,qx,y1,y2,y3,y4,y5,y6,y7,y8,y9⟩:=q4_at (hqs11.ps (by simp; omega)) (i:=u) (by simpa using hltu)
     rw [hel] at y6 y7 y8 y9
     simp only at y6 y7 y8 y9
     have hwo : IntKind.i64.wrap (b.2.2.1 + e1)=b.2.2.1 + e1:=wrap64 (by omega) (by omega)
     have hwm : IntKind.i64.wrap (b.2.2.2 + e2)=b.2.2.2 + e2:=wrap64 (by omega) (by omega)
     have a11 : S11.get (S.next + 1)=_:=(hs11.2 _ (by omega) (by simp)).trans a10
     have p11 : S11.get (S.next + 2)=_:=(hs11.2 _ (by omega) (by simp)).trans p10
     have c11 : S11.get S9.next=_:=(hs11.2 _ (by omega) (by simp)).trans c10
     simp [fillF,pickL,hltu,hltu',hltu2,p11,a11,c11,y1,y2,y6,y7,y8,y9,hwo,hwm]
     refine held_ok (s:=((t1 : Int),t2)) (tot:=(A.off,A.mov)) (d:=cadd b.2.2 (e1,e2)) (hP.stay0 s11) (hA.o.stay0 s11) (hA.k.stay0 s11) fun S12 hs12=>?_
     have hn12:=hs12.1
     have s12:=s11.tr0 hs12
     have a12 : S12.get (S.next + 1)=_:=(hs12.2 _ (by omega) (by simp)).trans a11
     have p12 : S12.get (S.next + 2)=_:=(hs12.2 _ (by omega) (by simp)).trans p11
     have c12 : S12.get S9.next=_:=(hs12.2 _ (by omega) (by simp)).trans c11
     have q12 : S12.get qp=_:=(hs12.2 _ y3 (by simp)).trans y2
     cases hfx : folw P (A.off,A.mov) ((t1 : Int),t2) (cadd b.2.2 (e1,e2)) with
     | false=>
      simp [p12,a12,c12,y1,q12,y6,y7,y8,y9,hwo,hwm]
      exact hF _ s12 (bad_step (b:=b) (x:=(i',(t1,t2),(e1,e2))) (by rw [hb]; exact List.getElem_mem _) (by rw [hset]; exact mem_rsteps.1 hxm) hfx)
     | true=>
      simp [p12,a12,c12,y1,q12,y6,y7,y8,y9,hwo,hwm,hwSu]
      refine hR4 _ _ _ (by omega) ⟨u + 1,rfl,by omega,hs11.tr0 hs12,fun x hx'=>?_,⟨rfl,rfl,by simp⟩⟩
      have e : L.take (u + 1)=L.take u ++ [L[u]]:=by rw [List.take_add_one,List.getElem?_eq_getElem hltu]; rfl
      rw [e] at hx'
      rcases List.mem_append.1 hx' with h' | h'
      ·exact hfw x h'
      ·rw [List.mem_singleton.1 h',← hx]; exact hfx
    ·obtain rfl : u=L.length:=by omega
     have hsi : ¬ ((L.length : Int) < sn):=by omega
     rw [List.take_length] at hfw
     simp [fillF,pickL,hsi,hwS]
     refine hR3 _ _ _ (by omega) ⟨i + 1,rfl,by omega,((hs9.tr0 h9T).tr0 hs10).tr0 hs11,fun j hj1 hj2=>?_,⟨rfl,rfl,by simp⟩⟩
     rcases Nat.lt_succ_iff_lt_or_eq.1 hj2 with h' | rfl
     ·exact hst j hj1 h'
     ·rw [← hb]
      unfold stepsB
      refine List.all_eq_true.2 fun x hx'=>hfw x ?_
      rw [hL]
      refine mem_rsteps.2 ?_
      rw [hset] at hx'
      exact hx'
   ·obtain rfl : i=P.length:=by omega
    have hli : ¬ ((P.length : Int) < P.length):=by omega
    have htrue : cpR c A P=true:=by
     rw [hcp]
     refine List.all_eq_true.2 fun b hb=>?_
     obtain ⟨j,hj,rfl⟩:=List.getElem_of_mem hb
     exact hst j hj hj
    simp [fillF,pickL,p9,hPl]
    have:=hq _ s9
    rw [htrue] at this
    exact this
end Go.Gx.A
