/-
  Bounds: compared, looked up; whether a step is answered.
-/
import Derived.Test.YtamljcdnphjgaaaQa
set_option linter.all false
set_option linter.deprecated false
set_option linter.unusedSimpArgs false
set_option linter.unusedVariables false
namespace Go.Gx.A
open Go.Gx Go.Proofs
set_option maxRecDepth 100000
set_option linter.all false
set_option maxHeartbeats 2000000
def bget : List Bnd→Int × Int→Option Cost
 | [],_=>none
 | b :: P,s=>if b.1=s.1∧b.2.1=s.2 then some (b.2.2.1,b.2.2.2) else bget P s
def folw (P : List Bnd) (tot : Cost) (s : Int × Int) (v : Cost) : Bool:=!clt v tot || match bget P s with
 | none=>false
 | some b=>!clt v b
def bLt (a b : Bnd) : Prop:=a.1 < b.1 ∨ a.1=b.1∧a.2.1 < b.2.1
instance (a b : Bnd) : Decidable (bLt a b):=by unfold bLt; infer_instance
def cB (a b : Bnd) : Int:=(([cmpI a.1 b.1,cmpI a.2.1 b.2.1]).find? fun x=>decide (x ≠ 0)).getD 0
theorem cB_neg {a b : Bnd} : cB a b < 0 ↔ bLt a b:=by
 unfold cB bLt cmpI
 by_cases h1 : a.1 < b.1
 ·simp [h1]
 ·by_cases h2 : b.1 < a.1
  ·have h3 : ¬ a.1=b.1:=by omega
   simp [h1,h2,h3]
  ·have h3 : a.1=b.1:=by omega
   by_cases h4 : a.2.1 < b.2.1
   ·simp [h3,h4]
   ·by_cases h5 : b.2.1 < a.2.1
    ·simp [h3,h4,h5]
    ·simp [h3,h4,h5]
theorem compareBounds_ok {S : AS} {a b : Bnd} {Q : En→AS→Prop} (hq : ∀ S',Same S S' []→Q (.ret (.int .i64 (cB a b))) S') : Call G 111 [.agg (q4C a).toArray,.agg (q4C b).toArray] S Q:=by
 refine call_run' (G:=G) rfl (ext_none (by decide)) ?_
 simp [q4C]
 refine compare_ok ?_
 simp
 refine compare_ok ?_
 simp [placeIn,splice]
 generalize hS1 : AS.put (AS.bump (AS.put (AS.put (AS.bump S 2) _ _) _ _) 1) _ _=S1
 have s1 : Same S S1 []:=by rw [← hS1]; exact ((((Same.refl _ _).bu.pn (by omega)).pn (by omega)).bu).pn (by omega)
 have g1 : S1.get (S.next + 2)=some (.row (ints [cmpI a.1 b.1,cmpI a.2.1 b.2.1]) 3 true true):=by rw [← hS1]; simp [ints]
 have hn1 : S1.next=S.next + 3:=by rw [← hS1]; simp
 clear hS1
 refine or_ok (Is.row g1 (by omega) (by simp)) ?_
 have e : (([cmpI a.1 b.1,cmpI a.2.1 b.2.1]).find? fun x=>decide (x ≠ 0)).getD 0=cB a b:=rfl
 rw [e]
 simp
 exact hq _ s1
def fB (P : List Bnd) : Int × Int→Option Value:=fun s=>(bget P s).map cV
theorem follows_ok {S : AS} {m : Nat} {P : List Bnd} {s : St} {v tot : Cost} (h : MapAt S m [.int .i64,.int .i64] true (fun x : Int × Int=>Value.agg #[.int .i64 x.1,.int .i64 x.2]) (fB P)) (hm : m < S.next) {Q : En→AS→Prop}
  (hq : ∀ S',Same S S' []→Q (.ret (.bool (folw P tot ((s.1 : Int),s.2) v))) S') : Call G 112 [.map (some m),sV s,cV v,cV tot] S Q:=by
 refine call_run' (G:=G) rfl (ext_none (by decide)) ?_
 simp [Nat.add_assoc]
 generalize hS1 : AS.put (AS.put (AS.put (AS.bump S 3) _ _) _ _) _ _=S1
 have s1 : Same S S1 []:=by rw [← hS1]; exact ((((Same.refl _ _).bu.pn (by omega)).pn (by omega))).pn (by omega)
 have g0 : S1.get S.next=some (.row [.int .i64 s.1,.int .i64 s.2] 123 true true):=by rw [← hS1]; simp
 have g1 : S1.get (S.next + 1)=some (.row [.int .i64 v.1,.int .i64 v.2] 110 true true):=by rw [← hS1]; simp
 have g2 : S1.get (S.next + 2)=some (.row [.int .i64 tot.1,.int .i64 tot.2] 110 true true):=by rw [← hS1]; simp
 have hn1 : S1.next=S.next + 3:=by rw [← hS1]; simp
 clear hS1
 refine less_ok (c:=v) (d:=tot) fun S2 hs2=>?_
 have s2:=s1.tr0 hs2
 have hn2:=hs2.1
 have k0 : S2.get S.next=_:=(hs2.2 _ (by omega) (by simp)).trans g0
 have k1 : S2.get (S.next + 1)=_:=(hs2.2 _ (by omega) (by simp)).trans g1
 cases hlt : clt v tot with
 | false=>
  simp
  have:=hq S2 s2
  simp [folw,hlt] at this
  exact this
 | true=>
  simp [-lookE_map,k0]
  generalize hS3 : AS.bump S2 1=S3
  have h23 : Same S2 S3 []:=by rw [← hS3]; exact (Same.refl _ _).bu
  have hn3 : S3.next=S2.next + 1:=by rw [← hS3]; simp
  have s3:=s2.tr0 h23
  have j1 : S3.get (S.next + 1)=_:=(h23.2 _ (by omega) (by simp)).trans k1
  clear hS3
  have mA : MapAt S3 m [.int .i64,.int .i64] true (fun x : Int × Int=>Value.agg #[.int .i64 x.1,.int .i64 x.2]) (fB P):=by
   obtain ⟨es,k,e1,e2⟩:=h
   exact ⟨es,k,by rw [s3.2 _ hm (by simp)]; exact e1,e2⟩
  have lk:=mA.look keyInt2 ((s.1 : Int),s.2) (.agg #[.int .i64 0,.int .i64 0]) true
  simp only [fB] at lk
  have hfin:=hq
  cases hg : bget P ((s.1 : Int),s.2) with
  | none=>
   rw [hg] at lk
   simp only [Option.map_none,Option.map_some,Option.getD_none,Option.getD_some,Option.isSome_none,Option.isSome_some,if_true] at lk
   simp [-lookE_map,lk,rowStore,splice,okc,undef]
   have:=hq ((S3.put S2.next (.row [.int .i64 0,.int .i64 0] 110 true true)).put S2.next (.row [.int .i64 0,.int .i64 0] 110 true true)) ((s3.pn (by omega)).pn (by omega))
   simp [folw,hlt,hg] at this
   exact this
  | some b=>
   rw [hg] at lk
   simp only [Option.map_none,Option.map_some,Option.getD_none,Option.getD_some,Option.isSome_none,Option.isSome_some,if_true] at lk
   have u1 : (S.next + 1=S2.next)=False:=eq_false (by omega)
   simp [-lookE_map,lk,rowStore,splice,okc,undef,j1,u1]
   refine less_ok (c:=v) (d:=b) fun S4 hs4=>?_
   have s4:=((s3.pn (d:=S2.next) (o:=.row [.int .i64 0,.int .i64 0] 110 true true) (by omega)).pn (d:=S2.next) (o:=.row [.int .i64 b.1,.int .i64 b.2] 110 true true) (by omega)).tr0 hs4
   simp
   have:=hq S4 s4
   simp [folw,hlt,hg] at this
   exact this
structure Bs (S : AS) (v : Value) (P : List Bnd) : Prop where
 ps : Ps S 4 v (P.map q4C)
 small : P.length ≤ 9223372036854775807
theorem Bs.stay0 {S S' : AS} {v : Value} {P : List Bnd} (h : Bs S v P) (hs : Same S S' []) : Bs S' v P:=⟨h.ps.stays hs (by simp),h.small⟩
theorem Bs.shape {S : AS} {v : Value} {P : List Bnd} (h : Bs S v P) : ∃ a cap,v=.slice a P.length cap:=by
 obtain ⟨a,cap,e⟩:=h.ps.shape
 exact ⟨a,cap,by rw [e,List.length_map]⟩
end Go.Gx.A
namespace Go.Gx.A
open Go.Gx Go.Proofs
set_option maxRecDepth 100000
set_option linter.all false
set_option maxHeartbeats 4000000
def bZ : Bnd:=(0,0,0,0)
def goodB (c : Cg) (tot : Cost) (P : List Bnd) (i : Nat) : Bool:=
 decide (0 < i→bLt (P.getD (i - 1) bZ) (P.getD i bZ)) && decide (0 ≤ (P.getD i bZ).1∧(P.getD i bZ).1 < ((2 ^ c.free.length : Nat) : Int) - 1∧-1 ≤ (P.getD i bZ).2.1∧(P.getD i bZ).2.1 < c.old.length∧0 ≤ (P.getD i bZ).2.2.1∧0 ≤ (P.getD i bZ).2.2.2∧(P.getD i bZ).2.2.2 ≤ c.old.length) && clt (P.getD i bZ).2.2 tot
def stepsB (c : Cg) (tot : Cost) (P : List Bnd) (b : Bnd) : Bool:=(c.tk.steps (b.1.toNat,b.2.1)).all fun x=>folw P tot ((x.2.1.1 : Int),x.2.1.2) (cadd b.2.2 x.2.2)
def cpR (c : Chg) (A : Amd) (P : List Bnd) : Bool:=
 validR c A.order && decide (c.cg.rcost A.order=(A.off,A.mov)) && decide (A.kept=kept c.old A.order) && (List.range P.length).all (goodB c.cg (A.off,A.mov) P) && folw P (A.off,A.mov) (0,c.cg.goal.last0) (c.cg.goal.base,0) && P.all (stepsB c.cg (A.off,A.mov) P)
theorem bad_one {c : Chg} {A : Amd} {P : List Bnd} {i : Nat} (h : i < P.length) (hb : ¬ goodB c.cg (A.off,A.mov) P i=true) : cpR c A P=false:=by
 have : (List.range P.length).all (goodB c.cg (A.off,A.mov) P)=false:=by
  rw [List.all_eq_false]
  exact ⟨i,by simpa using h,hb⟩
 unfold cpR
 rw [this]
 simp
theorem bad_step {c : Chg} {A : Amd} {P : List Bnd} {b : Bnd} {x : Sp} (h : b ∈ P) (hx : x ∈ c.cg.tk.steps (b.1.toNat,b.2.1)) (hb : folw P (A.off,A.mov) ((x.2.1.1 : Int),x.2.1.2) (cadd b.2.2 x.2.2)=false) : cpR c A P=false:=by
 have h1 : stepsB c.cg (A.off,A.mov) P b=false:=by
  unfold stepsB
  rw [List.all_eq_false]
  exact ⟨x,hx,by rw [hb]; exact Bool.false_ne_true⟩
 have : P.all (stepsB c.cg (A.off,A.mov) P)=false:=by
  rw [List.all_eq_false]
  exact ⟨b,h,by rw [h1]; exact Bool.false_ne_true⟩
 unfold cpR
 rw [this]
 simp
structure AmAt (S : AS) (v k : Value) (A : Amd) : Prop where
 o : Is S v A.order
 k : Is S k A.kept
theorem AmAt.stay0 {S S' : AS} {v k : Value} {A : Amd} (h : AmAt S v k A) (hs : Same S S' []) : AmAt S' v k A:=⟨h.o.stay0 hs,h.k.stay0 hs⟩
def Amd.val (A : Amd) (v k : Value) : Value:=.agg #[v,.int .i64 A.off,.int .i64 A.mov,k]
theorem free8 {c : Chg} (ok : ChgOk c) : c.cg.free.length ≤ 8:=by
 have h1:=len_free ok.cgOk
 have h2 : c.cg.n=c.n.toNat:=rfl
 have h3:=ok.am
 have h4 : c.cg.front.length=c.passed.toNat:=by show (c.old.take c.passed.toNat).length=_; rw [List.length_take]; have:=ok.p1; omega
 have:=ok.n0
 have:=ok.p0
 omega
theorem rcost_bd {c : Chg} (ok : ChgOk c) {o : List Int} (ho : ordOk c.cg.n o=true) : 0 ≤ (c.cg.rcost o).1∧(c.cg.rcost o).1 ≤ 576000:=by
 obtain ⟨h1,_,_⟩:=ordOk_iff.1 ho
 have h2 : c.cg.n ≤ 24:=ok.cgSm.n
 have:=offR_bd ok.cgSm.w o [] (by simp; omega)
 show 0 ≤ offR c.cg.w [] o∧offR c.cg.w [] o ≤ 576000
 omega
end Go.Gx.A
