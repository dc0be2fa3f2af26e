/-
  A step of a walk: turning, passing.
-/
import Derived.Test.YtnhaainnhmmbfaaGreatQk
set_option linter.all false
set_option linter.deprecated false
namespace Go.Gx.Z
open Go.Gx Go.Proofs
set_option maxRecDepth 100000
set_option maxHeartbeats 4000000
structure ChsAt {σ : Type} (k : Nat) (cap : Array Value) (D P : List Nat) (d : Nat) (I : σ→AS→Prop) (ch : σ→Chg→List Int × σ) : Prop where
 m1 : ∀ s c,c.passed=-1→(ch s c).1=c.old
 len : ∀ s c,c.check=0→c.passed≤(ch s c).1.length
 sm : ∀ s c,c.check=0→(ch s c).1.length≤100000
 stay : ∀ s S S',I s S→Same S S' [d]→I s S'
 call : ∀ s S c va vo,I s S→ChgAt S va vo c→(∀ m∈ownsOf vo,m∉P)→(c.passed=-1∨c.check=0)→(∀ m∈P,m < S.next)→∀ Q : En→AS→Prop,
  (∀ S' v,Same S S' D→I (ch s c).2 S'→Is S' v (ch s c).1→(∀ m∈ownsOf v,m∉P)→Q (.ret v) S')→Call G k (c.val va vo :: cap.toList) S Q
abbrev chf (k : Nat) (cap : Array Value) : Value:=.func (.func k) #[] cap
def Wk.row (w : Wk) (va vo : Value) (k : Nat) (cap : Array Value) : List Value:=[.int .i64 w.n,va,vo,.int .i64 w.passed,chf k cap]
structure WkAt (S : AS) (P : List Nat) (d k : Nat) (cap : Array Value) (w : Wk) (va vo : Value) : Prop where
 row : S.get d=some (.row (w.row va vo k cap) 70 true true)
 ar : As S va w.ar
 or : Is S vo w.order
 oa : ∀ m∈ownsOf va,m∉P
 oo : ∀ m∈ownsOf vo,m∉P
 ck : checkR w.n w.ar=0
 ps : w.passed≤w.order.length
 sm : w.order.length≤100000
 dP : d∈P
 lt : ∀ m∈P,m < S.next
theorem WkAt.stays {S S' : AS} {P fp : List Nat} {d k : Nat} {cap : Array Value} {w : Wk} {va vo : Value} (h : WkAt S P d k cap w va vo) (hs : Same S S' fp) (hd : d∉fp) (hf : ∀ m∈fp,m∈P) : WkAt S' P d k cap w va vo:=
 ⟨(hs.2 d (h.lt d h.dP) hd).trans h.row,h.ar.stays hs fun m hm hf'=>h.oa m hm (hf m hf'),h.or.stays hs fun m hm hf'=>h.oo m hm (hf m hf'),h.oa,h.oo,h.ck,h.ps,h.sm,h.dP,fun m hm=>Nat.lt_of_lt_of_le (h.lt m hm) hs.1⟩
section
variable {σ : Type} {k : Nat} {cap : Array Value} {D P : List Nat} {I : σ→AS→Prop} {ch : σ→Chg→List Int × σ}
def StepQ (S : AS) (P : List Nat) (D : List Nat) (d k : Nat) (cap : Array Value) (I : σ→AS→Prop) (Q : En→AS→Prop) : Except Int (Wk × σ)→Prop
 | .ok (w,s)=>∀ S' va vo,Same S S' (d :: D)→WkAt S' P d k cap w va vo→I s S'→Q (.ret (.tuple #[])) S'
 | .error e=>∀ S',Same S S' (d :: D)→Q (.panic (rfs e)) S'
theorem chg_at {S : AS} {va vo : Value} {n : Int} {ar : List Arw} {old : List Int} {p : Int} (h : As S va ar) (k : Is S vo old) (hn : 0≤n) (hn' : n≤24) (hp : -1≤p) (hp' : p≤9223372036854775807) : ChgAt S va vo ⟨n,ar,old,p⟩:=⟨h,k,by simp only; omega,by simp only; omega,by simp only; omega,by simp only; omega⟩
theorem check_ck {c : Chg} (hc : c.check=0) : checkR c.n c.arrows=0:=by
 have h:=check_ok hc
 unfold checkR
 rw [if_neg (by have:=h.n1; omega),if_neg (by have:=h.n0; omega),if_pos h.ar]
@[simp] theorem callee_chf {k : Nat} {cap : Array Value} {x : Value} : calleeOf (.func (.func k) #[] cap) [x]=some (.fn k (x :: cap.toList)):=by simp [calleeOf]
theorem turn_ok {d : Nat} (hC : ChsAt k cap D P d I ch) (hD : ∀ m∈D,m∈P) {S : AS} (hdD : d∉D) {w : Wk} {va vo ua uo : Value} {n : Int} {ar : List Arw} {old : List Int} {s : σ} (h : WkAt S P d k cap w va vo) (hI : I s S) (ha : As S ua ar) (hoa : ∀ m∈ownsOf ua,m∉P) (ho : Is S uo old) (hoo : ∀ m∈ownsOf uo,m∉P)
  (hn : -9223372036854775808≤n) (hn' : n≤9223372036854775807) {Q : En→AS→Prop}
  (hq : StepQ S P D d k cap I Q (turnW ch s w n ar old)) : Call G 82 [ptr d,.agg #[.int .i64 n,ua],uo] S Q:=by
 have hdn : d < S.next:=h.lt d h.dP
 have hpl:=h.ps
 have hol:=h.or.small
 have hrow:=h.row
 unfold Wk.row at hrow
 obtain ⟨oa,ocap,rfl⟩:=ho.shape
 obtain ⟨ra,rcap,rfl⟩:=ha.shape
 refine call_run' (G:=G) rfl (ext_none (by decide)) ?_
 have hne : d≠S.next:=by omega
 have hne1 : d≠S.next + 1:=by omega
 simp [hrow,hne,hne1,placeIn,splice,rowStore,okc]
 generalize hS1 : AS.put (AS.put _ _ _) _ _=S1
 have s1 : Same S S1 []:=by rw [← hS1]; exact (((((Same.refl _ _).bu).pn (by omega)).bu).pn (by omega)).pn (by omega)
 have g0 : S1.get S.next=some (.row [.int .i64 n,.slice ra ar.length rcap] 24 true true):=by rw [← hS1]; simp
 have g1 : S1.get (S.next + 1)=some (.row [.int .i64 n,.slice ra ar.length rcap,.slice oa old.length ocap,.int .i64 w.passed] 41 true true):=by rw [← hS1]; simp
 have hn1 : S1.next=S.next + 2:=by rw [← hS1]; simp
 clear hS1
 have hca : ChgAt S1 (.slice ra ar.length rcap) (.slice oa old.length ocap) ⟨n,ar,old,w.passed⟩:=⟨ha.stay0 s1,ho.stay0 s1,hn,hn',by simp only; omega,by simp only; omega⟩
 refine amendCheck_ok hca fun S2 hs2=>?_
 have hs02:=s1.tr0 hs2
 have hn2:=hs2.1
 simp
 refine right_ok (fun hc=>?_) (fun hc=>?_)
 ·have k0 : S2.get S.next=_:=(hs2.2 _ (by omega) (by simp)).trans g0
  have k1 : S2.get (S.next + 1)=_:=(hs2.2 _ (by omega) (by simp)).trans g1
  have kd : S2.get d=_:=(hs02.2 _ (by omega) (by simp)).trans hrow
  simp [k0,k1,kd]
  have hlt2 : ∀ m∈P,m < S2.next:=fun m hm=>by have:=h.lt m hm; have:=hs02.1; omega
  have hI2 : I s S2:=hC.stay s S S2 hI ⟨hs02.1,fun m hm _=>hs02.2 m hm (by simp)⟩
  refine hC.call s S2 ⟨n,ar,old,w.passed⟩ _ _ hI2 (hca.stay0 hs2) hoo (.inr hc) hlt2 _ fun S3 v hs3 hI3 hv hvo=>?_
  have hD3 : ∀ m,S.next≤m→m∉D:=fun m hm hd=>by have:=h.lt m (hD m hd); omega
  have k30 : S3.get S.next=_:=(hs3.2 _ (by omega) (hD3 _ (by omega))).trans k0
  have k31 : S3.get (S.next + 1)=_:=(hs3.2 _ (by omega) (hD3 _ (by omega))).trans k1
  have k3d : S3.get d=_:=(hs3.2 _ (by omega) hdD).trans kd
  obtain ⟨va',vcap',rfl⟩:=hv.shape
  simp [k30,k31,k3d,rowStore,okc,splice]
  unfold turnW at hq
  rw [if_neg (by simp [hc])] at hq
  have hck:=check_ck hc
  have hch:=hC.len s _ hc
  generalize hS4 : AS.put (AS.put S3 d _) d _=S4
  have s4 : Same S3 S4 [d]:=by rw [← hS4]; exact ((Same.refl _ _).po (by simp)).po (by simp)
  have g4 : S4.get d=some (.row (Wk.row ⟨n,ar,(ch s ⟨n,ar,old,w.passed⟩).1,w.passed⟩ (.slice ra ar.length rcap) (.slice va' (ch s ⟨n,ar,old,w.passed⟩).1.length vcap') k cap) 70 true true):=by rw [← hS4,AS.get_put_self]; rfl
  clear hS4
  have hs03 : Same S S3 (d :: D):=(show Same S S2 (d :: D) from ⟨hs02.1,fun m hm _=>hs02.2 m hm (by simp)⟩).trans hs3 (fun m hm _=>by simp [hm])
  have hs04 : Same S S4 (d :: D):=hs03.trans s4 (fun m hm _=>by simp at hm; simp [hm])
  have hdP : ∀ m∈d :: D,m∈P:=fun m hm=>by
   rcases List.mem_cons.1 hm with rfl | hm
   ·exact h.dP
   ·exact hD m hm
  refine hq S4 _ _ hs04 ⟨g4,ha.stays hs04 fun m hm hd=>hoa m hm (hdP m hd),hv.stays s4 fun m hm hd=>hvo m hm (by simp at hd; subst hd; exact h.dP),hoa,hvo,hck,by simp only at hch ⊢; omega,hC.sm s _ hc,h.dP,fun m hm=>by have:=h.lt m hm; have:=hs04.1; omega⟩ (hC.stay _ S3 S4 hI3 s4)
 ·simp
  unfold turnW at hq
  rw [if_pos hc] at hq
  exact hq _ ⟨hs02.1,fun m hm _=>hs02.2 m hm (by simp)⟩
end

def Stp.val (st : Stp) (va : Value) : Value:=.agg #[.int .u8 st.kind,.int .i64 st.guest,.int .i64 st.n,va]
structure StpAt (S : AS) (P : List Nat) (st : Stp) (va : Value) : Prop where
 ar : As S va st.ar
 own : ∀ m∈ownsOf va,m∉P
 n1 : -9223372036854775808≤st.n
 n2 : st.n≤9223372036854775807
theorem StpAt.stays {S S' : AS} {P fp : List Nat} {st : Stp} {va : Value} (h : StpAt S P st va) (hs : Same S S' fp) (hf : ∀ m∈fp,m∈P) : StpAt S' P st va:=⟨h.ar.stays hs fun m hm h'=>h.own m hm (hf m h'),h.own,h.n1,h.n2⟩
@[simp] theorem rowLoad25 {a b c d e : Value} : rowLoad [a,b,c,d,e] 0 (some 2)=some (.agg #[a,b]):=rfl
@[simp] theorem rowLoad42 {a b c d : Value} : rowLoad [a,b,c,d] 2 (some 2)=some (.agg #[c,d]):=rfl
section
variable {σ : Type} {k : Nat} {cap : Array Value} {D P : List Nat} {I : σ→AS→Prop} {ch : σ→Chg→List Int × σ}
theorem StepQ.mono {S T : AS} {d : Nat} {Q : En→AS→Prop} {r : Except Int (Wk × σ)} (h : StepQ S P D d k cap I Q r) (hs : Same S T (d :: D)) : StepQ T P D d k cap I Q r:=by
 cases r with
 | error e=>exact fun S' h'=>h S' (hs.trans h' fun m hm _=>hm)
 | ok x=>exact fun S' va vo h'=>h S' va vo (hs.trans h' fun m hm _=>hm)
theorem StepQ.imp {S T : AS} {d : Nat} {Q R : En→AS→Prop} {r : Except Int (Wk × σ)} (h : StepQ S P D d k cap I Q r) (hs : Same S T (d :: D)) (h1 : ∀ S',Q (.ret (.tuple #[])) S'→R (.ret (.tuple #[])) S') (h2 : ∀ e S',Q (.panic (rfs e)) S'→R (.panic (rfs e)) S') : StepQ T P D d k cap I R r:=by
 cases r with
 | error e=>exact fun S' h'=>h2 e S' (h S' (hs.trans h' fun m hm _=>hm))
 | ok x=>exact fun S' va vo h' hw hi=>h1 S' (h S' va vo (hs.trans h' fun m hm _=>hm) hw hi)
theorem pass_ok {d : Nat} (hC : ChsAt k cap D P d I ch) (hD : ∀ m∈D,m∈P) {S : AS} (hdD : d∉D) {w : Wk} {va vo sv : Value} {st : Stp} {s : σ} (h : WkAt S P d k cap w va vo) (hI : I s S) (hst : StpAt S P st sv) {Q : En→AS→Prop}
  (hq : StepQ S P D d k cap I Q (passW ch s w)) : Call G 55 [ptr d,st.val sv] S Q:=by
 have hdn : d < S.next:=h.lt d h.dP
 have hpl:=h.ps
 have hsm:=h.sm
 have hrow:=h.row
 unfold Wk.row at hrow
 obtain ⟨oa,ocap,rfl⟩:=h.or.shape
 obtain ⟨ra,rcap,rfl⟩:=h.ar.shape
 refine call_run' (G:=G) rfl (ext_none (by decide)) ?_
 have hne : d≠S.next:=by omega
 simp [Stp.val,hrow,hne]
 generalize hS1 : AS.put _ _ _=S1
 have s1 : Same S S1 []:=by rw [← hS1]; exact ((Same.refl _ _).bu).pn (by omega)
 have g1 : S1.get d=_:=(s1.2 _ (by omega) (by simp)).trans hrow
 clear hS1
 refine unless_ok (fun hc=>?_) (fun hc=>?_)
 ·have hlt : w.passed < w.order.length:=by simp at hc; omega
  have hwS:=wrapS (show w.passed < 9223372036854775807 by omega)
  simp [g1,placeIn,splice,rowStore,okc,hwS]
  generalize hS2 : AS.put _ _ _=S2
  have s2 : Same S1 S2 [d]:=by rw [← hS2]; exact (Same.refl _ _).po (by simp)
  have g2 : S2.get d=some (.row [.int .i64 w.n,.slice ra w.ar.length rcap,.slice oa w.order.length ocap,.int .i64 ((w.passed : Int) + 1),chf k cap] 70 true true):=by rw [← hS2,AS.get_put_self]
  clear hS2
  have hdP : ∀ m∈d :: D,m∈P:=fun m hm=>by
   rcases List.mem_cons.1 hm with rfl | hm
   ·exact h.dP
   ·exact hD m hm
  have hs02 : Same S S2 (d :: D):=(show Same S S1 (d :: D) from ⟨s1.1,fun m hm _=>s1.2 m hm (by simp)⟩).trans s2 (fun m hm _=>by simp at hm; simp [hm])
  have hlt2 : ∀ m∈P,m < S2.next:=fun m hm=>by have:=h.lt m hm; have:=hs02.1; omega
  have hI2 : I s S2:=hC.stay s S S2 hI ((s1.mono (gp:=[d]) (by simp)).trans s2 (by simp))
  obtain ⟨hN0,hN1,_⟩:=checkR_pos h.ck
  have hca : ChgAt S2 (.slice ra w.ar.length rcap) (.slice oa w.order.length ocap) ⟨w.n,w.ar,w.order,-1⟩:=chg_at (h.ar.stays hs02 fun m hm hd=>h.oa m hm (hdP m hd)) (h.or.stays hs02 fun m hm hd=>h.oo m hm (hdP m hd)) hN0 hN1 (by omega) (by omega)
  refine hC.call s S2 ⟨w.n,w.ar,w.order,-1⟩ _ _ hI2 hca h.oo (.inl rfl) hlt2 _ fun S3 v hs3 hI3 hv hvo=>?_
  have g3 : S3.get d=_:=(hs3.2 _ (hlt2 d h.dP) hdD).trans g2
  have hm1:=hC.m1 s ⟨w.n,w.ar,w.order,-1⟩ rfl
  simp only at hm1
  obtain ⟨va',vcap',rfl⟩:=hv.shape
  simp [g3,rowStore,okc,splice]
  unfold passW at hq
  rw [if_pos hlt] at hq
  generalize hS4 : AS.put _ _ _=S4
  have s4 : Same S3 S4 [d]:=by rw [← hS4]; exact (Same.refl _ _).po (by simp)
  have g4 : S4.get d=some (.row (Wk.row ⟨w.n,w.ar,(ch s ⟨w.n,w.ar,w.order,-1⟩).1,w.passed + 1⟩ (.slice ra w.ar.length rcap) (.slice va' (ch s ⟨w.n,w.ar,w.order,-1⟩).1.length vcap') k cap) 70 true true):=by rw [← hS4,AS.get_put_self]; rfl
  clear hS4
  have hs03 : Same S S3 (d :: D):=hs02.trans hs3 (fun m hm _=>by simp [hm])
  have hs04 : Same S S4 (d :: D):=hs03.trans s4 (fun m hm _=>by simp at hm; simp [hm])
  refine hq S4 _ _ hs04 ⟨g4,h.ar.stays hs04 fun m hm hd=>h.oa m hm (hdP m hd),hv.stays s4 fun m hm hd=>hvo m hm (by simp at hd; subst hd; exact h.dP),h.oa,hvo,h.ck,by rw [hm1]; simp only; omega,by rw [hm1]; exact h.sm,h.dP,fun m hm=>by have:=h.lt m hm; have:=hs04.1; omega⟩ (hC.stay _ S3 S4 hI3 s4)
 ·have hlt : ¬ w.passed < w.order.length:=by simp at hc; omega
  simp
  unfold passW at hq
  rw [if_neg hlt] at hq
  exact hq _ ⟨s1.1,fun m hm _=>s1.2 m hm (by simp)⟩
theorem renew_ok {d : Nat} (hC : ChsAt k cap D P d I ch) (hD : ∀ m∈D,m∈P) {S : AS} (hdD : d∉D) {w : Wk} {va vo sv : Value} {st : Stp} {s : σ} (h : WkAt S P d k cap w va vo) (hI : I s S) (hst : StpAt S P st sv) {more : Int} (hm0 : 0≤more) (hm1 : more≤1) {Q : En→AS→Prop}
  (hq : StepQ S P D d k cap I Q (renewW ch s w st more)) : Call G 83 [ptr d,st.val sv,.int .i64 more] S Q:=by
 have hdn : d < S.next:=h.lt d h.dP
 have hrow:=h.row
 unfold Wk.row at hrow
 obtain ⟨hN0,hN1,_⟩:=checkR_pos h.ck
 have hw : IntKind.i64.wrap (w.n + more)=w.n + more:=wrap64 (by omega) (by omega)
 obtain ⟨ra,rcap,rfl⟩:=hst.ar.shape
 refine call_run' (G:=G) rfl (ext_none (by decide)) ?_
 have hne : d≠S.next:=by omega
 simp [Stp.val]
 generalize hS1 : AS.put _ _ _=S1
 have s1 : Same S S1 []:=by rw [← hS1]; exact ((Same.refl _ _).bu).pn (by omega)
 have g0 : S1.get S.next=some (.row [.int .u8 st.kind,.int .i64 st.guest,.int .i64 st.n,.slice ra st.ar.length rcap] 38 true true):=by rw [← hS1]; simp
 have g1 : S1.get d=_:=(s1.2 _ (by omega) (by simp)).trans hrow
 have hn1 : S1.next=S.next + 1:=by rw [← hS1]; simp
 clear hS1
 refine rankCheck_ok (hst.ar.stay0 s1) fun S2 hs2=>?_
 have hs02:=s1.tr0 hs2
 have k0 : S2.get S.next=_:=(hs2.2 _ (by omega) (by simp)).trans g0
 have k1 : S2.get d=_:=(hs2.2 _ (by omega) (by simp)).trans g1
 have hsd : Same S S2 (d :: D):=⟨hs02.1,fun m hm _=>hs02.2 m hm (by simp)⟩
 unfold renewW at hq
 simp
 refine right_ok (fun hc=>?_) (fun hc=>?_)
 ·rw [if_neg (by simp [hc])] at hq
  simp [k0,k1,hw]
  refine unless_ok (fun he=>?_) (fun he=>?_)
  ·rw [if_pos (by simpa using he)] at hq
   simp [k0,k1]
   have hs02' : Same S S2 [d]:=hs02.mono (by simp)
   refine turn_ok (w:=w) (s:=s) hC hD hdD (h.stays hs02 (by simp) (by simp)) (hC.stay s S S2 hI hs02') (hst.ar.stay0 hs02) hst.own (h.or.stay0 hs02) h.oo hst.n1 hst.n2 ?_
   exact hq.imp hsd (fun S' h'=>by simpa using h') (fun e S' h'=>by simpa using h')
  ·rw [if_neg (by simpa using he)] at hq
   simp
   exact hq _ hsd
 ·rw [if_pos hc] at hq
  simp
  exact hq _ hsd
theorem come_ok {d : Nat} (hC : ChsAt k cap D P d I ch) (hD : ∀ m∈D,m∈P) {S : AS} (hdD : d∉D) {w : Wk} {va vo sv : Value} {st : Stp} {s : σ} (h : WkAt S P d k cap w va vo) (hI : I s S) (hst : StpAt S P st sv) {Q : En→AS→Prop}
  (hq : StepQ S P D d k cap I Q (renewW ch s w st 1)) : Call G 57 [ptr d,st.val sv] S Q:=by
 obtain ⟨ra,rcap,rfl⟩:=hst.ar.shape
 refine call_run' (G:=G) rfl (ext_none (by decide)) ?_
 simp [Stp.val]
 generalize hS1 : AS.put _ _ _=S1
 have s1 : Same S S1 []:=by rw [← hS1]; exact ((Same.refl _ _).bu).pn (by omega)
 clear hS1
 refine renew_ok (w:=w) (s:=s) (st:=st) hC hD hdD (h.stays s1 (by simp) (by simp)) (hC.stay s S S1 hI (s1.mono (by simp))) (hst.stays s1 (by simp)) (by omega) (by omega) ?_
 exact hq.imp ⟨s1.1,fun m hm _=>s1.2 m hm (by simp)⟩ (fun S' h'=>by simpa using h') (fun e S' h'=>by simpa using h')
theorem change_ok {d : Nat} (hC : ChsAt k cap D P d I ch) (hD : ∀ m∈D,m∈P) {S : AS} (hdD : d∉D) {w : Wk} {va vo sv : Value} {st : Stp} {s : σ} (h : WkAt S P d k cap w va vo) (hI : I s S) (hst : StpAt S P st sv) {Q : En→AS→Prop}
  (hq : StepQ S P D d k cap I Q (renewW ch s w st 0)) : Call G 58 [ptr d,st.val sv] S Q:=by
 obtain ⟨ra,rcap,rfl⟩:=hst.ar.shape
 refine call_run' (G:=G) rfl (ext_none (by decide)) ?_
 simp [Stp.val]
 generalize hS1 : AS.put _ _ _=S1
 have s1 : Same S S1 []:=by rw [← hS1]; exact ((Same.refl _ _).bu).pn (by omega)
 clear hS1
 refine renew_ok (w:=w) (s:=s) (st:=st) hC hD hdD (h.stays s1 (by simp) (by simp)) (hC.stay s S S1 hI (s1.mono (by simp))) (hst.stays s1 (by simp)) (by omega) (by omega) ?_
 exact hq.imp ⟨s1.1,fun m hm _=>s1.2 m hm (by simp)⟩ (fun S' h'=>by simpa using h') (fun e S' h'=>by simpa using h')
end

theorem stayL_step (i : Nat) (g : Int) : stayL (i + 1) g=stayL i g ++ (if (i : Int)≠g then [(i : Int)] else []):=by
 unfold stayL
 rw [List.range_succ,List.map_append,List.filter_append]
 congr 1
 by_cases h : (i : Int)=g <;> simp [h]
theorem stayL_le (i : Nat) (g : Int) : (stayL i g).length≤i:=by
 unfold stayL
 have:=List.length_filter_le (fun x=>decide (x≠g)) ((List.range i).map fun (x : Nat)=>(x : Int))
 simpa using this
theorem rsOld_step {stay l : List Int} {i : Nat} (hi : i < l.length) : rsOld stay (l.take (i + 1))=rsOld stay (l.take i) ++ (if l[i]∈stay then [ixI stay l[i]] else []):=by
 unfold rsOld
 rw [List.take_add_one,List.getElem?_eq_getElem hi,List.filterMap_append]
 congr 1
 simp only [Option.toList_some,List.filterMap_cons,List.filterMap_nil]
 split <;> rename_i h <;> split at h <;> simp_all
theorem rsOld_len (stay l : List Int) : (rsOld stay l).length≤l.length:=List.length_filterMap_le _ _
section
variable {σ : Type} {k : Nat} {cap : Array Value} {D P : List Nat} {I : σ→AS→Prop} {ch : σ→Chg→List Int × σ}
theorem leave_ok {d : Nat} (hC : ChsAt k cap D P d I ch) (hD : ∀ m∈D,m∈P) {S : AS} (hdD : d∉D) {w : Wk} {va vo sv : Value} {st : Stp} {s : σ} (h : WkAt S P d k cap w va vo) (hI : I s S) (hst : StpAt S P st sv) {Q : En→AS→Prop}
  (hq : StepQ S P D d k cap I Q (leaveW ch s w st.guest)) : Call G 56 [ptr d,st.val sv] S Q:=by
 have hdn : d < S.next:=h.lt d h.dP
 have hpl:=h.ps
 have hsm:=h.sm
 have hrow:=h.row
 unfold Wk.row at hrow
 obtain ⟨hN0,hN1,har⟩:=checkR_pos h.ck
 obtain ⟨n,hn⟩ : ∃ n : Nat,w.n=n:=⟨w.n.toNat,by omega⟩
 have hn24 : n≤24:=by omega
 obtain ⟨oa,ocap,rfl⟩:=h.or.shape
 obtain ⟨ra,rcap,rfl⟩:=h.ar.shape
 obtain ⟨sa,scap,rfl⟩:=hst.ar.shape
 rw [hn] at hrow
 unfold leaveW at hq
 rw [hn,Int.toNat_natCast] at hq
 refine call_run' (G:=G) rfl (ext_none (by decide)) ?_
 have hne : d≠S.next:=by omega
 simp [Stp.val]
 generalize hS1 : AS.put _ _ _=S1
 have s1 : Same S S1 []:=by rw [← hS1]; exact ((Same.refl _ _).bu).pn (by omega)
 have g0 : S1.get S.next=some (.row [.int .u8 st.kind,.int .i64 st.guest,.int .i64 st.n,.slice sa st.ar.length scap] 38 true true):=by rw [← hS1]; simp
 have g1 : S1.get d=_:=(s1.2 _ (by omega) (by simp)).trans hrow
 have hn1 : S1.next=S.next + 1:=by rw [← hS1]; simp
 clear hS1
 have hsd : Same S S1 (d :: D):=⟨s1.1,fun m hm _=>s1.2 m hm (by simp)⟩
 by_cases c0 : 0≤st.guest
 ·by_cases c1 : st.guest < n
  ·rw [if_pos ⟨c0,c1⟩] at hq
   simp [g0,g1,c0,c1]
   refine unless_ok (fun _=>?_) (fun h=>by cases h)
   obtain ⟨v1,e1,e2,e3⟩:=(h.or.stay0 s1).slc (lo:=none) (hi:=some (.int .i64 w.passed)) (i:=0) (j:=w.passed) (.inl ⟨rfl,rfl⟩) (.inr rfl) (by omega) h.ps
   rw [List.drop_zero] at e2
   simp [g0,g1,e1]
   refine contains_ok e2 ?_
   simp
   refine unless_ok (fun hc=>?_) (fun hc=>?_)
   ·have hnp : st.guest∉w.order.take w.passed:=by simpa using hc
    rw [if_neg hnp] at hq
    simp [g0,g1]
    refine run_loop (fun j a' S'=>∃ i a m,j=n - i∧i≤n∧Same S S' []∧S.next < S'.next∧S'.get S.next=some (.row [.int .u8 st.kind,.int .i64 st.guest,.int .i64 st.n,.slice sa st.ar.length scap] 38 true true) ∧
      m=(stayL i st.guest).length∧Ow S' (.slice a m m) (stayL i st.guest)∧(∀ q∈ownsOf (.slice a m m),S.next + 1≤q)∧Has a' 91 [(0,ptr d),(3,ptr S.next),(4,.slice a m m),(5,.slice none 0 0),(44,.int .i64 n),(45,.int .i64 i)]) _
     ⟨0,none,0,rfl,by omega,s1,by omega,g0,rfl,Ow.nil,by simp [ownsOf],⟨rfl,rfl,by simp⟩⟩ ?_
    ·rintro _ R hR _ S2 ⟨i,a,m,rfl,hi,hs2,hn2,q0,hm,how,hown,hA⟩
     obtain ⟨x,rfl⟩:=hA.lit
     have hle:=stayL_le i st.guest
     by_cases hlt : i < n
     ·have hwS:=wrapS (show i < 9223372036854775807 by omega)
      have hlt' : (i : Int) < n:=by omega
      have hst1:=stayL_step i st.guest
      by_cases he : (i : Int)=st.guest
      ·simp [he] at hst1
       have he' : st.guest=i:=he.symm
       simp [fillF,pickL,hlt',q0,he',hwS]
       refine hR _ _ _ (by omega) ⟨i + 1,a,m,rfl,by omega,hs2,hn2,q0,by rw [hst1]; exact hm,by rw [hst1]; exact how,hown,⟨rfl,rfl,by simp⟩⟩
      ·simp [he] at hst1
       simp [fillF,pickL,hlt',q0,he,placeIn,splice]
       obtain ⟨T',a2,f1,f2,f3,f4,f5⟩:=how.app (T:=(S2.bump 2).put S2.next (.row [.int .i64 (i : Int)] 3 true true)) (y:=.slice (some ⟨S2.next,0,none⟩) 1 1) (m:=[(i : Int)]) (fr:=S2.next + 1) (by simp; omega) (((Same.refl _ _).bu).pn (by omega)) (Is.one (by rw [AS.get_put_self]) (by simp)) (by simp) (by omega)
       simp only [List.length_singleton] at f1 f2 f5
       subst hm
       simp [f1,hwS]
       refine hR _ _ _ (by omega) ⟨i + 1,a2,(stayL i st.guest).length + 1,rfl,by omega,hs2.trans f3 (fun q hq hl=>by have:=hown q hq; omega),?_,?_,by rw [hst1]; simp,by rw [hst1]; exact f2,fun q hq=>?_,⟨rfl,rfl,by simp⟩⟩
       ·rw [f4]; simp; omega
       ·exact (f3.2 _ hn2 (fun hq=>by have:=hown _ hq; omega)).trans q0
       ·rcases f5 q hq with h' | h'
        ·exact hown q h'
        ·omega
     ·obtain rfl : i=n:=by omega
      have q1 : S2.get d=_:=(hs2.2 _ (by omega) (by simp)).trans hrow
      simp [fillF,pickL,q1]
      have hslt : st.guest < i:=c1
      have hsl:=stayL_len c0 hslt
      have hstl : ∀ y∈stayL i st.guest,0≤y∧y < i:=fun y hy=>(stayL_mem.1 hy).1
      generalize hstay : stayL i st.guest=stay at *
      have hnd : stay.Pairwise (· < ·):=by rw [← hstay]; exact stayL_sorted _ _
      clear hstay
      refine run_loop (fun j a' S'=>∃ t b p,j=w.order.length - t∧t≤w.order.length∧Same S S' []∧S2.next≤S'.next∧Ow S' (.slice a m m) stay ∧
        p=(rsOld stay (w.order.take t)).length∧Ow S' (.slice b p p) (rsOld stay (w.order.take t))∧(∀ q∈ownsOf (.slice b p p),S2.next≤q)∧Has a' 91 [(0,ptr d),(3,ptr S.next),(4,.slice a m m),(5,.slice b p p),(60,.slice oa w.order.length ocap),(61,.int .i64 w.order.length),(62,.int .i64 t)]) _
       ⟨0,none,0,rfl,by omega,hs2,by omega,how,by simp [rsOld],by simpa [rsOld] using Ow.nil,by simp [ownsOf],⟨rfl,rfl,by simp⟩⟩ ?_
      rintro _ R hR _ S3 ⟨t,b,p,rfl,ht,hs3,hn3,hows,hp,hob,hownb,hA⟩
      obtain ⟨x,rfl⟩:=hA.lit
      have hle:=rsOld_len stay (w.order.take t)
      rw [List.length_take] at hle
      by_cases hlt : t < w.order.length
      ·have hwS:=wrapS (show t < 9223372036854775807 by omega)
       have hlt' : (t : Int) < w.order.length:=by omega
       have hst1:=rsOld_step (stay:=stay) hlt
       obtain ⟨bp,o,cells,e,wr,ex,h1,h2,h3,h4,h5⟩:=(h.or.stay0 hs3).at hlt
       simp [fillF,pickL,hlt,hlt',h1,h2,h5]
       refine index_ok hows.is ?_
       by_cases hin : w.order[t]∈stay
       ·have hix:=ixI_mem.2 hin
        rw [if_pos hin] at hst1
        simp [hix,placeIn,splice]
        obtain ⟨T',a2,f1,f2,f3,f4,f5⟩:=hob.app (T:=(S3.bump 2).put S3.next (.row [.int .i64 (ixI stay w.order[t])] 3 true true)) (y:=.slice (some ⟨S3.next,0,none⟩) 1 1) (m:=[ixI stay w.order[t]]) (fr:=S3.next + 1) (by simp; omega) (((Same.refl _ _).bu).pn (by omega)) (Is.one (by rw [AS.get_put_self]) (by simp)) (by simp) (by omega)
        simp only [List.length_singleton] at f1 f2 f5
        subst hp
        simp [f1,hwS]
        have hT : S3.next≤T'.next:=by rw [f4]; simp
        refine hR _ _ _ (by omega) ⟨t + 1,a2,(rsOld stay (w.order.take t)).length + 1,rfl,by omega,hs3.trans f3 (fun q hq hl=>by have:=hownb q hq; have:=hs2.1; omega),by omega,hows.stays f3 (fun q hq hq'=>by have:=hownb q hq'; have:=how.owns_lt q hq; omega),by rw [hst1]; simp,by rw [hst1]; exact f2,fun q hq=>?_,⟨rfl,rfl,by simp⟩⟩
        rcases f5 q hq with h' | h'
        ·exact hownb q h'
        ·omega
       ·have hix : ¬ 0≤ixI stay w.order[t]:=fun h'=>hin (ixI_mem.1 h')
        rw [if_neg hin,List.append_nil] at hst1
        simp [hix,hwS]
        refine hR _ _ _ (by omega) ⟨t + 1,b,p,rfl,by omega,hs3,hn3,hows,by rw [hst1]; exact hp,by rw [hst1]; exact hob,hownb,⟨rfl,rfl,by simp⟩⟩
      ·obtain rfl : t=w.order.length:=by omega
       rw [List.take_length] at hp hob
       have q2 : S3.get d=_:=(hs3.2 _ (by omega) (by simp)).trans hrow
       simp [fillF,pickL,q2]
       have hsb : Same S3 (S3.bump 1) []:=(Same.refl _ _).bu
       have hsl' : ((stay.length : Nat) : Int)=(i : Int) - 1:=by omega
       refine restrict_ok (h.ar.stay0 (hs3.tr0 hsb)) (hows.is.stay0 hsb) (by rw [← hn]; exact h.ck) (by have:=arrs_len (by omega) har; omega) hnd hstl (by omega) fun S4 rv hs4 hrv hrown=>?_
       have hn4:=hs4.1
       simp at hn4
       obtain ⟨va4,vcap4,rfl⟩:=hrv.shape
       simp [rowStore,okc,splice]
       generalize hS5 : AS.put (AS.put _ _ _) _ _=S5
       have s5 : Same S3 S5 []:=by rw [← hS5]; exact ((hsb.tr0 hs4).pn (by omega)).pn (by omega)
       have s45 : Same S4 S5 [S3.next]:=by rw [← hS5]; exact ((Same.refl _ _).po (by simp)).po (by simp)
       have g5 : S5.get S3.next=some (.row [.int .i64 stay.length,.slice va4 (rsArr stay w.ar).length vcap4] 24 true true):=by rw [← hS5,AS.get_put_self]
       clear hS5
       refine right_ok (fun _=>?_) (fun h=>absurd rfl h)
       simp [g5]
       have hs05:=hs3.tr0 s5
       have hn3':=hs3.1
       have hfre : ∀ q,S.next≤q→q∉P:=fun q hq hqP=>by have:=h.lt q hqP; omega
       refine turn_ok (w:=w) (s:=s) hC hD hdD (h.stays hs05 (by simp) (by simp)) (hC.stay s S S5 hI (hs05.mono (by simp))) (hrv.stays s45 (fun q hq h'=>by have:=hrown q hq; simp at h' this; omega)) (fun q hq=>hfre q (by have:=hrown q hq; simp at this; omega)) (hob.is.stay0 s5) (fun q hq=>hfre q (by have:=hownb q hq; have:=hs2.1; omega)) (by omega) (by omega) ?_
       rw [hsl']
       exact hq.imp ⟨hs05.1,fun m hm _=>hs05.2 m hm (by simp)⟩ (fun S' h'=>by simpa using h') (fun e S' h'=>by simpa using h')
   ·have hnp : st.guest∈w.order.take w.passed:=by simpa using hc
    rw [if_pos hnp] at hq
    simp
    exact hq _ hsd
  ·rw [if_neg (by omega)] at hq
   simp [g0,g1,c0,c1]
   refine unless_ok (fun h=>by cases h) (fun _=>?_)
   simp
   exact hq _ hsd
 ·rw [if_neg (by omega)] at hq
  simp [g0,g1,c0]
  refine unless_ok (fun h=>by cases h) (fun _=>?_)
  simp
  exact hq _ hsd
end

theorem keyU8 : KeyEnc [.int .u8] false (fun x : Int=>Value.int .u8 x):=⟨fun a b=>by
 by_cases h : a=b <;> simp [veq,cseq,ceq,h]⟩
section
variable {σ : Type} {k : Nat} {cap : Array Value} {D P : List Nat} {I : σ→AS→Prop} {ch : σ→Chg→List Int × σ}
theorem do_ok {d : Nat} (hC : ChsAt k cap D P d I ch) (hD : ∀ m∈D,m∈P) {S : AS} (hdD : d∉D) {w : Wk} {va vo sv : Value} {st : Stp} {s : σ} (h : WkAt S P d k cap w va vo) (hI : I s S) (hst : StpAt S P st sv) {Q : En→AS→Prop}
  (hq : StepQ S P D d k cap I Q (doW ch s w st)) : Call G 24 [ptr d,st.val sv] S Q:=by
 have hdn : d < S.next:=h.lt d h.dP
 obtain ⟨sa,scap,rfl⟩:=hst.ar.shape
 refine call_run' (G:=G) rfl (ext_none (by decide)) ?_
 simp [-msetE_map,Stp.val]
 generalize hS1 : AS.put (AS.bump (AS.put _ _ _) _) _ _=S1
 have s1 : Same S S1 []:=by rw [← hS1]; exact ((((Same.refl _ _).bu).pn (by omega)).bu).pn (by omega)
 have g0 : S1.get S.next=some (.row [.int .u8 st.kind,.int .i64 st.guest,.int .i64 st.n,.slice sa st.ar.length scap] 38 true true):=by rw [← hS1]; simp
 have hn1 : S1.next=S.next + 2:=by rw [← hS1]; simp
 have m0 : MapAt S1 (S.next + 1) [.int .u8] false (fun x : Int=>Value.int .u8 x) (fun _=>none):=⟨[],0,by rw [← hS1]; simp,Fnd.nil⟩
 clear hS1
 obtain ⟨o1,e1,m1⟩:=m0.mset keyU8 1 (.func (.func 55) #[ptr d] #[])
 obtain ⟨o2,e2,m2⟩:=m1.mset keyU8 2 (.func (.func 56) #[ptr d] #[])
 obtain ⟨o3,e3,m3⟩:=m2.mset keyU8 3 (.func (.func 57) #[ptr d] #[])
 obtain ⟨o4,e4,m4⟩:=m3.mset keyU8 4 (.func (.func 58) #[ptr d] #[])
 simp [-msetE_map,-lookE_map,e1,e2,e3,e4,g0]
 generalize hS5 : AS.put (AS.put (AS.put (AS.put S1 _ _) _ _) _ _) _ _=S5 at *
 have s5 : Same S S5 []:=by rw [← hS5]; exact (((s1.pn (by omega)).pn (by omega)).pn (by omega)).pn (by omega)
 have g5 : S5.get S.next=some (.row [.int .u8 st.kind,.int .i64 st.guest,.int .i64 st.n,.slice sa st.ar.length scap] 38 true true):=by rw [← hS5]; simpa using g0
 have hlk:=m4.look keyU8 st.kind .nilFunc false
 clear hS5 m4 m3 m2 m1 e1 e2 e3 e4
 have hW:=h.stays s5 (by simp) (by simp)
 have hI5:=hC.stay s S S5 hI (s5.mono (by simp))
 have hst5:=hst.stays s5 (by simp)
 have hsd : Same S S5 (d :: D):=⟨s5.1,fun m hm _=>s5.2 m hm (by simp)⟩
 unfold doW at hq
 by_cases c1 : st.kind=1
 ·rw [if_pos c1] at hq
  simp [-lookE_map,upd1,c1] at hlk
  simp [-lookE_map,c1,hlk,isNil]
  refine unless_ok (fun _=>?_) (fun h=>by cases h)
  simp [g5,calleeOf]
  refine pass_ok (w:=w) (s:=s) (st:=st) hC hD hdD hW hI5 hst5 ?_
  exact hq.imp hsd (fun S' h'=>by simpa using h') (fun e S' h'=>by simpa using h')
 rw [if_neg c1] at hq
 by_cases c2 : st.kind=2
 ·rw [if_pos c2] at hq
  simp [-lookE_map,upd1,c2] at hlk
  simp [-lookE_map,c2,hlk,isNil]
  refine unless_ok (fun _=>?_) (fun h=>by cases h)
  simp [g5,calleeOf]
  refine leave_ok (w:=w) (s:=s) (st:=st) hC hD hdD hW hI5 hst5 ?_
  exact hq.imp hsd (fun S' h'=>by simpa using h') (fun e S' h'=>by simpa using h')
 rw [if_neg c2] at hq
 by_cases c3 : st.kind=3
 ·rw [if_pos c3] at hq
  simp [-lookE_map,upd1,c3] at hlk
  simp [-lookE_map,c3,hlk,isNil]
  refine unless_ok (fun _=>?_) (fun h=>by cases h)
  simp [g5,calleeOf]
  refine come_ok (w:=w) (s:=s) (st:=st) hC hD hdD hW hI5 hst5 ?_
  exact hq.imp hsd (fun S' h'=>by simpa using h') (fun e S' h'=>by simpa using h')
 rw [if_neg c3] at hq
 by_cases c4 : st.kind=4
 ·rw [if_pos c4] at hq
  simp [-lookE_map,upd1,c4] at hlk
  simp [-lookE_map,c4,hlk,isNil]
  refine unless_ok (fun _=>?_) (fun h=>by cases h)
  simp [g5,calleeOf]
  refine change_ok (w:=w) (s:=s) (st:=st) hC hD hdD hW hI5 hst5 ?_
  exact hq.imp hsd (fun S' h'=>by simpa using h') (fun e S' h'=>by simpa using h')
 rw [if_neg c4] at hq
 have c1' : ¬ (1 : Int)=st.kind:=fun h=>c1 h.symm
 simp [-lookE_map,upd1,c1,c2,c3,c4] at hlk
 simp [-lookE_map,hlk,isNil]
 refine unless_ok (fun h=>by cases h) (fun _=>?_)
 simp
 exact hq _ hsd
end
end Go.Gx.Z
