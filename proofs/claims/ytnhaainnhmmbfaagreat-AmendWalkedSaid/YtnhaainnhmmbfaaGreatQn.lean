/-
  CheckWalk's choice.
-/
import Derived.Test.YtnhaainnhmmbfaaGreatQm
set_option linter.all false
set_option linter.deprecated false
namespace Go.Gx.Z
open Go.Gx Go.Proofs
set_option maxRecDepth 100000
set_option maxHeartbeats 4000000
def chB (now : List Int) : Bool→Chg→List Int × Bool:=fun s c=>
 if c.passed < 0 then (c.old,s && decide (now=c.old)) else if validR c now=true∧c.cg.rcost now=c.cg.goal.total then (now,s) else (c.old,false)
structure ToldAt (P : List Nat) (tc ac fc i : Nat) (vt : Value) (vals : List Value) (told : List (List Int)) (s : Bool) (S : AS) : Prop where
 t : S.get tc=some (.row [vt] 29 true true)
 a : S.get ac=some (.row [.int .i64 i] 3 true true)
 f : S.get fc=some (.row [.bool s] 4 true true)
 l : Ls S vt vals told
 tl : tc < S.next
 al : ac < S.next
 fl : fc < S.next
 ot : ∀ m∈ownsOf vt,m∉P
 ov : ∀ u∈vals,∀ m∈ownsOf u,m∉P
 i : i < told.length
theorem ToldAt.stays {S S' : AS} {P fp : List Nat} {tc ac fc i : Nat} {vt : Value} {vals : List Value} {told : List (List Int)} {s : Bool} (h : ToldAt P tc ac fc i vt vals told s S) (hs : Same S S' fp) (h1 : tc∉fp) (h2 : ac∉fp) (h3 : fc∉fp) (hp : ∀ m∈fp,m∈P) : ToldAt P tc ac fc i vt vals told s S':=
 ⟨(hs.2 _ h.tl h1).trans h.t,(hs.2 _ h.al h2).trans h.a,(hs.2 _ h.fl h3).trans h.f,⟨h.l.cs.stays hs fun m hm hk=>h.ot m hm (hp m hk),h.l.len,h.l.small,fun j u l' k1 k2=>(h.l.pt j u l' k1 k2).stays hs fun m hm hk=>h.ov u (List.mem_of_getElem? k1) m hm (hp m hk)⟩,
  Nat.lt_of_lt_of_le h.tl hs.1,Nat.lt_of_lt_of_le h.al hs.1,Nat.lt_of_lt_of_le h.fl hs.1,h.ot,h.ov,h.i⟩
theorem told_ok {S : AS} {P : List Nat} {tc ac fc i : Nat} {vt va vo : Value} {vals : List Value} {told : List (List Int)} {s : Bool} {c : Chg} (hT : ToldAt P tc ac fc i vt vals told s S) (h : ChgAt S va vo c) (hvo : ∀ m∈ownsOf vo,m∉P) (hc : c.passed=-1∨c.check=0) (hf : fc≠tc∧fc≠ac∧fc∈P) {Q : En→AS→Prop}
  (hq : ∀ S' v,Same S S' [fc]→ToldAt P tc ac fc i vt vals told (chB told[i]! s c).2 S'→Is S' v (chB told[i]! s c).1→(∀ m∈ownsOf v,m∉P)→Q (.ret v) S') : Call G 31 [c.val va vo,ptr tc,ptr ac,ptr fc] S Q:=by
 have hT0:=hT
 obtain ⟨ht,ha,hff,hl,htl,hal,hfl,hot,hov,hi⟩:=hT
 obtain ⟨oa,ocap,rfl⟩:=h.old.shape
 obtain ⟨p,q,cells,et,wr,ex,b,bcap,h1,h2,h3,h4,h5,h6,h7⟩:=hl.at hi
 refine call_run' (G:=G) rfl (ext_none (by decide)) ?_
 simp [Chg.val]
 generalize hS1 : AS.put _ _ _=S1
 have s1 : Same S S1 []:=by rw [← hS1]; exact ((Same.refl _ _).bu).pn (by omega)
 have g0 : S1.get S.next=some (.row [.int .i64 c.n,va,.slice oa c.old.length ocap,.int .i64 c.passed] 41 true true):=by rw [← hS1]; simp
 have hn1 : S1.next=S.next + 1:=by rw [← hS1]; simp
 clear hS1
 have ht1:=(s1.2 _ htl (by simp)).trans ht
 have ha1:=(s1.2 _ hal (by simp)).trans ha
 have hf1:=(s1.2 _ hfl (by simp)).trans hff
 have h21:=(s1.2 _ h3 (by simp)).trans h2
 have hn : told[i]! = told[i]:=by simp [hi]
 rw [hn] at hq
 generalize hnow : told[i]=now at *
 clear hn
 have hown : ∀ m∈ownsOf (.slice b now.length bcap),m∉P:=hov _ (List.mem_of_getElem? h7)
 have fin : ∀ (S3 : AS) (b' : Bool),Same S S3 []→ToldAt P tc ac fc i vt vals told b' (S3.put fc (.row [.bool b'] 4 true true))∧Same S (S3.put fc (.row [.bool b'] 4 true true)) [fc]:=fun S3 b' h3=>by
  have hp : Same S (S3.put fc (.row [.bool b'] 4 true true)) [fc]:=(h3.mono (by simp)).po (by simp)
  have hlt:=h3.1
  refine ⟨⟨?_,?_,AS.get_put_self _ _ _,⟨hl.cs.stays hp fun m hm hk=>?_,hl.len,hl.small,fun j u l' k1 k2=>(hl.pt j u l' k1 k2).stays hp fun m hm hk=>?_⟩,by simp; omega,by simp; omega,by simp; omega,hot,hov,hi⟩,hp⟩
  ·rw [AS.get_put_ne _ _ (Ne.symm hf.1)]; exact (h3.2 _ htl (by simp)).trans ht
  ·rw [AS.get_put_ne _ _ (Ne.symm hf.2.1)]; exact (h3.2 _ hal (by simp)).trans ha
  ·simp at hk; subst hk; exact hot m hm hf.2.2
  ·simp at hk; subst hk; exact hov u (List.mem_of_getElem? k1) m hm hf.2.2
 have hfS : fc≠S.next:=by omega
 have hfS' : S.next≠fc:=by omega
 simp [ht1,ha1,h1,h21,h5]
 by_cases c1 : c.passed < 0
 ·simp [g0,c1,hf1]
  have hB : chB now s c=(c.old,s && decide (now=c.old)):=by unfold chB; rw [if_pos c1]
  rw [hB] at hq
  cases s with
  | true=>
   simp [g0]
   refine equal_ok (h6.stay0 s1) (h.old.stay0 s1) ?_
   obtain ⟨f1,f2⟩:=fin S1 (decide (now=c.old)) s1
   simp [hf1,rowStore,okc,splice,g0,hfS,hfS']
   exact hq _ _ f2 (by simpa using f1) (h.old.stays f2 (fun m hm hk=>by simp at hk; subst hk; exact hvo m hm hf.2.2)) hvo
  | false=>
   obtain ⟨f1,f2⟩:=fin S1 false s1
   simp [hf1,rowStore,okc,splice,g0,hfS,hfS']
   exact hq _ _ f2 (by simpa using f1) (h.old.stays f2 (fun m hm hk=>by simp at hk; subst hk; exact hvo m hm hf.2.2)) hvo
 ·have hck : c.check=0:=by
   rcases hc with h | h
   ·omega
   ·exact h
  have ok:=check_ok hck
  simp [g0,c1]
  have hca:=h.stay0 s1
  refine Valid_ok hca (h6.stay0 s1) fun S2 hs2=>?_
  have hs02:=s1.tr0 hs2
  have hn2:=hs2.1
  have k0 : S2.get S.next=_:=(hs2.2 _ (by omega) (by simp)).trans g0
  have kf : S2.get fc=_:=(hs2.2 _ (by omega) (by simp)).trans hf1
  simp
  cases hv : validR c now with
  | false=>
   have hB : chB now s c=(c.old,false):=by unfold chB; rw [if_neg c1,if_neg (by simp [hv])]
   rw [hB] at hq
   obtain ⟨f1,f2⟩:=fin S2 false hs02
   simp [k0,kf,rowStore,okc,splice,hfS,hfS']
   exact hq _ _ f2 f1 (h.old.stays f2 (fun m hm hk=>by simp at hk; subst hk; exact hvo m hm hf.2.2)) hvo
  | true=>
   have hord : ordOk c.cg.n now=true:=by
    unfold validR at hv
    rw [if_pos hck] at hv
    simp only [Bool.and_eq_true] at hv
    exact hv.1
   simp [k0]
   refine price_ok (h.stay0 hs02) (h6.stay0 hs02) ok hord fun S3 hs3=>?_
   have hs03:=hs02.tr0 hs3
   have hn3:=hs3.1
   have k3 : S3.get S.next=_:=(hs3.2 _ (by omega) (by simp)).trans k0
   simp [k3]
   refine open_ok (h.stay0 hs03) ok.n0 ok.n1 ok.ar ok.cgOk ok.p0 fun S4 v hs4 hTk hLe _ _ hlm hB' _=>?_
   have hs04:=hs03.tr0 hs4
   have hn4:=hs4.1
   have k4 : S4.get S.next=_:=(hs4.2 _ (by omega) (by simp)).trans k3
   simp [k4]
   refine total_ok hTk hLe ok.cgSm fun S5 hs5 _=>?_
   have hs05 : Same S S5 []:=hs04.trans hs5 (fun m hm hl=>by simp at hm; omega)
   have hn5:=hs5.1
   have k5 : S5.get S.next=_:=(hs5.2 _ (by omega) (by simp; omega)).trans k4
   have kf5 : S5.get fc=_:=(hs05.2 _ hfl (by simp)).trans hff
   have hveq : veq [.int .i64,.int .i64] true (cV (c.cg.rcost now)) (cV c.cg.goal.total)=some (decide (c.cg.rcost now=c.cg.goal.total)):=keyInt2.eq _ _
   by_cases he : c.cg.rcost now=c.cg.goal.total
   ·have hB : chB now s c=(now,s):=by unfold chB; rw [if_neg c1,if_pos ⟨hv,he⟩]
    rw [hB] at hq
    rw [decide_eq_true he] at hveq
    simp [k5,hveq]
    exact hq _ _ (hs05.mono (by simp)) (hT0.stays hs05 (by simp) (by simp) (by simp) (by simp)) (h6.stay0 hs05) hown
   ·have hB : chB now s c=(c.old,false):=by unfold chB; rw [if_neg c1,if_neg (fun h=>he h.2)]
    rw [hB] at hq
    rw [decide_eq_false he] at hveq
    obtain ⟨f1,f2⟩:=fin S5 false hs05
    simp [k5,hveq,kf5,rowStore,okc,splice,hfS,hfS']
    exact hq _ _ f2 f1 (h.old.stays f2 (fun m hm hk=>by simp at hk; subst hk; exact hvo m hm hf.2.2)) hvo
theorem chsB {P : List Nat} {d tc ac fc i : Nat} {vt : Value} {vals : List Value} {told : List (List Int)} (hd : d≠tc∧d≠ac∧d≠fc∧d∈P) (hf : fc≠tc∧fc≠ac∧fc∈P) : ChsAt 31 #[ptr tc,ptr ac,ptr fc] [fc] P d (ToldAt P tc ac fc i vt vals told) (chB told[i]!) where
 m1 s c h:=by unfold chB; simp [h]
 len s c h:=by
  have ok:=check_ok h
  have h0:=ok.p0
  have h1:=ok.p1
  unfold chB
  rw [if_neg (by omega)]
  split
  ·rename_i hv
   have hv:=hv.1
   unfold validR at hv
   rw [if_pos h] at hv
   simp only [Bool.and_eq_true] at hv
   obtain ⟨e1,_,_⟩:=ordOk_iff.1 hv.1
   have e : c.cg.n=c.n.toNat:=rfl
   have:=ok.olen
   simp only [e1]
   omega
  ·exact h1
 sm s c h:=by
  have ok:=check_ok h
  have h0:=ok.p0
  have h1:=ok.n1
  have h2:=ok.olen
  unfold chB
  rw [if_neg (by omega)]
  split
  ·rename_i hv
   have hv:=hv.1
   unfold validR at hv
   rw [if_pos h] at hv
   simp only [Bool.and_eq_true] at hv
   obtain ⟨e1,_,_⟩:=ordOk_iff.1 hv.1
   have e : c.cg.n=c.n.toNat:=rfl
   simp only [e1]
   omega
  ·simp only; omega
 stay s S S' h hs:=h.stays hs (by simp; exact Ne.symm hd.1) (by simp; exact Ne.symm hd.2.1) (by simp; exact Ne.symm hd.2.2.1) (by simp [hd.2.2.2])
 call s S c va vo hI h hvo hc hlt Q hq:=told_ok hI h hvo hc hf hq

def checkL (told : List (List Int)) : Nat→Wk→List Stp→Bool × Int
 | _,_,[]=>(true,0)
 | i,w,st :: l=>match doW (chB told[i]!) true w st with
  | .error e=>(false,e)
  | .ok r=>if r.2=true then checkL told (i + 1) r.1 l else (false,0)
def checkW (n : Int) (ar : List Arw) (order : List Int) (l : List Stp) (told : List (List Int)) : Bool × Int:=
 if beginE n ar order l.length≠0 then (false,beginE n ar order l.length) else if told.length≠l.length then (false,0) else checkL told 0 ⟨n,ar,order,0⟩ l
theorem begin_facts {n : Int} {ar : List Arw} {order : List Int} {len : Nat} (hb : beginE n ar order len=0) : checkR n ar=0∧ordOk n.toNat order=true∧len≤200:=by
 unfold beginE at hb
 by_cases c1 : checkR n ar=0
 ·rw [if_neg (by simp [c1])] at hb
  cases c2 : ordOk n.toNat order with
  | true=>
   rw [if_neg (by simp [c2])] at hb
   refine ⟨c1,rfl,?_⟩
   split at hb
   ·assumption
   ·cases hb
  | false=>rw [if_pos c2] at hb; cases hb
 ·rw [if_pos c1] at hb
  exact absurd hb c1
theorem check_fail {S' : AS} {e o : Nat} {x y : Int} {b : Bool} {env : List Value} {Q : En→AS→Prop} (he : S'.get e=some (.row [.int .i64 x] 30 true true)) (ho : S'.get o=some (.row [.bool b] 4 true true)) (hne : e≠o) (hy : y≠0) (h6 : env[8]?=some (ptr o)) (h7 : env[9]?=some (ptr e))
  (hq : Q (.ret (.tuple #[.bool false,.int .i64 y])) ((S'.put e (.row [.int .i64 y] 30 true true)).put o (.row [.bool (b && decide (y=0))] 4 true true))) :
  OutX G [.cell 8 none,.cell 9 none] Q (.panic (rfs y)) { env:=env,defers:=[dfr 20 [ptr e] [],dfr 30 [] [ptr o,ptr e]] } S':=by
 rw [outX_panic]
 refine caught_some he ?_
 refine check1_leave (x:=y) (b:=b) (by rw [AS.get_put_self]) (by rw [AS.get_put_ne _ _ (Ne.symm hne)]; exact ho) ?_
 refine leave_nil ?_
 refine ⟨rfl,.tuple #[.bool false,.int .i64 y],?_,hq⟩
 simp [resV,loadRV,List.getD,h6,h7,hne,AS.get_put_ne,rowLoad,hy]
theorem check_done {S' : AS} {e o : Nat} {b : Bool} {env : List Value} {Q : En→AS→Prop} (he : S'.get e=some (.row [.int .i64 0] 30 true true)) (ho : S'.get o=some (.row [.bool b] 4 true true)) (hne : e≠o) (h6 : env[8]?=some (ptr o)) (h7 : env[9]?=some (ptr e))
  (hq : Q (.ret (.tuple #[.bool b,.int .i64 0])) (S'.put o (.row [.bool (b && decide ((0 : Int)=0))] 4 true true))) :
  OutX G [.cell 8 none,.cell 9 none] Q .ret { env:=env,defers:=[dfr 20 [ptr e] [],dfr 30 [] [ptr o,ptr e]] } S':=by
 rw [outX_ret]
 refine caught_none ?_
 refine check1_leave he ho ?_
 refine leave_nil ?_
 refine ⟨rfl,.tuple #[.bool b,.int .i64 0],?_,hq⟩
 simp [resV,loadRV,List.getD,h6,h7,hne,AS.get_put_ne,rowLoad,he]
theorem CheckWalk_ok {S : AS} {va vo vl vt : Value} {vals : List Value} {n : Int} {ar : List Arw} {order : List Int} {L : List (Stp × Value)} {told : List (List Int)} (h : As S va ar) (ho : Is S vo order) (hL : Sts S vl L) (hT : Ls S vt vals told) {Q : En→AS→Prop}
  (hq : ∀ S',Same S S' []→Q (.ret (.tuple #[.bool (checkW n ar order (L.map (·.1)) told).1,.int .i64 (checkW n ar order (L.map (·.1)) told).2])) S') : Call G 10 [.agg #[.int .i64 n,va],vo,vl,vt] S Q:=by
 obtain ⟨la,lcap,rfl⟩:=hL.shape
 obtain ⟨ta,tcap,rfl⟩:=hT.shape
 refine call_runX (G:=G) rfl (ext_none (by decide)) ?_
 simp [-outX_panic,-outX_ret,placeIn,splice,rowStore,okc]
 generalize hS1 : AS.put (AS.put (AS.bump (AS.put (AS.put (AS.bump (AS.put (AS.put (AS.put (AS.put (AS.bump S 4) _ _) _ _) _ _) _ _) 1) _ _) _ _) 1) _ _) _ _=S1
 have s1 : Same S S1 []:=by
  rw [← hS1]
  exact (((((((((((Same.refl _ _).bu).pn (by omega)).pn (by omega)).pn (by omega)).pn (by omega)).bu).pn (by omega)).pn (by omega)).bu).pn (by omega)).pn (by omega)
 have g0 : S1.get S.next=some (.row [.int .i64 n,va] 24 true true):=by
  rw [← hS1]; repeat (first | rw [AS.get_put_self] | rw [AS.get_put_ne _ _ (by omega)] | rw [AS.get_bump])
 have g1 : S1.get (S.next + 1)=some (.row [.slice ta told.length tcap] 29 true true):=by
  rw [← hS1]; repeat (first | rw [AS.get_put_self] | rw [AS.get_put_ne _ _ (by omega)] | rw [AS.get_bump])
 have g2 : S1.get (S.next + 1 + 1)=some (.row [.bool false] 4 true true):=by
  rw [← hS1]; repeat (first | rw [AS.get_put_self] | rw [AS.get_put_ne _ _ (by omega)] | rw [AS.get_bump])
 have g3 : S1.get (S.next + 1 + 1 + 1)=some (.row [.int .i64 0] 30 true true):=by
  rw [← hS1]; repeat (first | rw [AS.get_put_self] | rw [AS.get_put_ne _ _ (by omega)] | rw [AS.get_bump])
 have g4 : S1.get (S.next + 4)=some (.row [.int .i64 0] 3 true true):=by
  rw [← hS1]; repeat (first | rw [AS.get_put_self] | rw [AS.get_put_ne _ _ (by omega)] | rw [AS.get_bump])
 have g5 : S1.get (S.next + 4 + 1)=some (.row [.bool true] 4 true true):=by
  rw [← hS1]; repeat (first | rw [AS.get_put_self] | rw [AS.get_put_ne _ _ (by omega)] | rw [AS.get_bump])
 have hn1 : S1.next=S.next + 4 + 1 + 1:=by rw [← hS1]; rfl
 clear hS1
 obtain ⟨fc,hfc⟩ : ∃ x,x=S.next + 4 + 1:=⟨_,rfl⟩
 obtain ⟨ac,hac⟩ : ∃ x,x=S.next + 4:=⟨_,rfl⟩
 obtain ⟨ec,hec⟩ : ∃ x,x=S.next + 1 + 1 + 1:=⟨_,rfl⟩
 obtain ⟨oc,hoc⟩ : ∃ x,x=S.next + 1 + 1:=⟨_,rfl⟩
 obtain ⟨tc,htc⟩ : ∃ x,x=S.next + 1:=⟨_,rfl⟩
 rw [← hfc] at g5
 rw [← hac] at g4
 rw [← hec] at g3
 rw [← hoc] at g2
 rw [← htc] at g1
 rw [← hfc,← hac,← hec,← hoc,← htc]
 have hva:=h.lt
 have hvo:=ho.owns_lt
 simp [-outX_panic,-outX_ret,g0]
 unfold checkW at hq
 rw [List.length_map] at hq
 refine begin_ok (k:=31) (cap:=#[ptr tc,ptr ac,ptr fc]) (h.stay0 s1) (ho.stay0 s1) (fun hb S2 hs2=>?_) (fun hb S2 d vo2 hs2 hd1 hd2 gd hio hown=>?_)
 ·rw [if_pos hb] at hq
  simp [-outX_panic,-outX_ret]
  have hn2:=hs2.1
  refine check_fail (x:=0) (b:=false) ((hs2.2 _ (by omega) (by simp)).trans g3) ((hs2.2 _ (by omega) (by simp)).trans g2) (by omega) hb (by rfl) (by rfl) (hq _ (((s1.tr0 hs2).pn (by omega)).pn (by omega)))
 ·rw [if_neg (by simp [hb])] at hq
  obtain ⟨hck,hord,hl200⟩:=begin_facts hb
  have hn2:=hs2.1
  have hs02:=s1.tr0 hs2
  have k1 : S2.get tc=_:=(hs2.2 _ (by omega) (by simp)).trans g1
  have k2 : S2.get oc=_:=(hs2.2 _ (by omega) (by simp)).trans g2
  have k3 : S2.get ec=_:=(hs2.2 _ (by omega) (by simp)).trans g3
  have k4 : S2.get ac=_:=(hs2.2 _ (by omega) (by simp)).trans g4
  have k5 : S2.get fc=_:=(hs2.2 _ (by omega) (by simp)).trans g5
  have hneo : ec≠oc:=by omega
  have hneo' : oc≠ec:=by omega
  simp [-outX_panic,-outX_ret,k1]
  by_cases c1 : told.length=L.length
  ·rw [if_neg (by simp [c1])] at hq
   simp [-outX_panic,-outX_ret,c1]
   obtain ⟨ol1,ol2,ol3⟩:=ordOk_iff.1 hord
   have hN:=checkR_pos hck
   have htv:=hT.cs.lt
   have hti : ∀ u∈vals,∀ m∈ownsOf u,m < S.next:=fun u hu m hm=>by
    obtain ⟨j,hj,rfl⟩:=List.mem_iff_getElem.1 hu
    have hj' : j < told.length:=by have:=hT.len; omega
    exact (hT.pt j _ _ (List.getElem?_eq_getElem hj) (List.getElem?_eq_getElem hj')).owns_lt m hm
   generalize hst : L.map (·.1)=sts at hq
   have hsl : sts.length=L.length:=by rw [← hst,List.length_map]
   have hsi : ∀ i (hi : i < L.length),sts[i]'(by omega)=L[i].1:=fun i hi=>by subst hst; simp
   refine run_loop (fun j a' S'=>∃ i w va' vo' x,j=L.length - i∧i≤L.length∧Same S S' []∧S2.next≤S'.next∧WkAt S' [d,ac,fc] d 31 #[ptr tc,ptr ac,ptr fc] w va' vo'∧S'.get tc=some (.row [.slice ta told.length tcap] 29 true true)∧S'.get oc=some (.row [.bool false] 4 true true) ∧
     S'.get ec=some (.row [.int .i64 0] 30 true true)∧S'.get ac=some (.row [.int .i64 x] 3 true true)∧S'.get fc=some (.row [.bool true] 4 true true)∧checkL told 0 ⟨n,ar,order,0⟩ sts=checkL told i w (sts.drop i) ∧
     Has a' 40 [(2,.slice la L.length lcap),(8,ptr oc),(9,ptr ec),(10,ptr ac),(11,ptr fc),(12,ptr d),(26,.slice la L.length lcap),(27,.int .i64 L.length),(28,.int .i64 i)] [dfr 20 [ptr ec] [],dfr 30 [] [ptr oc,ptr ec]]) _
    ⟨0,_,va,vo2,0,rfl,by omega,hs02,by omega,⟨gd,h.stay0 hs02,hio,fun m hm hP=>?_,fun m hm hP=>?_,hck,by simp,by simp only; omega,by simp,fun m hP=>?_⟩,k1,k2,k3,k4,k5,by simp,⟨rfl,rfl,by simp⟩⟩ ?_
   ·have:=hva m hm
    simp at hP
    omega
   ·have:=hown m hm
    simp at hP
    omega
   ·simp at hP
    omega
   rintro _ R hR _ S3 ⟨i,w,va3,vo3,x0,rfl,hi,hs3,hn3,hW,r1,r2,r3,r4,r5,hwl,hA⟩
   obtain ⟨x,rfl⟩:=hA.lit
   by_cases hlt : i < L.length
   ·have hwS:=wrapS (show i < 9223372036854775807 by omega)
    have hlt' : (i : Int) < L.length:=by omega
    have hstep : checkL told i w (sts.drop i)=match doW (chB told[i]!) true w L[i].1 with
      | .error e=>(false,e)
      | .ok r=>if r.2=true then checkL told (i + 1) r.1 (sts.drop (i + 1)) else (false,0):=by
     rw [List.drop_eq_getElem_cons (by omega),hsi i hlt]; rfl
    have hLi:=hL.pt L[i] (List.getElem_mem hlt)
    obtain ⟨p,q,cells,et,wr,ex,h1,h2,h3,h4,h5,_⟩:=(hL.stay0 hs3).at hlt
    generalize hx : L[i]=x at hstep hLi h5
    obtain ⟨st,sv⟩:=x
    obtain ⟨hsa,hsn1,hsn2⟩:=hLi
    simp only at hstep hsn1 hsn2 hsa
    obtain ⟨sa,scap,rfl⟩:=hsa.shape
    have hsvl:=hsa.lt
    have hane : ac≠S3.next:=by omega
    have hane' : S3.next≠ac:=by omega
    simp [-outX_panic,-outX_ret,fillF,pickL,hlt,hlt',h1,h2,h5,stC,rowStore,okc,splice,r4,hane,hane']
    generalize hS4 : AS.put (AS.put (AS.put (AS.bump S3 1) _ _) _ _) _ _=S4
    have s34 : Same S3 S4 [ac]:=by rw [← hS4]; exact ((((Same.refl _ _).bu).pn (by omega)).pn (by omega)).po (by simp)
    have g4 : S4.get S3.next=some (.row [.int .u8 st.kind,.int .i64 st.guest,.int .i64 st.n,.slice sa st.ar.length scap] 38 true true):=by rw [← hS4,AS.get_put_ne _ _ hane',AS.get_put_self]
    have a4 : S4.get ac=some (.row [.int .i64 i] 3 true true):=by rw [← hS4,AS.get_put_self]
    have hn4 : S4.next=S3.next + 1:=by rw [← hS4]; rfl
    clear hS4
    have p1 : S4.get tc=_:=(s34.2 _ (by omega) (by simp; omega)).trans r1
    have p2 : S4.get oc=_:=(s34.2 _ (by omega) (by simp; omega)).trans r2
    have p3 : S4.get ec=_:=(s34.2 _ (by omega) (by simp; omega)).trans r3
    have p5 : S4.get fc=_:=(s34.2 _ (by omega) (by simp; omega)).trans r5
    have hs04 : Same S S4 []:=hs3.trans s34 (fun m hm hl=>by simp at hm; omega)
    have hW4:=hW.stays s34 (by simp; omega) (by simp)
    have hPne : ∀ m,m < S.next→m∉[d,ac,fc]:=fun m hm hP=>by simp at hP; omega
    have hTo : ToldAt [d,ac,fc] tc ac fc i (.slice ta told.length tcap) vals told true S4:=⟨p1,a4,p5,hT.stay0 hs04,by omega,by omega,by omega,fun m hm=>hPne m (htv m hm),fun u hu m hm=>hPne m (hti u hu m hm),by omega⟩
    refine do_ok (st:=st) (w:=w) (s:=true) (chsB (d:=d) (by simp; omega) (by simp; omega)) (by simp) (by simp; omega) hW4 hTo ⟨hsa.stay0 hs04,fun m hm=>hPne m (hsvl m hm),hsn1,hsn2⟩ ?_
    cases hdo : doW (chB told[i]!) true w st with
    | error er=>
     rw [hdo] at hstep
     rw [hwl,hstep] at hq
     simp only at hq
     intro S5 hs5
     have hn5:=hs5.1
     simp [-outX_panic,-outX_ret]
     refine check_fail (x:=0) (b:=false) ((hs5.2 _ (by omega) (by simp; omega)).trans p3) ((hs5.2 _ (by omega) (by simp; omega)).trans p2) hneo (doW_err hdo) (by rfl) (by rfl) (hq _ (((hs04.trans hs5 (fun m hm hl=>by simp at hm; omega)).pn (by omega)).pn (by omega)))
    | ok r=>
     obtain ⟨w',fine⟩:=r
     rw [hdo] at hstep
     simp only at hstep
     intro S5 va5 vo5 hs5 hW5 hT5
     have hn5:=hs5.1
     have hs05 : Same S S5 []:=hs04.trans hs5 (fun m hm hl=>by simp at hm; omega)
     have q1 : S5.get oc=_:=(hs5.2 _ (by omega) (by simp; omega)).trans p2
     have q2 : S5.get ec=_:=(hs5.2 _ (by omega) (by simp; omega)).trans p3
     cases fine with
     | true=>
      rw [if_pos rfl] at hstep
      simp [-outX_panic,-outX_ret,hT5.f,hwS]
      exact hR _ _ _ (by omega) ⟨i + 1,w',va5,vo5,_,rfl,by omega,hs05,by omega,hW5,hT5.t,q1,q2,hT5.a,hT5.f,by rw [hwl,hstep],⟨rfl,rfl,by simp⟩⟩
     | false=>
      rw [if_neg (by simp)] at hstep
      rw [hwl,hstep] at hq
      simp only at hq
      simp [-outX_panic,-outX_ret,hT5.f,q1,q2,rowStore,okc,splice,hneo,hneo']
      refine check_done (b:=false) (by rw [AS.get_put_self]) (by rw [AS.get_put_ne _ _ hneo',AS.get_put_self]) hneo (by rfl) (by rfl) (hq _ (((hs05.pn (by omega)).pn (by omega)).pn (by omega)))
   ·obtain rfl : i=L.length:=by omega
    have hcl : checkL told 0 ⟨n,ar,order,0⟩ sts=(true,0):=by
     rw [hwl,List.drop_eq_nil_of_le (by omega)]; rfl
    rw [hcl] at hq
    simp only at hq
    simp [-outX_panic,-outX_ret,fillF,pickL,r2,r3,rowStore,okc,splice,hneo,hneo']
    refine check_done (b:=true) (by rw [AS.get_put_self]) (by rw [AS.get_put_ne _ _ hneo',AS.get_put_self]) hneo (by rfl) (by rfl) (hq _ (((hs3.pn (by omega)).pn (by omega)).pn (by omega)))
  ·rw [if_pos c1] at hq
   have c1' : ¬ (told.length : Int)=L.length:=by omega
   simp [-outX_panic,-outX_ret,c1,c1',k2,k3,rowStore,okc,splice,hneo,hneo']
   refine check_done (b:=false) (by rw [AS.get_put_self]) (by rw [AS.get_put_ne _ _ hneo',AS.get_put_self]) hneo (by rfl) (by rfl) (hq _ (((hs02.pn (by omega)).pn (by omega)).pn (by omega)))

end Go.Gx.Z
