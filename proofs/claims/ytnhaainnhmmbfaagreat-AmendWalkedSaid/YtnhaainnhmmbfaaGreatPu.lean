/-
  The program's Moves.
-/
import Derived.Test.YtnhaainnhmmbfaaGreatPt
set_option linter.all false
set_option linter.deprecated false
namespace Go.Gx.Z
open Go.Gx Go.Proofs
set_option maxRecDepth 100000
set_option maxHeartbeats 2000000

theorem app0 {T : AS} {v : Value} {l : List Int} {p fr : Nat} (h : Is T v l) (hl : l.length≤100000) (hp : T.get p=some (.row [] 3 true true)) (hpn : p < T.next) (hfr : fr < T.next) :
  ∃ T' a cap,appV T fr 3 1 8 (.slice (some ⟨p,0,none⟩) 0 0) v=some (.slice a l.length cap,T')∧Oc T' (.slice a l.length cap) l∧Same T T' [fr]∧T'.next=T.next∧∀ m∈ownsOf (.slice a l.length cap),m=p∨m=fr:=by
 have hy:=h.cs.cells
 rw [ints_len] at hy
 have hsl : SlAt T 3 (.slice (some ⟨p,0,none⟩) 0 0) (ones []):=.inr ⟨p,true,rfl,by simpa [ones] using hp,hpn⟩
 by_cases hl0 : l=[]
 ·subst hl0
  refine ⟨T,some ⟨p,0,none⟩,0,?_,.inr ⟨p,0,[],true,rfl,rfl,rfl,by simpa using hp,hpn,by omega⟩,.refl _ _,rfl,fun m hm=>.inl (by simpa [ownsOf] using hm)⟩
  unfold appV
  rw [hy]
  simp
 ·have hne : ones l≠[]:=by
   intro e
   have:=congrArg List.length e
   simp at this
   exact hl0 this
  have hnil : ∀ (q : AS) (c : List Value) (e : TypeId) (w x : Bool),True:=fun _ _ _ _ _=>trivial
  have e1 : appV T fr 3 1 8 (.slice (some ⟨p,0,none⟩) 0 0) v=some (vs fr 0 l.length l.length,T.put fr (.row (ints l) 3 true false)):=by
   unfold appV
   rw [hy]
   have : 0 < l.length:=List.length_pos_iff.2 hl0
   simp only []
   rw [if_neg (by omega),if_pos ⟨by omega,by omega,by omega⟩,hp]
   simp
  refine ⟨_,some ⟨fr,0,none⟩,l.length,e1,.inr ⟨fr,l.length,[],false,rfl,by simp,rfl,by rw [AS.get_put_self]; simp,by simpa using hfr,hl⟩,same_put _ _ _,rfl,fun m hm=>.inr (by simpa [ownsOf] using hm)⟩

theorem rless_ok {S : AS} {a b : Cost} {Q : En→AS→Prop} (hq : Q (.ret (.bool (clt a b))) S) : Call G 98 [.int .i64 a.1,.int .i64 a.2,.int .i64 b.1,.int .i64 b.2] S Q:=by
 refine call_run' (G:=G) rfl (ext_none (by decide)) ?_
 unfold clt at hq
 by_cases h1 : a.1 < b.1
 ·simp [h1,undef] at hq ⊢; exact hq
 ·by_cases h2 : a.1=b.1
  ·by_cases h3 : a.2 < b.2
   ·simp [h2,h3,undef] at hq ⊢; exact hq
   ·simp [h2,h3,undef] at hq ⊢; exact hq
  ·simp [h1,h2,undef] at hq ⊢; exact hq
structure BestAt (S : AS) (lo bp : Nat) (vb : Value) (vals : List Value) (b : Best) : Prop where
 row : ∃ e,S.get bp=some (.row [.int .i64 b.1.1,.int .i64 b.1.2,vb] 123 true e)
 lt : bp < S.next
 sl : SlAt S 25 vb (sing vals)
 len : vals.length=b.2.length
 pt : ∀ (i : Nat) (v : Value) (l : List Int),vals[i]?=some v→b.2[i]?=some l→Oc S v l∧∀ m∈ownsOf v,m≠bp∧m∉ownsOf vb
 ne : bp∉ownsOf vb
 hi : lo≤bp∧∀ m∈ownsOf vb,lo≤m
 inn : ∀ v∈vals,∀ m∈ownsOf v,lo≤m
theorem BestAt.stay0 {S S' : AS} {lo bp : Nat} {vb : Value} {vals : List Value} {b : Best} (h : BestAt S lo bp vb vals b) (hs : Same S S' []) : BestAt S' lo bp vb vals b:=
 ⟨by obtain ⟨e,g⟩:=h.row; exact ⟨e,by rw [hs.2 _ h.lt (by simp)]; exact g⟩,Nat.lt_of_lt_of_le h.lt hs.1,h.sl.stays hs (by simp),h.len,fun i v l h1 h2=>⟨(h.pt i v l h1 h2).1.stay0 hs,(h.pt i v l h1 h2).2⟩,h.ne,h.hi,h.inn⟩
theorem BestAt.shape {S : AS} {lo bp : Nat} {vb : Value} {vals : List Value} {b : Best} (h : BestAt S lo bp vb vals b) : ∃ a,vb=.slice a b.2.length b.2.length:=by
 rcases h.sl with ⟨rfl,hn⟩ | ⟨p,ex,rfl,h2,h3⟩
 ·have:=congrArg List.length hn
  rw [sing_len,h.len] at this
  exact ⟨none,by rw [this]; rfl⟩
 ·exact ⟨some ⟨p,0,none⟩,by rw [sing_len,h.len]⟩
structure TailAt (S V : AS) (lo bp : Nat) (vb v2 : Value) (vals2 : List Value) (L : List (List Int)) (cc : Cost) (be : Bool) : Prop where
 same : Same S V [bp]
 row : V.get bp=some (.row [.int .i64 cc.1,.int .i64 cc.2,v2] 123 true be)
 lt : bp < V.next
 sl : SlAt V 25 v2 (sing vals2)
 len : vals2.length=L.length
 pt : ∀ (i : Nat) (v : Value) (l : List Int),vals2[i]?=some v→L[i]?=some l→Oc V v l∧∀ m∈ownsOf v,m≠bp∧m∉ownsOf v2
 sub : ∀ m∈ownsOf v2,m∈ownsOf vb
 inn : ∀ v∈vals2,∀ m∈ownsOf v,lo≤m
theorem TailAt.of {S V : AS} {lo bp : Nat} {vb : Value} {vals : List Value} {b : Best} {cc : Cost} {be : Bool} (h : BestAt S lo bp vb vals b) (hs : Same S V [bp]) (g : V.get bp=some (.row [.int .i64 cc.1,.int .i64 cc.2,vb] 123 true be)) : TailAt S V lo bp vb vb vals b.2 cc be:=
 ⟨hs,g,Nat.lt_of_lt_of_le h.lt hs.1,h.sl.stays hs (fun m hm hk=>by simp at hk; exact h.ne (hk ▸ hm)),h.len,fun i v l h1 h2=>⟨(h.pt i v l h1 h2).1.stays hs fun m hm hk=>((h.pt i v l h1 h2).2 m hm).1 (by simpa using hk),(h.pt i v l h1 h2).2⟩,fun m hm=>hm,h.inn⟩
theorem TailAt.of0 {S V : AS} {lo bp : Nat} {vb : Value} {cc : Cost} {be : Bool} (hl : bp < S.next) (hs : Same S V [bp]) (g : V.get bp=some (.row [.int .i64 cc.1,.int .i64 cc.2,.slice none 0 0] 123 true be)) : TailAt S V lo bp vb (.slice none 0 0) [] [] cc be:=
 ⟨hs,g,Nat.lt_of_lt_of_le hl hs.1,.inl ⟨rfl,rfl⟩,rfl,fun i v l h1 h2=>by simp at h1,by simp [ownsOf],by simp⟩
theorem try_leaf {S0 S : AS} {va vo w vb : Value} {c : Chg} {order : List Int} {bp : Nat} {vals : List Value} {b : Best} (h : ChgAt S0 va vo c) (ok : ChgOk c) (hs0 : Same S0 S []) (hw : Is S w order) (hl : order.length=c.cg.n) (hn : order.Nodup)
  (hwo : ∀ m∈ownsOf w,m≠bp∧m∉ownsOf vb) (hb : BestAt S S0.next bp vb vals b) (hlen : b.2.length + 1≤1000000000000) {Q : En→AS→Prop}
  (hq : ∀ S' vb' vals',Same S S' (bp :: ownsOf vb)→BestAt S' S0.next bp vb' vals' (bstep c.cg.rcost b order)→(∀ m∈ownsOf vb',m∈ownsOf vb∨S.next≤m)→Q (.ret (.tuple #[])) S') :
  Call G 86 [c.val va vo,w,ptr bp] S Q:=by
 have hS:=h.stay0 hs0
 obtain ⟨n,hcn⟩ : ∃ n : Nat,c.n=n:=⟨c.n.toNat,by have:=ok.n0; omega⟩
 have hcg : c.cg.n=n:=by show c.n.toNat=n; omega
 have h24:=ok.n1
 have hol:=ok.olen
 obtain ⟨wa,wcap,rfl⟩:=hw.shape
 refine call_run' (G:=G) rfl (ext_none (by decide)) ?_
 have hnn : ((order.length : Int)=c.n)=True:=eq_true (by omega)
 simp [Chg.val,hnn]
 generalize hS1 : AS.put (AS.bump S 1) _ _=S1
 have s1 : Same S S1 []:=by rw [← hS1]; exact ((Same.refl _ _).bu).pn (by omega)
 have g0 : S1.get S.next=some (.row [.int .i64 c.n,va,vo,.int .i64 c.passed] 41 true true):=by rw [← hS1]; simp
 have hn1 : S1.next=S.next + 1:=by rw [← hS1]; simp
 clear hS1
 refine roffence_ok (hS.arrows.stay0 s1) (hw.stay0 s1) (fun x y=>wt_bd (arrsOk_none ok.ar).1 x y) (by omega) fun S2 hs2=>?_
 have s2:=s1.tr0 hs2
 have hn2:=hs2.1
 have k0 : S2.get S.next=_:=(hs2.2 _ (by omega) (by simp)).trans g0
 simp [k0]
 refine rmoved_ok (hS.old.stay0 s2) (hw.stay0 s2) hn (by omega) (by omega) fun S3 hs3=>?_
 have s3:=s2.tr0 hs3
 have hn3:=hs3.1
 have k1 : S3.get S.next=_:=(hs3.2 _ (by omega) (by simp)).trans k0
 have b3:=hb.stay0 s3
 have w3:=hw.stay0 s3
 obtain ⟨ba,rfl⟩:=b3.shape
 obtain ⟨be,g3⟩:=b3.row
 have hcc : c.cg.rcost order=(offR (wt c.arrows) [] order,movedN c.old order):=rfl
 have w3o : ∀ m∈ownsOf (Value.slice wa order.length wcap),m < S3.next:=w3.owns_lt
 generalize hCC : c.cg.rcost order=cc at *
 have e1 : offR (wt c.arrows) [] order=cc.1:=by rw [hcc]
 have e2 : movedN c.old order=cc.2:=by rw [hcc]
 rw [e1,e2]
 clear hcc e1 e2
 have hcase : (b.2=[]∧bstep c.cg.rcost b order=(cc,b.2 ++ [order]))∨(b.2≠[]∧clt b.1 cc=true∧bstep c.cg.rcost b order=b)∨(b.2≠[]∧clt b.1 cc=false∧clt cc b.1=true∧bstep c.cg.rcost b order=(cc,[] ++ [order])) ∨
   (b.2≠[]∧clt b.1 cc=false∧clt cc b.1=false∧bstep c.cg.rcost b order=(cc,b.2 ++ [order])):=by
  unfold bstep
  rw [hCC]
  by_cases c0 : b.2=[]
  ·exact .inl ⟨c0,by rw [if_neg (by simp [c0]),if_neg (by simp [c0])]⟩
  ·cases c1 : clt b.1 cc with
   | true=>exact .inr (.inl ⟨c0,rfl,by rw [if_pos ⟨c0,rfl⟩]⟩)
   | false=>
    cases c2 : clt cc b.1 with
    | true=>exact .inr (.inr (.inl ⟨c0,rfl,rfl,by rw [if_neg (by simp),if_pos ⟨c0,rfl⟩]; rfl⟩))
    | false=>exact .inr (.inr (.inr ⟨c0,rfl,rfl,by rw [if_neg (by simp),if_neg (by simp)]⟩))
 have hpl : b.2≠[]→0 < b.2.length:=fun h=>List.length_pos_iff.2 h
 have hs3' : Same S S3 (bp :: ownsOf (.slice ba b.2.length b.2.length)):=s3.mono (by simp)
 rcases hcase with ⟨c0,hr⟩ | ⟨c0,c1,hr⟩ | ⟨c0,c1,c2,hr⟩ | ⟨c0,c1,c2,hr⟩
 case' inr.inl=>
  have hp:=hpl c0
  simp [g3,hp]
  refine rless_ok ?_
  simp [c1,g3]
  exact hq S3 _ _ hs3' (by rw [hr]; exact b3) (fun m hm=>.inl hm)
 case' inl=>
  have hp0 : (0 < b.2.length)=False:=eq_false (by rw [c0]; simp)
  simp [-run_draw]
  rw [run_draw]
  simp [-run_draw,g3,hp0,undef]
  rw [run_draw]
  simp [-run_draw,g3,hp0,undef,okc,rowStore,splice]
  generalize hV : AS.put (AS.put S3 _ _) _ _=V
  obtain ⟨v2,vals2,L,tV,hr2,hv2⟩ : ∃ v2 vals2 L,TailAt S3 V S0.next bp (.slice ba b.2.length b.2.length) v2 vals2 L cc be∧bstep c.cg.rcost b order=(cc,L ++ [order])∧L.length≤b.2.length:=
   ⟨_,_,_,TailAt.of b3 (by rw [← hV]; exact ⟨by simp,fun m hm hn=>by simp at hn; rw [AS.get_put_ne _ _ hn,AS.get_put_ne _ _ hn]⟩) (by rw [← hV,AS.get_put_self]),hr,Nat.le_refl _⟩
  clear hV
 case' inr.inr.inl=>
  have hp:=hpl c0
  simp [g3,hp]
  refine rless_ok ?_
  simp [c1,g3,hp]
  refine rless_ok ?_
  simp [-run_draw,c2,g3,undef,okc,rowStore,splice]
  generalize hV : AS.put (AS.put (AS.put S3 _ _) _ _) _ _=V
  obtain ⟨v2,vals2,L,tV,hr2,hv2⟩ : ∃ v2 vals2 L,TailAt S3 V S0.next bp (.slice ba b.2.length b.2.length) v2 vals2 L cc be∧bstep c.cg.rcost b order=(cc,L ++ [order])∧L.length≤b.2.length:=
   ⟨_,_,_,TailAt.of0 b3.lt (by rw [← hV]; exact ⟨by simp,fun m hm hn=>by simp at hn; rw [AS.get_put_ne _ _ hn,AS.get_put_ne _ _ hn,AS.get_put_ne _ _ hn]⟩) (by rw [← hV,AS.get_put_self]),hr,Nat.zero_le _⟩
  clear hV
 case' inr.inr.inr=>
  have hp:=hpl c0
  simp [g3,hp]
  refine rless_ok ?_
  simp [c1,g3,hp]
  refine rless_ok ?_
  simp [-run_draw,c2,g3,undef,okc,rowStore,splice]
  generalize hV : AS.put (AS.put S3 _ _) _ _=V
  obtain ⟨v2,vals2,L,tV,hr2,hv2⟩ : ∃ v2 vals2 L,TailAt S3 V S0.next bp (.slice ba b.2.length b.2.length) v2 vals2 L cc be∧bstep c.cg.rcost b order=(cc,L ++ [order])∧L.length≤b.2.length:=
   ⟨_,_,_,TailAt.of b3 (by rw [← hV]; exact ⟨by simp,fun m hm hn=>by simp at hn; rw [AS.get_put_ne _ _ hn,AS.get_put_ne _ _ hn]⟩) (by rw [← hV,AS.get_put_self]),hr,Nat.le_refl _⟩
  clear hV
 all_goals
  have hcV:=tV.row
  have hVn:=tV.same.1
  have hcl : bp < V.next:=tV.lt
  have wV : Is V (.slice wa order.length wcap) order:=w3.stays tV.same (fun m hm=>by have:=(hwo m hm).1; simpa using this)
  have hv2l:=tV.sl.owns_lt
  have hLl:=tV.len
  obtain ⟨v2a,hv2s⟩ : ∃ a,v2=.slice a L.length L.length:=by
   rcases tV.sl with ⟨rfl,hn⟩ | ⟨p,ex,rfl,h2,h3⟩
   ·have:=congrArg List.length hn
    rw [sing_len,hLl] at this
    exact ⟨none,by rw [this]; rfl⟩
   ·exact ⟨some ⟨p,0,none⟩,by rw [sing_len,hLl]⟩
  have hsW : Same V ((V.bump 4).put V.next (.row [] 3 true true)) []:=((Same.refl _ _).bu).pn (by omega)
  obtain ⟨T',ca,cap',f1,f2,f3,f4,f5⟩:=app0 (T:=(V.bump 4).put V.next (.row [] 3 true true)) (p:=V.next) (fr:=V.next + 1) (wV.stay0 hsW) (by omega) (by simp) (by simp) (by simp)
  simp at f4
  have hsX : Same V (T'.put (V.next + 2) (.row [.slice ca order.length cap'] 25 true true)) []:=(hsW.trans f3 (fun m hm hl=>by simp at hm; omega)).pn (by omega)
  obtain ⟨S',v',q1,q2,q3,q4,q5⟩:=appV_cells (S:=T'.put (V.next + 2) (.row [.slice ca order.length cap'] 25 true true)) (fr:=V.next + 3) (e:=25) (bytes:=24) (v:=v2) (y:=.slice (some ⟨V.next + 2,0,none⟩) 1 1) (cs:=vals2) (ds:=[.slice ca order.length cap'])
   (tV.sl.stays hsX (by simp)) (by simp [srcCells]) (by simp [okc]) (by simp; omega) (by omega) (by simp; omega) (fun hk=>by have:=hv2l _ hk; omega)
  simp at q4
  have hbv : bp∉ownsOf v2:=fun hk=>b3.ne (tV.sub _ hk)
  have gT : T'.get bp=some (.row [.int .i64 cc.1,.int .i64 cc.2,v2] 123 true be):=(f3.2 _ (by simp; omega) (by simp; omega)).trans (by rw [AS.get_put_ne _ _ (by omega),AS.get_bump]; exact hcV)
  have gX : (T'.put (V.next + 2) (.row [.slice ca order.length cap'] 25 true true)).get bp=some (.row [.int .i64 cc.1,.int .i64 cc.2,v2] 123 true be):=by rw [AS.get_put_ne _ _ (by omega)]; exact gT
  have gS : S'.get bp=some (.row [.int .i64 cc.1,.int .i64 cc.2,v2] 123 true be):=(q3.2 _ (by simp; omega) (by simp only [List.mem_cons,not_or]; exact ⟨by omega,hbv⟩)).trans gX
  have nb2 : (bp=V.next + 2)=False:=eq_false (by omega)
  have hv's : ∃ a n k,v'=.slice a n k:=by
   rcases q2 with ⟨rfl,_⟩ | ⟨p,ex,rfl,_⟩
   ·exact ⟨_,_,_,rfl⟩
   ·exact ⟨_,_,_,rfl⟩
  obtain ⟨v'a,v'n,v'k,hv's⟩:=hv's
  rw [hv's] at q1
  rw [run_draw]
  simp [hcV,placeIn,f1,gT,nb2,q1,gS,okc,rowStore,splice]
  rw [← hv's]
  generalize hFF : S'.put bp _=F
  have hF1 : Same S' F [bp]:=by rw [← hFF]; exact same_put _ _ _
  have gF : F.get bp=some (.row [.int .i64 cc.1,.int .i64 cc.2,v'] 123 true be):=by rw [← hFF,AS.get_put_self]
  clear hFF
  have hF1n:=hF1.1
  have hXn:=hsX.1
  have sVF : Same V F (bp :: ownsOf v2):=⟨by simp at hXn; omega,fun m hm hn=>by
   simp only [List.mem_cons,not_or] at hn
   rw [hF1.2 m (by omega) (by simpa using hn.1),q3.2 m (by simp; omega) (by simp only [List.mem_cons,not_or]; exact ⟨by omega,hn.2⟩),hsX.2 m hm (by simp)]⟩
  have hSS : S0.next≤S.next:=hs0.1
  have hS3 : S.next≤S3.next:=s3.1
  have sSF : Same S F (bp :: ownsOf (Value.slice ba b.2.length b.2.length)):=⟨by have:=sVF.1; omega,fun m hm hn=>by
   have hn':=hn
   simp only [List.mem_cons,not_or] at hn
   rw [sVF.2 m (by omega) (by simp only [List.mem_cons,not_or]; exact ⟨hn.1,fun hk=>hn.2 (tV.sub m hk)⟩),tV.same.2 m (by omega) (by simpa using hn.1),s3.2 m hm (by simp)]⟩
  have hbb : bp∉ownsOf v':=fun hk=>by
   rcases q5 _ hk with h' | h'
   ·exact hbv h'
   ·omega
  refine hq F v' (vals2 ++ [.slice ca order.length cap']) sSF ?_ (fun m hm=>?_)
  ·rw [hr2]
   refine ⟨⟨be,gF⟩,by omega,q2.stays hF1 (fun m hm hk=>by simp at hk; exact hbb (hk ▸ hm)),by simp [hLl],fun i v l h1 h2=>?_,hbb,⟨hb.hi.1,fun m hm=>?_⟩,fun v hv m hm=>?_⟩
   ·by_cases hi : i < vals2.length
    ·rw [List.getElem?_append_left hi] at h1
     simp only at h2
     rw [List.getElem?_append_left (by omega)] at h2
     obtain ⟨p1,p2⟩:=tV.pt i v l h1 h2
     refine ⟨p1.stays sVF (fun m hm=>by simp only [List.mem_cons,not_or]; exact p2 m hm),fun m hm=>⟨(p2 m hm).1,fun hk=>?_⟩⟩
     have:=p1.is.owns_lt m hm
     rcases q5 m hk with h' | h'
     ·exact (p2 m hm).2 h'
     ·omega
    ·have hie : i=vals2.length:=by
      have:=(List.getElem?_eq_some_iff.1 h1).1
      simp at this
      omega
     subst hie
     rw [List.getElem?_concat_length] at h1
     simp only [hLl] at h2
     rw [List.getElem?_concat_length] at h2
     cases h1
     cases h2
     have o1 : Oc (T'.put (V.next + 2) (.row [.slice ca order.length cap'] 25 true true)) (.slice ca order.length cap') order:=f2.stays (same_put _ _ _) (fun m hm=>by have:=f5 m hm; simp; omega)
     have o2 : Oc S' (.slice ca order.length cap') order:=o1.stays q3 (fun m hm hk=>by
      have h5:=f5 m hm
      simp only [List.mem_cons] at hk
      rcases hk with hk | hk
      ·omega
      ·have:=hv2l m hk; omega)
     refine ⟨o2.stays hF1 (fun m hm=>by have:=f5 m hm; simp; omega),fun m hm=>⟨by have:=f5 m hm; omega,fun hk=>?_⟩⟩
     have h5:=f5 m hm
     rcases q5 m hk with h' | h'
     ·have:=hv2l m h'; omega
     ·omega
   ·rcases q5 m hm with h' | h'
    ·exact hb.hi.2 m (tV.sub m h')
    ·omega
   ·rcases List.mem_append.1 hv with hv | hv
    ·exact tV.inn v hv m hm
    ·simp at hv
     subst hv
     have:=f5 m hm
     omega
  ·rcases q5 m hm with h' | h'
   ·exact .inl (tV.sub m h')
   ·right; omega

theorem bstep_len (cost : List Int→Cost) (b : Best) (o : List Int) : (bstep cost b o).2.length≤b.2.length + 1:=by
 unfold bstep
 split
 ·omega
 ·split <;> simp
theorem bfold_len (cost : List Int→Cost) : ∀ (l : List (List Int)) (b : Best),(l.foldl (bstep cost) b).2.length≤b.2.length + l.length
 | [],b=>by simp
 | o :: l,b=>by
  have h1:=bfold_len cost l (bstep cost b o)
  have h2:=bstep_len cost b o
  simp only [List.foldl_cons,List.length_cons]
  omega
theorem flat_split {β : Type} (g : Nat→List β) {n i : Nat} (hi : i < n) : ((List.range i).flatMap g).length + (g i).length≤((List.range n).flatMap g).length:=by
 have h1 : List.range n=List.range i ++ (i :: (List.range n).drop (i + 1)):=by
  conv=>lhs; rw [← List.take_append_drop i (List.range n)]
  rw [List.take_range,Nat.min_eq_left (by omega),List.drop_eq_getElem_cons (by simpa using hi),List.getElem_range]
 conv=>rhs; rw [h1]
 rw [List.flatMap_append,List.flatMap_cons,List.length_append,List.length_append]
 omega
theorem try_ok {S0 : AS} {va vo : Value} {c : Chg} (h : ChgAt S0 va vo c) (ok : ChgOk c) : ∀ (k : Nat) (S : AS) (w vb : Value) (order : List Int) (bp : Nat) (vals : List Value) (b : Best),Same S0 S []→Is S w order→order.length + k=c.cg.n→order.Nodup →
  (∀ m∈ownsOf w,m≠bp∧m∉ownsOf vb)→BestAt S S0.next bp vb vals b→b.2.length + (permsR c.cg.n k order).length≤1000000000000→∀ {Q : En→AS→Prop},
  (∀ S' vb' vals',Same S S' (bp :: ownsOf vb)→BestAt S' S0.next bp vb' vals' ((permsR c.cg.n k order).foldl (bstep c.cg.rcost) b)→(∀ m∈ownsOf vb',m∈ownsOf vb∨S.next≤m)→Q (.ret (.tuple #[])) S') →
  Call G 86 [c.val va vo,w,ptr bp] S Q
 | 0,S,w,vb,order,bp,vals,b,hs0,hw,hl,hn,hwo,hb,hlen,Q,hq=>try_leaf h ok hs0 hw (by omega) hn hwo hb (by simpa [permsR] using hlen) (by simpa [permsR] using hq)
 | k + 1,S,w,vb,order,bp,vals,b,hs0,hw,hl,hn,hwo,hb,hlen,Q,hq=>by
  have IH:=try_ok h ok k
  have hS:=h.stay0 hs0
  obtain ⟨n,hcn⟩ : ∃ n : Nat,c.n=n:=⟨c.n.toNat,by have:=ok.n0; omega⟩
  have hcg : c.cg.n=n:=by show c.n.toNat=n; omega
  have h24:=ok.n1
  obtain ⟨wa,wcap,hws⟩:=hw.shape
  subst hws
  obtain ⟨g,hg⟩ : ∃ g : Nat→List (List Int),g=fun (x : Nat)=>if (x : Int)∈order then [] else permsR c.cg.n k (order ++ [(x : Int)]):=⟨_,rfl⟩
  have hpr : permsR c.cg.n (k + 1) order=(List.range n).flatMap g:=by rw [hg,← hcg]; rfl
  rw [hpr] at hq hlen
  refine call_run' (G:=G) rfl (ext_none (by decide)) ?_
  have hnn : ((order.length : Int)=n)=False:=eq_false (by omega)
  have hnn' : (order.length=n)=False:=eq_false (by omega)
  simp [Chg.val,hcn,hnn,hnn']
  generalize hS1 : AS.put (AS.bump S 1) _ _=S1
  have s1 : Same S S1 []:=by rw [← hS1]; exact ((Same.refl _ _).bu).pn (by omega)
  have g0 : S1.get S.next=some (.row [.int .i64 n,va,vo,.int .i64 c.passed] 41 true true):=by rw [← hS1]; simp
  have hn1 : S1.next=S.next + 1:=by rw [← hS1]; simp
  clear hS1
  have hvbl:=hb.sl.owns_lt
  have hbl:=hb.lt
  refine run_loop (fun m a' S'=>∃ j vb' vals',m=n - j∧j≤n∧Same S S' (bp :: ownsOf vb)∧S.next < S'.next∧S'.get S.next=some (.row [.int .i64 n,va,vo,.int .i64 c.passed] 41 true true)∧BestAt S' S0.next bp vb' vals' (((List.range j).flatMap g).foldl (bstep c.cg.rcost) b) ∧
   (∀ m∈ownsOf vb',m∈ownsOf vb∨S.next < m)∧Has a' 106 [(0,.agg #[.int .i64 n,va,vo,.int .i64 c.passed]),(1,.slice wa order.length wcap),(2,ptr bp),(3,ptr S.next),(8,.int .i64 j)]) _ ⟨0,vb,vals,rfl,by omega,s1.mono (by simp),by omega,g0,hb.stay0 s1,fun m hm=>.inl hm,⟨rfl,rfl,by simp⟩⟩ ?_
  rintro _ R hR _ S2 ⟨j,vb2,vals2,rfl,hj,s2,hn2,g2,b2,sub2,hA⟩
  obtain ⟨x,rfl⟩:=hA.lit
  have w2 : Is S2 (.slice wa order.length wcap) order:=hw.stays s2 (fun m hm=>by simp only [List.mem_cons,not_or]; exact hwo m hm)
  have hs02 : Same S0 S2 []:=hs0.trans s2 (fun m hm hl=>by
   rcases List.mem_cons.1 hm with h' | h'
   ·have:=hb.hi.1; omega
   ·have:=hb.hi.2 m h'; omega)
  by_cases hlt : j < n
  ·have hwS:=wrapS (show j < 9223372036854775807 by omega)
   simp [fillF,pickL,g2,hlt]
   refine has_ok w2 ?_
   have hrf:=range_flat g j
   by_cases hc : (j : Int)∈order
   ·have hgj : g j=[]:=by rw [hg]; simp [hc]
    simp [hc,hwS]
    exact hR _ _ _ (by omega) ⟨j + 1,vb2,vals2,rfl,by omega,s2,hn2,g2,by rw [hrf,hgj,List.append_nil]; exact b2,sub2,⟨rfl,rfl,by simp⟩⟩
   ·have hgj : g j=permsR c.cg.n k (order ++ [(j : Int)]):=by rw [hg]; simp [hc]
    have hbl2:=b2.lt
    have hv2l:=b2.sl.owns_lt
    have hsW : Same S2 ((S2.bump 4).put S2.next (.row [] 3 true true)) []:=((Same.refl _ _).bu).pn (by omega)
    obtain ⟨T',ca,cap',f1,f2,f3,f4,f5⟩:=app0 (T:=(S2.bump 4).put S2.next (.row [] 3 true true)) (p:=S2.next) (fr:=S2.next + 1) (w2.stay0 hsW) (by omega) (by simp) (by simp) (by simp)
    simp at f4
    have hsX : Same S2 (T'.put (S2.next + 2) (.row [.int .i64 (j : Int)] 3 true true)) []:=(hsW.trans f3 (fun m hm hl=>by simp at hm; omega)).pn (by omega)
    have f2' : Oc (T'.put (S2.next + 2) (.row [.int .i64 (j : Int)] 3 true true)) (.slice ca order.length cap') order:=f2.stays (same_put _ _ _) (fun m hm=>by have:=f5 m hm; simp; omega)
    obtain ⟨T2,ca2,cap2,q1,q2,q3,q4,q5⟩:=f2'.app1 (fr:=S2.next + 3) (y:=S2.next + 2) (x:=(j : Int)) (by omega) (AS.get_put_self _ _ _) (by simp; omega)
    simp at q4
    have gT : T'.get S.next=some (.row [.int .i64 n,va,vo,.int .i64 c.passed] 41 true true):=(f3.2 _ (by simp; omega) (by simp; omega)).trans (by rw [AS.get_put_ne _ _ (by omega),AS.get_bump]; exact g2)
    have hsT : Same S2 T2 []:=⟨by omega,fun m hm _=>by
     rw [q3.2 m (by simp; omega) (fun hk=>by
      rcases List.mem_cons.1 hk with h' | h'
      ·omega
      ·have:=f5 m h'; omega),hsX.2 m hm (by simp)]⟩
    have gT2 : T2.get S.next=some (.row [.int .i64 n,va,vo,.int .i64 c.passed] 41 true true):=(hsT.2 _ (by omega) (by simp)).trans g2
    have nb1 : (S.next=S2.next + 2)=False:=eq_false (by omega)
    simp [hc,g2,placeIn,splice,f1,q1,gT,gT2,nb1]
    rw [show Value.agg #[.int .i64 n,va,vo,.int .i64 c.passed]=c.val va vo by unfold Chg.val; rw [hcn]]
    have hsn : S.next∉ownsOf vb2:=fun hk=>by
     rcases sub2 _ hk with h' | h'
     ·have:=hvbl _ h'; omega
     ·omega
    have hlen1 : ∀ (l : List Int) (y : Int),(l ++ [y]).length=l.length + 1:=fun l y=>by simp
    refine IH T2 (.slice ca2 (order.length + 1) cap2) vb2 (order ++ [(j : Int)]) bp vals2 _ (hs02.tr0 hsT) q2.is (by rw [hlen1]; omega) (by rw [List.nodup_append]; exact ⟨hn,by simp,fun a ha b hb e=>by simp at hb; subst hb; exact hc (e ▸ ha)⟩) (fun m hm=>?_) (b2.stay0 hsT) ?_ fun S5 vb5 vals5 hs5 hb5 hsub5=>?_
    ·have hm2 : S2.next≤m:=by
      rcases q5 m hm with h' | h'
      ·omega
      ·have:=f5 m h'; omega
     exact ⟨by omega,fun hk=>by have:=hv2l m hk; omega⟩
    ·have e1:=bfold_len c.cg.rcost ((List.range j).flatMap g) b
     have e2:=flat_split g hlt
     rw [hgj] at e2
     omega
    have hn5:=hs5.1
    have hnT:=hsT.1
    have g5 : S5.get S.next=some (.row [.int .i64 n,va,vo,.int .i64 c.passed] 41 true true):=(hs5.2 _ (by omega) (by simp only [List.mem_cons,not_or]; exact ⟨by omega,hsn⟩)).trans gT2
    have hval : c.val va vo=Value.agg #[.int .i64 n,va,vo,.int .i64 c.passed]:=by unfold Chg.val; rw [hcn]
    simp [g5,hwS,hval]
    refine hR _ _ _ (by omega) ⟨j + 1,vb5,vals5,rfl,by omega,⟨by have:=s2.1; omega,fun m hm hn'=>?_⟩,by omega,g5,by rw [hrf,hgj,List.foldl_append]; exact hb5,fun m hm=>?_,⟨rfl,rfl,by simp⟩⟩
    ·simp only [List.mem_cons,not_or] at hn'
     rw [hs5.2 m (by omega) (by
      simp only [List.mem_cons,not_or]
      exact ⟨hn'.1,fun hk=>by
       rcases sub2 m hk with h' | h'
       ·exact hn'.2 h'
       ·omega⟩),hsT.2 m (by omega) (by simp),s2.2 m hm (by simp only [List.mem_cons,not_or]; exact hn')]
    ·rcases hsub5 m hm with h' | h'
     ·exact sub2 m h'
     ·right; omega
  ·have hje : j=n:=by omega
   subst hje
   simp [fillF,pickL,g2]
   exact hq S2 vb2 vals2 s2 b2 (fun m hm=>by
    rcases sub2 m hm with h' | h'
    ·exact .inl h'
    ·right; omega)

theorem flat_len {α β : Type} {g : α→List β} {m : Nat} : ∀ (l : List α),(∀ x∈l,(g x).length≤m)→(l.flatMap g).length≤l.length * m
 | [],_=>by simp
 | a :: l,h=>by
  have h1:=flat_len l fun x hx=>h x (by simp [hx])
  have h2:=h a (by simp)
  rw [List.flatMap_cons,List.length_append,List.length_cons,Nat.succ_mul]
  omega
theorem permsR_len (n : Nat) : ∀ (k : Nat) (b : List Int),(permsR n k b).length≤n ^ k
 | 0,b=>by simp [permsR]
 | k + 1,b=>by
  have:=flat_len (g:=fun (x : Nat)=>if (x : Int)∈b then [] else permsR n k (b ++ [(x : Int)])) (m:=n ^ k) (List.range n) (fun x _=>by
   split
   ·simp
   ·exact permsR_len n k _)
  rw [List.length_range] at this
  show ((List.range n).flatMap _).length≤_
  rw [Nat.pow_succ,Nat.mul_comm]
  exact this
theorem rBests_ok {S : AS} {va vo : Value} {c : Chg} (h : ChgAt S va vo c) (ok : ChgOk c) {Q : En→AS→Prop}
  (hq : ∀ S' bp vb vals,Same S S' []→BestAt S' S.next bp vb vals (c.cg.goal.total,c.cg.bests)→Q (.ret (ptr bp)) S') : Call G 65 [c.val va vo] S Q:=by
 have cok:=ok.cgOk
 obtain ⟨oa,ocap,hov⟩:=h.old.shape
 obtain ⟨p,hp⟩ : ∃ p : Nat,c.passed=p:=⟨c.passed.toNat,by have:=ok.p0; omega⟩
 have hpl : p≤c.old.length:=by have:=ok.p1; omega
 refine call_run' (G:=G) rfl (ext_none (by decide)) ?_
 simp [Chg.val,hp,-run_draw,placeIn]
 generalize hS1 : AS.put (AS.bump (AS.put (AS.bump S _) _ _) _) _ _=S1
 have s1 : Same S S1 []:=by rw [← hS1]; exact ((((Same.refl _ _).bu).pn (by omega)).bu).pn (by omega)
 have g0 : S1.get S.next=some (.row [.int .i64 c.n,va,vo,.int .i64 p] 41 true true):=by rw [← hS1]; simp
 have gb : S1.get (S.next + 1)=some (.row [.int .i64 0,.int .i64 0,.slice none 0 0] 123 true true):=by rw [← hS1]; simp
 have hn1 : S1.next=S.next + 2:=by rw [← hS1]; simp
 clear hS1
 obtain ⟨v',f1,f2,f3⟩:=(h.old.stay0 s1).slc (lo:=none) (hi:=some (.int .i64 p)) (i:=0) (j:=p) (.inl ⟨rfl,rfl⟩) (.inr rfl) (by omega) hpl
 rw [List.drop_zero] at f2
 have hfll : (c.old.take p).length=p:=by rw [List.length_take]; omega
 have hfr : c.cg.front=c.old.take p:=by show c.old.take c.passed.toNat=_; rw [hp]; rfl
 generalize c.old.take p=fo at *
 obtain ⟨fa,fcap,hfs⟩:=f2.shape
 subst hfs
 rw [run_draw]
 simp [g0,f1]
 have hfl:=len_free cok
 have hkf : c.cg.tk.f=c.cg.free.length:=rfl
 have hfn:=front_nodup cok
 rw [hfr] at hfl hfn
 have hcn : (c.cg.n : Int)=c.n:=by show (c.n.toNat : Int)=c.n; have:=ok.n0; omega
 have h8:=ok.am
 have h24:=ok.n1
 have hpl12 : (permsR c.cg.n c.cg.tk.f fo).length≤1000000000000:=by
  refine Nat.le_trans (permsR_len _ _ _) ?_
  have e1 : c.cg.n ^ c.cg.tk.f≤24 ^ c.cg.tk.f:=Nat.pow_le_pow_left (by omega) _
  have e2 : 24 ^ c.cg.tk.f≤24 ^ 8:=Nat.pow_le_pow_right (by omega) (by omega)
  have e3 : 24 ^ 8≤1000000000000:=by decide
  omega
 rw [show Value.agg #[.int .i64 c.n,va,vo,.int .i64 p]=c.val va vo by unfold Chg.val; rw [hp]]
 refine try_ok h ok c.cg.tk.f S1 (.slice fa fo.length fcap) (.slice none 0 0) fo (S.next + 1) [] ((0,0),[]) s1 f2 (by rw [hkf]; exact hfl) hfn (fun m hm=>⟨by have:=h.old.owns_lt m (f3 m hm); omega,by simp [ownsOf]⟩)
  ⟨⟨true,gb⟩,by omega,.inl ⟨rfl,rfl⟩,rfl,fun i v l h1 h2=>by simp at h1,by simp [ownsOf],⟨by omega,by simp [ownsOf]⟩,by simp⟩ (by simpa using hpl12) fun S2 vb vals hs2 hb2 hsub=>?_
 have e:=ref_bests cok (c0:=(0,0))
 rw [hfr] at e
 rw [e] at hb2
 have g2 : S2.get S.next=_:=(hs2.2 _ (by omega) (by simp [ownsOf])).trans g0
 have hval : c.val va vo=Value.agg #[.int .i64 c.n,va,vo,.int .i64 p]:=by unfold Chg.val; rw [hp]
 simp [g2,f1,hval]
 exact hq S2 (S.next + 1) vb vals (s1.trans hs2 (fun m hm hl=>by simp [ownsOf] at hm; omega)) hb2

end Go.Gx.Z
