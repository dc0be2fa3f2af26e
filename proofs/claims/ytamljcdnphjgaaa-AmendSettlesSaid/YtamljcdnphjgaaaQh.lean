/-
  AmendCounts.
-/
import Derived.Test.YtamljcdnphjgaaaQg
import Derived.Test.YtamljcdnphjgaaaPm
set_option linter.all false
set_option linter.deprecated false
set_option linter.unusedSimpArgs false
set_option linter.unusedVariables false
namespace Go.Gx.A
open Go.Gx Go.Proofs
set_option maxRecDepth 100000
set_option linter.all false
set_option maxHeartbeats 4000000
theorem settledV_len (c : Chg) : (settledV c).length ≤ 100000:=by
 unfold settledV
 split
 ·rename_i hc
  have ok:=check_ok hc
  have h1:=settled_len ok.cgOk
  have h2 : c.cg.n * c.cg.n ≤ 24 * 24:=Nat.mul_le_mul ok.cgSm.n ok.cgSm.n
  omega
 ·simp
end Go.Gx.A
namespace Go.Gx.A
open Go.Gx Go.Proofs
set_option maxRecDepth 100000
set_option linter.all false
set_option maxHeartbeats 4000000
theorem sless_ok {S : AS} {a b : Int × Int} {Q : En→AS→Prop} (hq : Q (.ret (.bool (clt a b))) S) : Call G 53 [.int .i64 a.1,.int .i64 a.2,.int .i64 b.1,.int .i64 b.2] S Q:=by
 refine call_run' (G:=G) rfl (ext_none (by decide)) ?_
 unfold clt at hq
 by_cases h1 : a.1 < b.1
 ·simp [h1,undef] at hq ⊢; exact hq
 ·by_cases h2 : a.1=b.1
  ·simp [h1,h2,undef] at hq ⊢; exact hq
  ·simp [h1,h2,undef] at hq ⊢; exact hq
theorem plt_clt {a b : Int × Int} (h : plt a b) : clt a b=true:=by
 rw [clt_iff]
 exact h
theorem half_eq {n k : Nat} {c : Prop} [Decidable c] (he : k * 2=n * (n - 1) ↔ c) : decide ((k : Int)=((n * (n - 1) / 2 : Nat) : Int))=decide c:=by
 refine decide_eq_decide.2 ?_
 rw [← he]
 have h2 : (n * (n - 1)) % 2=0:=by
  rcases Nat.mod_two_eq_zero_or_one n with h | h
  ·rw [Nat.mul_mod,h,Nat.zero_mul,Nat.zero_mod]
  ·rw [Nat.mul_mod,show (n - 1) % 2=0 from by omega,Nat.mul_zero,Nat.zero_mod]
 omega
theorem tdiv_half {n : Nat} (h : n ≤ 24) : IntKind.i64.wrap (((n : Int) * ((n : Int) - 1)).tdiv 2)=((n * (n - 1) / 2 : Nat) : Int)∧IntKind.i64.wrap ((n : Int) * ((n : Int) - 1))=(n : Int) * ((n : Int) - 1)∧IntKind.i64.wrap ((n : Int) - 1)=(n : Int) - 1:=by
 have h1 : IntKind.i64.wrap ((n : Int) - 1)=(n : Int) - 1:=wrap64 (by omega) (by omega)
 have h0 : (n : Int) * ((n : Int) - 1)=((n * (n - 1) : Nat) : Int):=by
  cases n with
  | zero=>rfl
  | succ n=>simp
 have hb : n * (n - 1) ≤ 24 * 24:=Nat.mul_le_mul h (by omega)
 refine ⟨?_,by rw [wrap64 (by omega) (by omega)],h1⟩
 rw [h0]
 have : (((n * (n - 1) : Nat) : Int)).tdiv 2=((n * (n - 1) / 2 : Nat) : Int):=by
  rw [Int.tdiv_eq_ediv_of_nonneg (by omega)]
  rfl
 rw [this,wrap64 (by omega) (by omega)]
theorem settles_walk {S : AS} {va vo : Value} {c : Chg} (h : ChgAt S va vo c) : Call G 20 [c.val va vo] S fun e _=>e=.ret (.bool true):=by
 refine call_run' (G:=G) rfl (ext_none (by decide)) ?_
 have al : ∀ (S' : AS) (R : En→AS→Prop),R (.ret (.bool true)) S'→Call G 23 [] S' R:=fun S' R h=>alive_ok h
 simp [Chg.val]
 generalize hS1 : AS.put (AS.bump S 1) _ _=S1
 have s1 : Same S S1 []:=by rw [← hS1]; exact ((Same.refl _ _).bu).pn (by omega)
 have g0 : S1.get S.next=some (.row [.int .i64 c.n,va,vo,.int .i64 c.passed] 27 true true):=by rw [← hS1]; simp
 have hn1 : S1.next=S.next + 1:=by rw [← hS1]; simp
 clear hS1
 refine Few_ok (h.stay0 s1) fun S2 b hs2=>?_
 have s2:=s1.tr0 hs2
 have hn2:=hs2.1
 have g2 : S2.get S.next=_:=(hs2.2 _ (by omega) (by simp)).trans g0
 cases b with
 | false=>
  simp
  refine al _ _ ?_
  simp
 | true=>
  simp [g2]
  refine Ways_ok (h.stay0 s2) fun S3 hs3=>?_
  have s3:=s2.tr0 hs3
  have hn3:=hs3.1
  have g3 : S3.get S.next=_:=(hs3.2 _ (by omega) (by simp)).trans g2
  simp [g3]
  refine Settled_ok (h.stay0 s3) fun S4 v hs4 hv hvo=>?_
  have s4:=s3.tr0 hs4
  have hn4:=hs4.1
  have g4 : S4.get S.next=_:=(hs4.2 _ (by omega) (by simp)).trans g3
  have sb : Same S4 (S4.bump 1) []:=(Same.refl _ _).bu
  simp [g4]
  refine Amend_ok' ((h.stay0 s4).stay0 sb) fun S5 w k hs5 hw hk hown=>?_
  have hn5:=hs5.1
  simp at hn5
  have hs45:=sb.tr0 hs5
  have s5:=s4.tr0 hs45
  have g5 : S5.get S.next=_:=(hs45.2 _ (by omega) (by simp)).trans g4
  obtain ⟨wa,wc,hws⟩:=hw.shape
  obtain ⟨ka,kc,hks⟩:=hk.shape
  simp [hws,hks,okc,rowStore,splice]
  generalize hS6 : AS.put (AS.put S5 _ _) _ _=S6
  have hs6 : Same S5 S6 [S4.next]:=by rw [← hS6]; exact ⟨by simp,fun m hm hn=>by simp at hn; rw [AS.get_put_ne _ _ hn,AS.get_put_ne _ _ hn]⟩
  have gm : S6.get S4.next=some (.row [.slice wa (amdR c).order.length wc,.int .i64 (amdR c).off,.int .i64 (amdR c).mov,.slice ka (amdR c).kept.length kc] 44 true true):=by rw [← hS6,AS.get_put_self]
  clear hS6
  have hn6:=hs6.1
  have hs46 : Same S4 S6 []:=hs45.trans hs6 (fun m hm hl=>by simp at hm; omega)
  have s6:=s4.tr0 hs46
  have g6 : S6.get S.next=_:=(hs6.2 _ (by omega) (by simp; omega)).trans g5
  have hv6:=hv.stays hs46 (by simp)
  have hw6 : Is S6 w (amdR c).order:=hw.stays hs6 (fun m hm=>by have:=hown m (List.mem_append_left _ hm); simp at this ⊢; omega)
  obtain ⟨oa,hvs⟩:=hv6.shape
  simp [g6]
  refine refCheckC_ok (h.stay0 s6) fun S7 hs7=>?_
  have hn7:=hs7.1
  have g7 : S7.get S.next=_:=(hs7.2 _ (by omega) (by simp)).trans g6
  have gm7 : S7.get S4.next=_:=(hs7.2 _ (by omega) (by simp)).trans gm
  have hv7:=hv6.stays hs7 (by simp)
  have hw7:=hw6.stay0 hs7
  by_cases hc : c.check=0
  rotate_left
  ·simp [hc]
   refine al _ _ ?_
   have e1 : waysV c=0:=if_neg hc
   have e2 : (settledV c).length=0:=by rw [show settledV c=[] from if_neg hc]; rfl
   simp [e1,hvs,e2,undef]
  have ok:=check_ok hc
  have cok:=ok.cgOk
  have hbl:=bests_len ok
  have hbpos : 0 < c.cg.bests.length:=List.length_pos_iff.2 (bests_ne c.cg)
  have e1 : waysV c=c.cg.bests.length:=if_pos hc
  have e2 : settledV c=c.cg.settled:=if_pos hc
  have e3 : amdR c=c.cg.amd:=if_pos hc
  obtain ⟨N,hN⟩ : ∃ N : Nat,c.n=(N : Int):=⟨c.n.toNat,by have:=ok.n0; omega⟩
  have hcn : c.cg.n=N:=by show c.n.toNat=N; rw [hN]; rfl
  have hN24 : N ≤ 24:=by have:=ok.n1; omega
  have hsl:=settledV_len c
  rw [e2] at hv7 hvs hsl
  rw [e3] at hw7 gm7 hws
  have hone:=settled_one cok
  rw [hcn] at hone
  have hhalf:=half_eq hone
  obtain ⟨t1,t2,t3⟩:=tdiv_half hN24
  have hasc:=settled_asc c.cg
  have hmem : ∀ p ∈ c.cg.settled,p ∈ prsO c.cg.amd.order:=fun p hp=>(mem_settled cok).1 hp _ (List.mem_of_getElem? (bests_head c.cg))
  have hnd:=amd_nodup cok
  generalize c.cg.settled=L at *
  generalize c.cg.bests.length=nb at *
  rw [hN] at g7
  have hb1 : decide ((nb : Int)=1)=decide (nb=1):=decide_eq_decide.2 (by omega)
  generalize N * (N - 1) / 2=X at *
  have hE:=hhalf.trans hb1.symm
  have hnb : ¬ (nb : Int) < 1:=by omega
  simp [hc,e1,e2,hvs,g7,hnb,undef,t1,t2,t3,hE]
  rw [hvs] at hv7
  refine run_loop (fun j a' S'=>∃ i,j=L.length - i∧i ≤ L.length∧Same S7 S' []∧Has a' 140 [(5,.slice oa L.length L.length),(7,ptr S4.next),(91,.slice oa L.length L.length),(92,.int .i64 L.length),(93,.int .i64 i)]) _ ⟨0,rfl,by omega,.refl _ _,⟨rfl,rfl,by simp⟩⟩ ?_
  rintro _ R hR _ S8 ⟨i,rfl,hi,hs8,hA⟩
  obtain ⟨x,rfl⟩:=hA.lit
  have hn8:=hs8.1
  by_cases hlt : i < L.length
  ·have hwS:=wrapS (show i < 9223372036854775807 by omega)
   obtain ⟨p,ex,rfl,g1,hp1,hld⟩:=hv7.get hlt
   have g18 : S8.get p=_:=(hs8.2 _ hp1 (by simp)).trans g1
   have gm8 : S8.get S4.next=_:=(hs8.2 _ (by omega) (by simp)).trans gm7
   have hin:=List.getElem_mem hlt
   have hsub:=mem_prsO.1 (hmem _ hin)
   have hne:=prsO_ne hnd (hmem _ hin)
   generalize hpp : L[i]=pp at *
   obtain ⟨p1,p2⟩:=pp
   simp only at hsub hne
   have ne1 : ¬ S4.next=S8.next:=by omega
   have ne2 : ¬ p=S8.next:=by omega
   have ne3 : ¬ p=S8.next + 1:=by omega
   have ne4 : ¬ S4.next=S8.next + 1:=by omega
   simp [fillF,pickL,hlt,g18,hld,hpp,okc,rowStore,splice,hne,placeIn,ne1,ne2,ne3,ne4,gm8]
   have hsx : ∀ o1 o2 o3,Same S8 (((((S8.bump 1).put S8.next o1).put S8.next o2).bump 1).put (S8.next + 1) o3) []:=fun o1 o2 o3=>(((((Same.refl _ _).bu).pn (by omega)).pn (by omega)).bu).pn (by omega)
   have hw8:=(hw7.stay0 hs8).stay0 (hsx (AObj.row [Value.int IntKind.i64 0,Value.int IntKind.i64 0] 81 true true) (AObj.row [Value.int IntKind.i64 p1,Value.int IntKind.i64 p2] 81 true true) (AObj.row [Value.int IntKind.i64 p1,Value.int IntKind.i64 p2] 3 true true))
   rw [hws] at hw8
   refine inside_ok (l:=[p1,p2]) (Is.row (p:=S8.next + 1) (wr:=true) (ex:=true) (by simp) (by simp) (by simp)) hw8 ?_
   rw [insG_sub hsub]
   match i,hlt,hwS,hpp with
   | 0,hlt,hwS,hpp=>
    simp [ne1,ne2,ne3,ne4,gm8,g18,hne,undef]
    exact hR _ _ _ (by omega) ⟨1,rfl,by omega,hs8.tr0 (hsx _ _ _),⟨rfl,rfl,by simp [show IntKind.i64.wrap 1=1 from rfl]⟩⟩
   | t + 1,hlt,hwS,hpp=>
    have hlt' : t < L.length:=by omega
    have hcl:=plt_clt (List.pairwise_iff_getElem.1 hasc t (t + 1) hlt' hlt (by omega))
    rw [hpp] at hcl
    have hwt : IntKind.i64.wrap (t : Int)=(t : Int):=wrap64 (by omega) (by omega)
    have hc1 : (flat2 L)[t * 2]?=some (.int .i64 L[t].1):=by
     rw [flat2_get L (t * 2) (by omega)]
     have e1 : t * 2 / 2=t:=by omega
     have e2 : t * 2 % 2=0:=by omega
     rw [e1,e2]
     simp [enc2,hlt']
    have hc2 : (flat2 L)[t * 2 + 1]?=some (.int .i64 L[t].2):=by
     rw [flat2_get L (t * 2 + 1) (by omega)]
     have e1 : (t * 2 + 1) / 2=t:=by omega
     have e2 : (t * 2 + 1) % 2=1:=by omega
     rw [e1,e2]
     simp [enc2,hlt']
    simp [ne1,ne2,ne3,ne4,gm8,g18,hne,undef,hwt,hlt',hc1,hc2]
    refine sless_ok (a:=L[t]) (b:=(p1,p2)) ?_
    rw [hcl]
    simp [ne1,ne2,ne3,ne4,gm8,g18,hne,undef,hwt,hlt',hc1,hc2]
    refine hR _ _ _ (by omega) ⟨t + 1 + 1,rfl,by omega,hs8.tr0 (hsx _ _ _),⟨rfl,rfl,by simp at hwS ⊢; exact hwS⟩⟩
  ·obtain rfl : i=L.length:=by omega
   simp [fillF,pickL]
   refine al _ _ ?_
   simp
end Go.Gx.A
