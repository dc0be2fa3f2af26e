/-
  The reference's Prove.
-/
import Derived.Test.YtamljcdnphjgaaaPz
import Derived.Test.YtamljcdnphjgaaaPu
import Derived.Test.YtamljcdnphjgaaaPt
import Derived.Test.YtamljcdnphjgaaaPx
import Derived.Test.YtamljcdnphjgaaaPy
set_option linter.all false
set_option linter.deprecated false
set_option linter.unusedSimpArgs false
set_option linter.unusedVariables false
namespace Go.Gx.A
open Go.Gx Go.Proofs
set_option maxRecDepth 100000
set_option linter.all false
set_option maxHeartbeats 4000000
@[simp] theorem rowLoad1 {v : Value} : rowLoad [v] 0 (some 1)=some (.agg #[v]):=rfl
def Cg.bnds (c : Cg) : List Bnd:=outAll (c.tbl (2 ^ c.free.length)).1 c.goal.total (c.old.length + 1) (2 ^ c.free.length)
def pfR (c : Chg) : List Q4:=if c.check=0 then c.cg.bnds else []
theorem outRow_len (R : Rch) (tot : Cost) (set : Nat) : ∀ k,(outRow R tot set k).length ≤ k
 | 0=>by simp [outRow]
 | k + 1=>by
  have:=outRow_len R tot set k
  have h2 : (outS R tot (set,(k : Int) - 1)).length ≤ 1:=by
   unfold outS
   split
   ·simp
   ·split <;> simp
  simp only [outRow,List.length_append]
  omega
theorem outAll_len (R : Rch) (tot : Cost) (n : Nat) : ∀ j,(outAll R tot n j).length ≤ j * n
 | 0=>by simp [outAll]
 | j + 1=>by
  have:=outAll_len R tot n j
  have h2:=outRow_len R tot j n
  simp only [outAll,List.length_append]
  rw [Nat.succ_mul]
  omega
end Go.Gx.A
namespace Go.Gx.A
open Go.Gx Go.Proofs
set_option maxRecDepth 100000
set_option linter.all false
set_option maxHeartbeats 4000000
def fmR (R : Rch) : Int × Int→Option Value:=fun p=>if 0 ≤ p.1 then (R (p.1.toNat,p.2)).map cV else none
theorem fmR_at (R : Rch) (s : St) : fmR R ((s.1 : Int),s.2)=(R s).map cV:=by
 unfold fmR
 rw [if_pos (by simp only; omega)]
 rfl
theorem fmR_set (R : Rch) (to : St) (d : Cost) : upd1 (fmR R) ((to.1 : Int),to.2) (cV d)=fmR (fun x=>if x=to then some d else R x):=by
 funext p
 unfold upd1 fmR
 by_cases h : p=((to.1 : Int),to.2)
 ·subst h
  simp
 ·rw [if_neg h]
  by_cases h0 : 0 ≤ p.1
  ·rw [if_pos h0,if_pos h0]
   have h2 : ¬ (p.1.toNat,p.2)=to:=fun e=>by
    apply h
    obtain ⟨t1,t2⟩:=to
    simp only [Prod.mk.injEq] at e
    obtain ⟨p1,p2⟩:=p
    simp only [Prod.mk.injEq]
    simp only at e h0
    omega
   simp only [h2,if_false]
  ·rw [if_neg h0,if_neg h0]
def Cg.tblO (c : Cg) (j k : Nat) : List Bnd:=(prRow c.tk c.goal.total (c.tbl j) j k).2
theorem tblO_none {c : Cg} {j k : Nat} (h : c.tblRow j k (j,(k : Int) - 1)=none) : c.tblO j (k + 1)=c.tblO j k:=by
 unfold Cg.tblRow at h
 unfold Cg.tblO
 simp only [prRow,prS,h]
theorem tblO_some {c : Cg} {j k : Nat} {a : Cost} (h : c.tblRow j k (j,(k : Int) - 1)=some a) : c.tblO j (k + 1)=if clt a c.goal.total=true then c.tblO j k ++ [((j : Int),(k : Int) - 1,a.1,a.2)] else c.tblO j k:=by
 unfold Cg.tblRow at h
 unfold Cg.tblO
 simp only [prRow,prS,h]
theorem tbl_out (c : Cg) : (c.tbl (2 ^ c.free.length)).2=c.bnds:=prAll_out (N:=2 ^ c.free.length) _ (Nat.le_refl _)
theorem tblO_len (c : Cg) (j k : Nat) : (c.tblO j k).length ≤ j * (c.old.length + 1) + k:=by
 have h1 : (c.tbl j).2.length ≤ j * (c.old.length + 1):=by
  have : (c.tbl j).2=outAll (c.tbl j).1 c.goal.total (c.old.length + 1) j:=prAll_out (N:=j) _ (Nat.le_refl _)
  rw [this]
  exact outAll_len _ _ _ _
 have h2:=outRow_len (c.tbl j).1 c.goal.total j k
 unfold Cg.tblO
 rw [prRow_out,List.length_append]
 omega
theorem Prove_ok {S : AS} {va vo : Value} {c : Chg} (h : ChgAt S va vo c) {Q : En→AS→Prop}
  (hq : ∀ S' a n,Same S S' []→n=(pfR c).length→Qs S' 131 (.slice a n n) (pfR c)→(∀ m ∈ ownsOf (.slice a n n),S.next ≤ m)→Q (.ret (.tuple #[.agg #[.slice a n n],.int .i64 c.check])) S') : Call G 37 [c.val va vo] S Q:=by
 obtain ⟨oa,ocap,hov⟩:=h.old.shape
 refine call_run' (G:=G) rfl (ext_none (by decide)) ?_
 simp [Chg.val,Nat.add_assoc]
 generalize hS1 : AS.put (AS.put (AS.bump S 2) _ _) _ _=S1
 have s1 : Same S S1 []:=by rw [← hS1]; exact (((Same.refl _ _).bu).pn (by omega)).pn (by omega)
 have g1 : S1.get S.next=some (.row [.int .i64 c.n,va,vo,.int .i64 c.passed] 27 true true):=by rw [← hS1]; simp
 have r1 : S1.get (S.next + 1)=some (.row [.slice none 0 0] 50 true true):=by rw [← hS1]; simp
 have hn1 : S1.next=S.next + 2:=by rw [← hS1]; simp
 clear hS1
 have hval : Value.agg #[.int .i64 c.n,va,vo,.int .i64 c.passed]=c.val va vo:=rfl
 simp [g1,hval]
 refine amendCheck_ok (h.stay0 s1) fun S2 hs2=>?_
 have hn2:=hs2.1
 have s2:=s1.tr0 hs2
 have g2 : S2.get S.next=_:=(hs2.2 _ (by omega) (by simp)).trans g1
 have r2 : S2.get (S.next + 1)=_:=(hs2.2 _ (by omega) (by simp)).trans r1
 by_cases hc : c.check=0
 ·have ok:=check_ok hc
  have sm:=ok.cgSm
  have cok:=ok.cgOk
  have hpf : pfR c=c.cg.bnds:=if_pos hc
  rw [hpf,hc,← tbl_out] at hq
  have hol : c.old.length ≤ 24:=sm.ol
  have hf8 : c.cg.free.length ≤ 8:=by
   have h1:=len_free ok.cgOk
   have h2 : c.cg.n=c.n.toNat:=rfl
   have h3:=ok.am
   have h4 : c.cg.front.length=c.passed.toNat:=by show (c.old.take c.passed.toNat).length=_; rw [List.length_take]; have:=ok.p1; omega
   have:=ok.n0
   have:=ok.p0
   omega
  have hp8 : 2 ^ c.cg.free.length ≤ 2 ^ 8:=Nat.pow_le_pow_right (by omega) hf8
  have hpp : 0 < 2 ^ c.cg.free.length:=Nat.two_pow_pos _
  have htb:=total_bd sm
  have hbb:=base_bd sm
  simp [hc,g2,hval]
  refine open_ok (h.stay0 s2) ok.n0 ok.n1 ok.ar cok ok.p0 fun S3 v hs3 hT hL hvo hva hlm hvB hown=>?_
  have hn3:=hs3.1
  have s3:=s2.tr0 hs3
  have g3 : S3.get S.next=_:=(hs3.2 _ (by omega) (by simp)).trans g2
  have r3 : S3.get (S.next + 1)=_:=(hs3.2 _ (by omega) (by simp)).trans r2
  simp
  have hvl:=hT.lt
  have hb3 : Same S3 (S3.bump 1) []:=.bu (.refl _ _)
  refine total_ok (hT.stay0 hb3) (hL.stay0 hb3 (by omega)) sm fun S4 hs4 hL4=>?_
  have hn4:=hs4.1
  simp at hn4
  have hs34 : Same S3 S4 [v.lm]:=(hb3.mono (by simp) : Same S3 (S3.bump 1) [v.lm]).trans hs4 (fun m h _=>h)
  have s4 : Same S S4 []:=s3.trans hs34 (fun m hm hl=>by simp at hm; omega)
  have hT4:=hT.stay1 hs34
  have r4 : S4.get (S.next + 1)=_:=(hs34.2 _ (by omega) (by simp; omega)).trans r3
  have g4 : S4.get S.next=_:=(hs34.2 _ (by omega) (by simp; omega)).trans g3
  generalize htt : c.cg.goal.total=tot at *
  simp [rowStore,splice,okc,Nat.add_assoc]
  generalize hS5 : AS.bump (AS.put (AS.put S4 _ _) _ _) 2=S5
  have hs45 : Same S4 S5 [S3.next]:=by rw [← hS5]; exact (((Same.refl _ _).po (by simp)).po (by simp)).bu
  have hn5 : S5.next=S4.next + 2:=by rw [← hS5]; simp
  have t5 : S5.get S3.next=some (.row [.int .i64 tot.1,.int .i64 tot.2] 110 true true):=by rw [← hS5]; simp
  clear hS5
  have s5 : Same S S5 []:=s4.trans hs45 (fun m hm hl=>by simp at hm; omega)
  have hT5 : TkAt S5 v c.cg:=hT4.sb ⟨by omega,fun m hm hn=>hs45.2 m (by omega) (by simp; omega)⟩
  refine first_ok hT5 sm fun S6 hs6=>?_
  have hn6:=hs6.1
  have s6:=s5.tr0 hs6
  have t6 : S6.get S3.next=_:=(hs6.2 _ (by omega) (by simp)).trans t5
  have hT6:=hT5.stay0 hs6
  have r6 : S6.get (S.next + 1)=_:=(hs6.2 _ (by omega) (by simp)).trans ((hs45.2 _ (by omega) (by simp; omega)).trans r4)
  have g6 : S6.get S.next=_:=(hs6.2 _ (by omega) (by simp)).trans ((hs45.2 _ (by omega) (by simp; omega)).trans g4)
  have u1 : (S4.next=S6.next)=False:=eq_false (by omega)
  have u2 : (S4.next + 1=S6.next)=False:=eq_false (by omega)
  simp [-msetE_map,rowStore,splice,okc,Nat.add_assoc,hn5,u1,u2]
  generalize hS7 : AS.put (AS.bump (AS.put (AS.put (AS.put (AS.put S6 _ _) _ _) _ _) _ _) 2) _ _=S7
  have h67 : Same S6 S7 [S4.next,S4.next + 1]:=by
   rw [← hS7]
   exact ((((((Same.refl _ _).po (by simp)).po (by simp)).po (by simp)).po (by simp)).bu).pn (by omega)
  have hn7 : S7.next=S6.next + 2:=by rw [← hS7]; simp
  have m7 : MapAt S7 S6.next [.int .i64,.int .i64] true (fun x : Int × Int=>Value.agg #[.int .i64 x.1,.int .i64 x.2]) (fmR fun _=>none):=⟨[],0,by rw [← hS7]; simp,by
   have : fmR (fun _=>none)=fun _=>none:=by funext p; simp [fmR]
   rw [this]; exact Fnd.nil⟩
  clear hS7
  obtain ⟨ob,q1,q2⟩:=m7.mset keyInt2 (0,c.cg.goal.last0) (cV (c.cg.goal.base,0))
  have hR0 : upd1 (fmR fun _=>none) (0,c.cg.goal.last0) (cV (c.cg.goal.base,0))=fmR (R0 (c.cg.goal.base,0) c.cg.goal.last0):=fmR_set (fun _=>none) (0,c.cg.goal.last0) (c.cg.goal.base,0)
  rw [hR0] at q2
  simp only at q1
  rw [q1]
  simp [rowStore,splice,okc,Nat.add_assoc]
  generalize hS8 : AS.put (AS.bump (AS.put (AS.put (AS.put S7 S6.next ob) _ _) _ _) 1) _ _=S8
  have h78 : Same S7 S8 [S6.next,S6.next + 1]:=by
   rw [← hS8]
   exact ((((Same.refl _ _).po (by simp)).po (by simp)).po (by simp)).bu.pn (by omega)
  have hn8 : S8.next=S6.next + 3:=by rw [← hS8]; simp; omega
  have m8 : MapAt S8 S6.next [.int .i64,.int .i64] true (fun x : Int × Int=>Value.agg #[.int .i64 x.1,.int .i64 x.2]) (fmR (R0 (c.cg.goal.base,0) c.cg.goal.last0)):=by
   obtain ⟨es,k,e1,e2⟩:=q2
   refine ⟨es,k,?_,e2⟩
   rw [← hS8,AS.get_put_ne _ _ (by omega),AS.get_bump,AS.get_put_ne _ _ (by omega),AS.get_put_ne _ _ (by omega)]
   exact e1
  have a8 : S8.get (S6.next + 1)=some (.row [.map (some S6.next)] 126 true true):=by rw [← hS8,AS.get_put_ne _ _ (by omega),AS.get_bump,AS.get_put_self]
  have b8 : S8.get S7.next=some (.row [.slice none 0 0] 50 true true):=by rw [← hS8]; simp
  clear hS8
  have h48 : Same S4 S8 [S3.next]:=⟨by omega,fun m hm hn=>by rw [h78.2 m (by omega) (by simp; omega),h67.2 m (by omega) (by simp; omega),hs6.2 m (by omega) (by simp),hs45.2 m hm hn]⟩
  have s8 : Same S S8 []:=s4.trans h48 (fun m hm hl=>by simp at hm; omega)
  have hT8 : TkAt S8 v c.cg:=hT4.sb ⟨by omega,fun m hm hn=>h48.2 m (by omega) (by simp; omega)⟩
  have t8 : S8.get S3.next=_:=(h78.2 _ (by omega) (by simp; omega)).trans ((h67.2 _ (by omega) (by simp; omega)).trans t6)
  have r8 : S8.get (S.next + 1)=_:=(h48.2 _ (by omega) (by simp; omega)).trans r4
  have g8 : S8.get S.next=_:=(h48.2 _ (by omega) (by simp; omega)).trans g4
  refine all_ok hT8 sm ?_
  have htf : c.cg.tk.f=c.cg.free.length:=rfl
  have hwN : IntKind.i64.wrap (((2 ^ c.cg.tk.f - 1 : Nat) : Int) + 1)=((2 ^ c.cg.free.length : Nat) : Int):=by rw [htf,wrap64 (by omega) (by omega)]; omega
  rw [htf] at hwN ⊢
  generalize hN : 2 ^ c.cg.free.length=N at *
  simp [hwN]
  subst hov
  have hdef : ∀ (S' : AS) (ov : Option Addr) (k : Nat) (l : List Bnd) (ns : List Nat),Qs S' 131 (.slice ov k k) l→(∀ m ∈ ns,S'.get m=some (.defd (some []))∧S8.next ≤ m∧m < S'.next)→∀ m ∈ ownsOf (.slice ov k k),m ∉ ns:=fun S' ov k l ns hq hn m hm hk=>by
   rcases hq with ⟨e,_⟩ | ⟨p,ex,e,h2,h3⟩
   ·rw [e] at hm; simp [ownsOf] at hm
   ·rw [e] at hm
    simp [ownsOf] at hm
    subst hm
    have:=(hn _ hk).1
    rw [h2] at this
    cases this
  refine run_loop (fun m a' S'=>∃ j ov k ns,m=N - j∧j ≤ N∧Same S8 S' [S6.next,S7.next]∧MapAt S' S6.next [.int .i64,.int .i64] true (fun x : Int × Int=>Value.agg #[.int .i64 x.1,.int .i64 x.2]) (fmR (c.cg.tbl j).1)∧S'.get S7.next=some (.row [.slice ov k k] 50 true true)∧k=(c.cg.tbl j).2.length∧Qs S' 131 (.slice ov k k) (c.cg.tbl j).2∧(∀ m ∈ ownsOf (.slice ov k k),S8.next ≤ m) ∧
   ns.Nodup∧(∀ m ∈ ns,S'.get m=some (.defd (some []))∧S8.next ≤ m∧m < S'.next) ∧
   Has a' 106 [(1,ptr S.next),(2,ptr (S.next + 1)),(5,ptr v.d),(6,ptr S3.next),(9,ptr (S6.next + 1)),(10,ptr S7.next),(41,.int .i64 N),(42,.int .i64 j)] (dsOf ns)) _ ⟨0,none,0,[],rfl,by omega,.refl _ _,m8,b8,rfl,Qs.nil,by simp [ownsOf],by simp,by simp,⟨rfl,rfl,by simp⟩⟩ ?_
  rintro _ R hR _ S9 ⟨j,ov,k,ns,rfl,hj,s9,m9,b9,hkl,hqs9,hown9,hnd,hns,hA⟩
  obtain ⟨x,rfl⟩:=hA.lit
  have hn9:=s9.1
  by_cases hltj : j < N
  ·have hltj' : (j : Int) < (N : Int):=by omega
   have hwSj:=wrapS (show j < 9223372036854775807 by omega)
   simp [fillF,pickL,hltj,hltj']
   refine run_loop (fun m a' S'=>∃ q ov k ns,m=c.old.length + 1 - q∧q ≤ c.old.length + 1∧Same S8 S' [S6.next,S7.next]∧MapAt S' S6.next [.int .i64,.int .i64] true (fun x : Int × Int=>Value.agg #[.int .i64 x.1,.int .i64 x.2]) (fmR (c.cg.tblRow j q))∧S'.get S7.next=some (.row [.slice ov k k] 50 true true)∧k=(c.cg.tblO j q).length∧Qs S' 131 (.slice ov k k) (c.cg.tblO j q)∧(∀ m ∈ ownsOf (.slice ov k k),S8.next ≤ m) ∧
    ns.Nodup∧(∀ m ∈ ns,S'.get m=some (.defd (some []))∧S8.next ≤ m∧m < S'.next) ∧
    Has a' 106 [(1,ptr S.next),(2,ptr (S.next + 1)),(5,ptr v.d),(6,ptr S3.next),(9,ptr (S6.next + 1)),(10,ptr S7.next),(11,.int .i64 j),(12,.int .i64 ((q : Int) - 1)),(41,.int .i64 N),(42,.int .i64 j)] (dsOf ns)) _ ⟨0,ov,k,ns,rfl,by omega,s9,m9,b9,hkl,hqs9,hown9,hnd,hns,⟨rfl,rfl,by simp⟩⟩ ?_
   clear m9 b9 hkl hqs9 hown9 hnd hns
   rintro _ R2 hR2 _ S10 ⟨q,ov,k,ns,rfl,hq',s10,m10,b10,hkl,hqs10,hown10,hnd,hns,hA⟩
   obtain ⟨y,rfl⟩:=hA.lit
   have hn10:=s10.1
   have g10 : S10.get S.next=_:=(s10.2 _ (by omega) (by simp; omega)).trans g8
   have a10 : S10.get (S6.next + 1)=_:=(s10.2 _ (by omega) (by simp; omega)).trans a8
   have t10 : S10.get S3.next=_:=(s10.2 _ (by omega) (by simp; omega)).trans t8
   by_cases hltq : q < c.old.length + 1
   ·have hltq' : (q : Int) - 1 < c.old.length:=by omega
    have hwq : IntKind.i64.wrap (q : Int)=q:=wrap64 (by omega) (by omega)
    have hwq2 : IntKind.i64.wrap ((q : Int) - 1 + 1)=q:=by rw [show (q : Int) - 1 + 1=q by omega]; exact hwq
    have u3 : (S6.next + 1=S10.next)=False:=eq_false (by omega)
    have hTO:=tblO_len c.cg j q
    have e0 : c.cg.old=c.old:=rfl
    rw [e0] at hTO
    have hk6 : k ≤ 100000:=by
     have : j * (c.old.length + 1) ≤ 256 * 25:=Nat.mul_le_mul (by omega) (by omega)
     omega
    simp [-lookE_map,fillF,pickL,hltq',g10,a10,placeIn,splice,rowStore,okc,u3]
    generalize hSa : AS.bump (AS.put (AS.put (AS.bump S10 1) _ _) _ _) 1=Sa
    have ha : Same S10 Sa []:=by rw [← hSa]; exact ((((Same.refl _ _).bu).pn (by omega)).pn (by omega)).bu
    have hna : Sa.next=S10.next + 2:=by rw [← hSa]; simp
    have c13 : Sa.get S10.next=some (.row [.int .i64 j,.int .i64 ((q : Int) - 1)] 123 true true):=by rw [← hSa,AS.get_bump,AS.get_put_self]
    clear hSa
    have mA : MapAt Sa S6.next [.int .i64,.int .i64] true (fun x : Int × Int=>Value.agg #[.int .i64 x.1,.int .i64 x.2]) (fmR (c.cg.tblRow j q)):=by
     obtain ⟨es,k,e1,e2⟩:=m10
     exact ⟨es,k,by rw [ha.2 _ (by omega) (by simp)]; exact e1,e2⟩
    have lk:=mA.look keyInt2 ((j : Int),(q : Int) - 1) (.agg #[.int .i64 0,.int .i64 0]) true
    have hfa:=fmR_at (c.cg.tblRow j q) (j,(q : Int) - 1)
    simp only at lk hfa
    rw [hfa] at lk
    cases hat : c.cg.tblRow j q (j,(q : Int) - 1) with
    | none=>
     rw [hat] at lk
     simp only [Option.map_none,Option.map_some,Option.getD_none,Option.getD_some,Option.isSome_none,Option.isSome_some,if_true] at lk
     simp [-lookE_map,lk,rowStore,splice,okc,hwq,hwq2]
     generalize hSb : AS.put (AS.put Sa _ _) _ _=Sb
     have hb : Same S10 Sb []:=by rw [← hSb]; exact (ha.pn (by omega)).pn (by omega)
     clear hSb
     have e1:=tblRow_none hat
     have e2:=tblO_none hat
     refine hR2 _ _ _ (by omega) ⟨q + 1,ov,k,ns,rfl,by omega,s10.trans hb (by simp),?_,(hb.2 _ (by omega) (by simp)).trans b10,by rw [e2]; exact hkl,by rw [e2]; exact hqs10.stay0 hb,hown10,hnd,fun m hm=>?_,⟨rfl,rfl,by simp⟩⟩
     ·rw [e1]
      obtain ⟨es,k,f1,f2⟩:=m10
      exact ⟨es,k,by rw [hb.2 _ (by omega) (by simp)]; exact f1,f2⟩
     ·obtain ⟨f1,f2,f3⟩:=hns m hm
      exact ⟨(hb.2 _ f3 (by simp)).trans f1,f2,Nat.lt_of_lt_of_le f3 hb.1⟩
    | some a=>
     rw [hat] at lk
     simp only [Option.map_none,Option.map_some,Option.getD_none,Option.getD_some,Option.isSome_none,Option.isSome_some,if_true] at lk
     simp [-lookE_map,lk,rowStore,splice,okc,hwq,hwq2]
     generalize hSb : AS.put (AS.put Sa _ _) _ _=Sb
     have hb : Same S10 Sb []:=by rw [← hSb]; exact (ha.pn (by omega)).pn (by omega)
     have c14 : Sb.get (S10.next + 1)=some (.row [.int .i64 a.1,.int .i64 a.2] 110 true true):=by rw [← hSb,AS.get_put_self]
     have c13b : Sb.get S10.next=some (.row [.int .i64 j,.int .i64 ((q : Int) - 1)] 123 true true):=by rw [← hSb,AS.get_put_ne _ _ (by omega),AS.get_put_ne _ _ (by omega)]; exact c13
     have hnb : Sb.next=S10.next + 2:=by rw [← hSb]; exact hna
     clear hSb c13 lk mA
     have tb : Sb.get S3.next=_:=(hb.2 _ (by omega) (by simp)).trans t10
     simp [c14,tb]
     refine less_ok (c:=a) (d:=tot) fun Sc hsc=>?_
     have hnc:=hsc.1
     have hc0:=hb.tr0 hsc
     have c13c : Sc.get S10.next=_:=(hsc.2 _ (by omega) (by simp)).trans c13b
     have c14c : Sc.get (S10.next + 1)=_:=(hsc.2 _ (by omega) (by simp)).trans c14
     have b10c : Sc.get S7.next=_:=(hc0.2 _ (by omega) (by simp)).trans b10
     have hTOs:=tblO_some hat
     rw [htt] at hTOs
     have hsmT:=tblRow_sml sm j q _ _ hat
     simp
     refine cut_if (fun a' S'=>∃ ov2 k2,Same Sc S' (S7.next :: ownsOf (.slice ov k k))∧S'.get S7.next=some (.row [.slice ov2 k2 k2] 50 true true)∧k2=(c.cg.tblO j (q + 1)).length∧Qs S' 131 (.slice ov2 k2 k2) (c.cg.tblO j (q + 1))∧(∀ m ∈ ownsOf (.slice ov2 k2 k2),S8.next ≤ m)∧(∀ m ∈ ns,S'.get m=some (.defd (some []))∧S8.next ≤ m∧m < S'.next) ∧
      Has a' 106 [(1,ptr S.next),(2,ptr (S.next + 1)),(5,ptr v.d),(6,ptr S3.next),(9,ptr (S6.next + 1)),(10,ptr S7.next),(11,.int .i64 j),(12,.int .i64 ((q : Int) - 1)),(13,ptr S10.next),(14,ptr (S10.next + 1)),(41,.int .i64 N),(42,.int .i64 j)] (dsOf ns)) ?_ ?_
     ·intro M hM
      have hod:=hdef S10 ov k _ ns hqs10 hns
      have hqc:=hqs10.stay0 hc0
      have nsc : ∀ m ∈ ns,Sc.get m=some (.defd (some []))∧S8.next ≤ m∧m < Sc.next:=fun m hm=>by
       obtain ⟨f1,f2,f3⟩:=hns m hm
       exact ⟨(hc0.2 _ f3 (by simp)).trans f1,f2,by omega⟩
      cases hlt : clt a tot with
      | false=>
       rw [hlt] at hTOs
       simp only [Bool.false_eq_true,if_false] at hTOs
       simp
       exact hM _ _ ⟨ov,k,.refl _ _,b10c,by rw [hTOs]; exact hkl,by rw [hTOs]; exact hqc,hown10,nsc,⟨rfl,rfl,by simp⟩⟩
      | true=>
       rw [hlt] at hTOs
       simp only [if_true] at hTOs
       have hsV : Same Sc ((Sc.bump 2).put Sc.next (.row (q4C ((j : Int),(q : Int) - 1,a.1,a.2)) 131 true true)) []:=((Same.refl _ _).bu).pn (by omega)
       obtain ⟨T3,e1,e2,e3,e4⟩:=hqc.app1 (T:=(Sc.bump 2).put Sc.next (.row (q4C ((j : Int),(q : Int) - 1,a.1,a.2)) 131 true true)) hsV (p:=Sc.next) (fr:=Sc.next + 1) (AS.get_put_self _ _ _) (by simp) (by omega) (by rw [← hkl]; omega)
       rw [← hkl] at e1 e2
       simp at e4
       simp only [q4C] at e1
       have pT : T3.get S7.next=_:=(e3.2 _ (by omega) (fun hk=>by have:=hown10 _ hk; omega)).trans b10c
       simp [b10c,c14c,placeIn,splice,e1,pT,rowStore1,okc]
       have e3' : Same Sc T3 (S7.next :: ownsOf (.slice ov k k)):=e3.mono (fun m hm _=>List.mem_cons_of_mem _ hm)
       refine hM _ _ ⟨some ⟨Sc.next + 1,0,none⟩,k + 1,e3'.po (by simp),AS.get_put_self _ _ _,by rw [hTOs,List.length_append,← hkl]; rfl,by rw [hTOs]; exact e2.stays (same_put T3 S7.next _) (fun m hm=>by simp [ownsOf] at hm; simp; omega),fun m hm=>by simp [ownsOf] at hm; omega,fun m hm=>?_,⟨rfl,rfl,by simp⟩⟩
       obtain ⟨f1,f2,f3⟩:=nsc m hm
       refine ⟨?_,f2,by simp; omega⟩
       rw [AS.get_put_ne _ _ (by omega),e3.2 m f3 (fun hk=>hod m hk hm)]; exact f1
     ·rintro _ Sd ⟨ov2,k2,hcd,bd,hkl2,hqs2,hown2,hns2,hA⟩
      obtain ⟨z,rfl⟩:=hA.lit
      have hnd':=hcd.1
      have hol10 : ∀ m ∈ ownsOf (Value.slice ov k k),m < S10.next:=hqs10.owns_lt
      have h10d : Same S10 Sd (S7.next :: ownsOf (.slice ov k k)):=(hc0.mono (by simp) : Same S10 Sc (S7.next :: ownsOf (.slice ov k k))).trans hcd (fun m hm _=>hm)
      have s8d : Same S8 Sd [S6.next,S7.next]:=s10.trans h10d (fun m hm hl=>by
       rcases List.mem_cons.1 hm with h' | h'
       ·simp [h']
       ·have:=hown10 m h'; omega)
      have c13d : Sd.get S10.next=_:=(hcd.2 _ (by omega) (fun hk=>by
       rcases List.mem_cons.1 hk with h' | h'
       ·omega
       ·have:=hol10 _ h'; omega)).trans c13c
      have c14d : Sd.get (S10.next + 1)=_:=(hcd.2 _ (by omega) (fun hk=>by
       rcases List.mem_cons.1 hk with h' | h'
       ·omega
       ·have:=hol10 _ h'; omega)).trans c14c
      have hTd : TkAt Sd v c.cg:=hT8.sb ⟨s8d.1,fun m hm hn=>s8d.2 m (by omega) (by simp; omega)⟩
      have ad : Sd.get (S6.next + 1)=_:=(s8d.2 _ (by omega) (by simp; omega)).trans a8
      have mD : MapAt Sd S6.next [.int .i64,.int .i64] true (fun x : Int × Int=>Value.agg #[.int .i64 x.1,.int .i64 x.2]) (fmR (c.cg.tblRow j q)):=by
       obtain ⟨es,kk,e1,e2⟩:=m10
       exact ⟨es,kk,by rw [h10d.2 _ (by omega) (fun hk=>by
        rcases List.mem_cons.1 hk with h' | h'
        ·omega
        ·have:=hown10 _ h'; omega)]; exact e1,e2⟩
      have hjN : ((j,(q : Int) - 1) : St).1 < 2 ^ c.cg.free.length:=by show j < _; omega
      simp [fillF,pickL,c13d]
      refine steps98_ok (s:=(j,(q : Int) - 1)) fun S11 hs11 hn11 k1 k2'=>?_
      simp
      refine run_range rfl ?_
      simp
      generalize hS12 : ((S11.bump 2).put S11.next (.defd (some []))).put (S11.next + 1) _=S12
      obtain ⟨lo,hlo⟩ : ∃ lo,S12.get (S11.next + 1)=some lo:=by rw [← hS12]; exact ⟨_,AS.get_put_self _ _ _⟩
      have hlo':=hlo
      rw [← hS12,AS.get_put_self] at hlo'
      have hlo2:=Option.some.inj hlo'
      clear hlo'
      have gd : S12.get S11.next=some (.defd (some [])):=by rw [← hS12,AS.get_put_ne _ _ (by omega),AS.get_put_self]
      have hn12 : S12.next=S11.next + 2:=by rw [← hS12]; simp
      have hs1112 : Same S11 S12 []:=by
       rw [← hS12]
       exact (((Same.refl _ _).bu).pn (by omega)).pn (by omega)
      clear hS12
      have hd12 : Same Sd S12 []:=hs11.tr0 hs1112
      have hT12:=hTd.stay0 hd12
      have m12 : MapAt S12 S6.next [.int .i64,.int .i64] true (fun x : Int × Int=>Value.agg #[.int .i64 x.1,.int .i64 x.2]) (fmR (c.cg.tblRow j q)):=by
       obtain ⟨es,kk,e1,e2⟩:=mD
       exact ⟨es,kk,by rw [hd12.2 _ (by omega) (by simp)]; exact e1,e2⟩
      have hfp : ∀ m ∈ [S6.next,S11.next + 1],m=S6.next ∨ m=S11.next + 1:=fun m hm=>by simpa using hm
      simp [calleeOf]
      refine stepsF_ok (v:=v) (c1:=Sd.next) (c2:=Sd.next + 1) (l:=S11.next + 1) (s:=(j,(q : Int) - 1)) sm hjN [S6.next,S11.next + 1] (fun m hm=>by have:=hfp m hm; omega)
       (fun done S'=>Same S12 S' [S6.next,S11.next + 1]∧S'.get (S11.next + 1)=some lo∧MapAt S' S6.next [.int .i64,.int .i64] true (fun x : Int × Int=>Value.agg #[.int .i64 x.1,.int .i64 x.2]) (fmR (rlx (c.cg.tblRow j q) a done))) (fun _=>False) ?_ ?_ ?_ ?_ ?_
      ·exact ⟨.refl _ _,hlo,m12⟩
      ·rintro done S' ⟨q1,q2,q3⟩
       refine ⟨q1.1,hT12.sb ⟨q1.1,fun m hm hn=>q1.2 m (by omega) (by simp; omega)⟩,?_,?_⟩
       ·rw [q1.2 _ (by omega) (by simp; omega),hs1112.2 _ (by omega) (by simp)]; exact k1
       ·rw [q1.2 _ (by omega) (by simp; omega),hs1112.2 _ (by omega) (by simp)]; exact k2'
      ·rintro done S' S'' ⟨q1,q2,q3⟩ hs'
       have hn':=q1.1
       refine ⟨q1.trans hs' (by simp),by rw [hs'.2 _ (by omega) (by simp)]; exact q2,?_⟩
       obtain ⟨es,kk,e1,e2⟩:=q3
       exact ⟨es,kk,by rw [hs'.2 _ (by omega) (by simp)]; exact e1,e2⟩
      ·rintro done x rest S' P hst ⟨q1,q2,q3⟩ hP _
       have hx:=(mem_steps (i:=x.1) (to:=x.2.1) (c:=x.2.2)).1 (by rw [hst]; simp)
       obtain ⟨i,⟨t1,t2⟩,e1,e2⟩:=x
       rw [← hlo2] at q2
       refine callRd' q2 rfl ?_
       have hn':=q1.1
       simp
       rw [AS.get_put_ne _ _ (by omega),AS.get_put_ne _ _ (by omega),AS.get_bump,q2,kra_ready]
       generalize hU0 : AS.put (AS.put (AS.put (AS.bump S' 1) _ _) _ _) _ _=U0
       have j0 : U0.get S'.next=some (.row [.int .i64 i,.int .i64 t1,.int .i64 t2,.int .i64 e1,.int .i64 e2] 135 true true):=by rw [← hU0,AS.get_put_ne _ _ (by omega),AS.get_put_self]
       have hu0 : Same S' U0 [S11.next + 1]:=by
        rw [← hU0]
        exact ((((Same.refl _ _).bu).pn (by omega)).pn (by omega)).po (by simp)
       have hnu0 : U0.next=S'.next + 1:=by rw [← hU0]; simp
       obtain ⟨lb,hlb,hlb2⟩ : ∃ lb,U0.get (S11.next + 1)=some lb∧∀ (P : En→AS→Prop) (e : Ex) (U : AS),e=.norm→KRd (S11.next + 1) P e (some lb) U=P (.ret (.bool true)) (U.put (S11.next + 1) lo):=by
        rw [← hU0,AS.get_put_self]
        exact ⟨_,rfl,fun P e U he=>by rw [he,← hlo2]; rfl⟩
       clear hU0
       have c14U : U0.get (S10.next + 1)=some (.row [.int .i64 a.1,.int .i64 a.2] 110 true true):=by
        rw [hu0.2 _ (by omega) (by simp; omega),q1.2 _ (by omega) (by simp; omega),hd12.2 _ (by omega) (by simp)]; exact c14d
       have adU : U0.get (S6.next + 1)=some (.row [.map (some S6.next)] 126 true true):=by
        rw [hu0.2 _ (by omega) (by simp; omega),q1.2 _ (by omega) (by simp; omega),hd12.2 _ (by omega) (by simp)]; exact ad
       have hmapU : ∀ U : AS,Same U0 U []→MapAt U S6.next [.int .i64,.int .i64] true (fun x : Int × Int=>Value.agg #[.int .i64 x.1,.int .i64 x.2]) (fmR (rlx (c.cg.tblRow j q) a done)):=fun U hU=>by
        obtain ⟨es,kk,f1,f2⟩:=q3
        exact ⟨es,kk,by rw [hU.2 _ (by omega) (by simp),hu0.2 _ (by omega) (by simp; omega)]; exact f1,f2⟩
       have hsb:=step_bd sm hx
       simp only at hx hsb
       obtain ⟨w1,w2,w3,w4⟩:=hsmT
       have hnext : rlx (c.cg.tblRow j q) a (done ++ [(i,(t1,t2),(e1,e2))])=rx (rlx (c.cg.tblRow j q) a done) (t1,t2) (cadd a (e1,e2)):=by rw [rlx_append]; rfl
       generalize hRr : rlx (c.cg.tblRow j q) a done=Rr at *
       have fin : ∀ (U : AS),Same U0 U [S6.next]→MapAt U S6.next [.int .i64,.int .i64] true (fun x : Int × Int=>Value.agg #[.int .i64 x.1,.int .i64 x.2]) (fmR (rx Rr (t1,t2) (cadd a (e1,e2))))→KRd (S11.next + 1) P .norm (U.get (S11.next + 1)) U:=by
        intro U v1 v2
        rw [v1.2 _ (by omega) (by simp; omega),hlb,hlb2 P .norm U rfl]
        have hs' : Same S' (U.put (S11.next + 1) lo) [S6.next,S11.next + 1]:=((hu0.mono (by simp) : Same S' U0 [S6.next,S11.next + 1]).trans v1 (fun m hm _=>by simp at hm ⊢; omega)).po (by simp)
        refine hP _ ⟨q1.trans hs' (fun m hm _=>hm),AS.get_put_self _ _ _,?_⟩ hs'
        rw [hnext]
        obtain ⟨es,kk,f1,f2⟩:=v2
        exact ⟨es,kk,by rw [AS.get_put_ne _ _ (by omega)]; exact f1,f2⟩
       simp [j0,c14U]
       refine add_ok (c:=a) (d:=(e1,e2)) (by unfold Bd; omega) (by unfold Bd; simp only; omega) fun U1 hu1=>?_
       have hnu1:=hu1.1
       simp at hnu1
       replace hu1 : Same U0 U1 []:=(Same.bu (.refl _ _)).tr0 hu1
       generalize hd : cadd a (e1,e2)=d at *
       have aU1 : U1.get (S6.next + 1)=_:=(hu1.2 _ (by omega) (by simp)).trans adU
       have jU1 : U1.get S'.next=_:=(hu1.2 _ (by omega) (by simp)).trans j0
       have ne1 : (S6.next + 1=U0.next)=False:=eq_false (by omega)
       have ne2 : (S'.next=U0.next)=False:=eq_false (by omega)
       simp [-lookE_map,rowStore,okc,splice,aU1,jU1,ne1,ne2]
       generalize hU2 : AS.bump (AS.put (AS.put U1 _ _) _ _) 1=U2
       have hu2 : Same U1 U2 [U0.next]:=by rw [← hU2]; exact (((Same.refl _ _).po (by simp)).po (by simp)).bu
       have d17 : U2.get U0.next=some (.row [.int .i64 d.1,.int .i64 d.2] 110 true true):=by rw [← hU2,AS.get_bump,AS.get_put_self]
       have hnu2 : U2.next=U1.next + 1:=by rw [← hU2]; simp
       clear hU2
       have hu02 : Same U0 U2 []:=hu1.trans hu2 (fun m hm hl=>by simp at hm; omega)
       have aU2 : U2.get (S6.next + 1)=_:=(hu02.2 _ (by omega) (by simp)).trans adU
       have jU2 : U2.get S'.next=_:=(hu02.2 _ (by omega) (by simp)).trans j0
       have lk:=(hmapU U2 hu02).look keyInt2 ((t1 : Int),t2) (.agg #[.int .i64 0,.int .i64 0]) true
       have hfa:=fmR_at Rr (t1,t2)
       simp only at lk hfa
       rw [hfa] at lk
       have ne3 : (S6.next + 1=U1.next)=False:=eq_false (by omega)
       have ne4 : (S'.next=U1.next)=False:=eq_false (by omega)
       have ne5 : (U0.next=U1.next)=False:=eq_false (by omega)
       cases hto : Rr (t1,t2) with
       | none=>
        rw [hto] at lk
        simp only [Option.map_none,Option.map_some,Option.getD_none,Option.getD_some,Option.isSome_none,Option.isSome_some,if_true] at lk
        have hrx:=rx_set (R:=Rr) (to:=(t1,t2)) (d:=d) (.inl hto)
        simp [-lookE_map,-msetE_map,lk,rowStore,splice,okc,undef,aU2,jU2,d17,ne3,ne4,ne5]
        generalize hU3 : AS.put (AS.put U2 _ _) _ _=U3
        have hu3 : Same U0 U3 []:=by rw [← hU3]; exact (hu02.pn (by omega)).pn (by omega)
        clear hU3
        obtain ⟨ob,ms1,ms2⟩:=(hmapU U3 hu3).mset keyInt2 ((t1 : Int),t2) (cV d)
        simp only at ms1
        rw [ms1]
        simp
        have hfs:=fmR_set Rr (t1,t2) d
        simp only at hfs
        refine fin _ ((hu3.mono (by simp)).po (by simp)) ?_
        rw [hrx,← hfs]
        exact ms2
       | some w=>
        rw [hto] at lk
        simp only [Option.map_none,Option.map_some,Option.getD_none,Option.getD_some,Option.isSome_none,Option.isSome_some,if_true] at lk
        simp [-lookE_map,-msetE_map,lk,rowStore,splice,okc,undef,aU2,jU2,d17,ne3,ne4,ne5]
        generalize hU3 : AS.put (AS.put U2 _ _) _ _=U3
        have hu3 : Same U0 U3 []:=by rw [← hU3]; exact (hu02.pn (by omega)).pn (by omega)
        have dU3 : U3.get U0.next=some (.row [.int .i64 d.1,.int .i64 d.2] 110 true true):=by rw [← hU3,AS.get_put_ne _ _ (by omega),AS.get_put_ne _ _ (by omega)]; exact d17
        have hnu3 : U3.next=U2.next:=by rw [← hU3]; rfl
        clear hU3
        refine less_ok (c:=d) (d:=w) fun U4 hu4=>?_
        have hnu4:=hu4.1
        have hu04:=hu3.tr0 hu4
        have aU4 : U4.get (S6.next + 1)=_:=(hu04.2 _ (by omega) (by simp)).trans adU
        have jU4 : U4.get S'.next=_:=(hu04.2 _ (by omega) (by simp)).trans j0
        have dU4 : U4.get U0.next=_:=(hu4.2 _ (by omega) (by simp)).trans dU3
        cases hlt : clt d w with
        | true=>
         have hrx:=rx_set (R:=Rr) (to:=(t1,t2)) (d:=d) (.inr ⟨w,hto,hlt⟩)
         simp [-msetE_map,aU4,jU4,dU4,undef]
         obtain ⟨ob,ms1,ms2⟩:=(hmapU U4 hu04).mset keyInt2 ((t1 : Int),t2) (cV d)
         simp only at ms1
         rw [ms1]
         simp
         have hfs:=fmR_set Rr (t1,t2) d
         simp only at hfs
         refine fin _ ((hu04.mono (by simp)).po (by simp)) ?_
         rw [hrx,← hfs]
         exact ms2
        | false=>
         have hrx:=rx_keep hto hlt
         simp
         refine fin _ (hu04.mono (by simp)) ?_
         rw [hrx]
         exact hmapU U4 hu04
      ·rintro S' (⟨q1,q2,q3⟩ | hf)
       ·rw [← hlo2] at q2
        have hn':=q1.1
        simp only [krg_ret,q2,kre_ready]
        generalize hS13 : AS.put S' (S11.next + 1) _=S13
        have h13 : Same S12 S13 [S6.next,S11.next + 1]:=by rw [← hS13]; exact q1.po (by simp)
        have hn13 : S13.next=S'.next:=by rw [← hS13]; rfl
        have m13 : MapAt S13 S6.next [.int .i64,.int .i64] true (fun x : Int × Int=>Value.agg #[.int .i64 x.1,.int .i64 x.2]) (fmR (rlx (c.cg.tblRow j q) a (c.cg.tk.steps (j,(q : Int) - 1)))):=by
         obtain ⟨es,kk,e1,e2⟩:=q3
         exact ⟨es,kk,by rw [← hS13,AS.get_put_ne _ _ (by omega)]; exact e1,e2⟩
        clear hS13
        rw [← tblRow_some hat] at m13
        have hd13 : Same Sd S13 [S6.next,S11.next + 1]:=(hd12.mono (by simp) : Same Sd S12 [S6.next,S11.next + 1]).trans h13 (fun m hm _=>hm)
        simp [hwq,hwq2]
        refine hR2 _ _ _ (by omega) ⟨q + 1,ov2,k2,S11.next :: ns,rfl,by omega,s8d.trans hd13 (fun m hm hl=>?_),m13,(hd13.2 _ (by omega) (by simp; omega)).trans bd,hkl2,hqs2.stays hd13 (fun m hm=>?_),hown2,?_,fun m hm=>?_,⟨rfl,rfl,by simp⟩⟩
        ·simp at hm ⊢
         rcases hm with h' | h'
         ·exact .inl h'
         ·omega
        ·have h1:=hown2 m hm
         have h2 : m < Sd.next:=hqs2.owns_lt m hm
         simp; omega
        ·rw [List.nodup_cons]
         exact ⟨fun hm=>by have:=(hns2 _ hm).2.2; omega,hnd⟩
        ·rcases List.mem_cons.1 hm with rfl | hm
         ·exact ⟨by rw [h13.2 _ (by omega) (by simp; omega)]; exact gd,by omega,by omega⟩
         ·obtain ⟨f1,f2,f3⟩:=hns2 m hm
          exact ⟨by rw [hd13.2 _ f3 (by simp; omega)]; exact f1,f2,by omega⟩
       ·exact hf.elim
   ·obtain rfl : q=c.old.length + 1:=by omega
    have hf1 : ¬ ((c.old.length : Int) + 1 - 1 < c.old.length):=by omega
    simp [fillF,pickL,g10,hf1,hwSj]
    exact hR _ _ _ (by omega) ⟨j + 1,ov,k,ns,rfl,by omega,s10,m10,b10,hkl,hqs10,hown10,hnd,hns,⟨rfl,rfl,by simp⟩⟩
  ·obtain rfl : j=N:=by omega
   have r9 : S9.get (S.next + 1)=_:=(s9.2 _ (by omega) (by simp; omega)).trans r8
   simp [fillF,pickL,b9,r9,rowStore1,okc]
   have hr : Same S9 (S9.put (S.next + 1) (AObj.row [Value.slice ov k k] 50 true true)) [S.next + 1]:=same_put _ _ _
   obtain ⟨S11,e1,e2,e3⟩:=drain_ok ns (S9.put (S.next + 1) (AObj.row [Value.slice ov k k] 50 true true)) hnd (fun m hm=>by
    obtain ⟨f1,f2,f3⟩:=hns m hm
    rw [AS.get_put_ne _ _ (by omega)]; exact f1)
   rw [e1]
   have r11 : S11.get (S.next + 1)=some (.row [.slice ov k k] 50 true true):=by
    rw [e2.2 _ (by simp; omega) (fun hm=>by have:=(hns _ hm).2.1; omega),AS.get_put_self]
   simp [r11]
   have hod:=hdef S9 ov k _ ns hqs9 hns
   refine hq _ _ _ ?_ hkl ((hqs9.stays hr (fun m hm=>by have:=hown9 m hm; simp; omega)).stays e2 hod) (fun m hm=>by have:=hown9 m hm; omega)
   have h81:=s8.1
   refine ⟨by rw [e3]; simp; omega,fun m hm _=>?_⟩
   rw [e2.2 m (by simp; omega) (fun hk=>by have:=(hns _ hk).2.1; omega),AS.get_put_ne _ _ (by omega),s9.2 m (by omega) (by simp; omega),s8.2 m hm (by simp)]
 ·simp [hc,r2,rowStore1,okc,placeIn,splice]
  have hpf : pfR c=[]:=if_neg hc
  rw [hpf] at hq
  exact hq _ none 0 (s2.pn (by omega)) rfl Qs.nil (by simp [ownsOf])
end Go.Gx.A
namespace Go.Gx.A
open Go.Gx Go.Proofs
set_option maxRecDepth 100000
set_option linter.all false
set_option maxHeartbeats 2000000
theorem pfR_len {c : Chg} : (pfR c).length ≤ 100000:=by
 by_cases hc : c.check=0
 ·have hpf : pfR c=c.cg.bnds:=if_pos hc
  have ok:=check_ok hc
  have sm:=ok.cgSm
  have hol : c.old.length ≤ 24:=sm.ol
  have hf8 : c.cg.free.length ≤ 8:=by
   have h1:=len_free ok.cgOk
   have h2 : c.cg.n=c.n.toNat:=rfl
   have h3:=ok.am
   have h4 : c.cg.front.length=c.passed.toNat:=by show (c.old.take c.passed.toNat).length=_; rw [List.length_take]; have:=ok.p1; omega
   have:=ok.n0
   have:=ok.p0
   omega
  have hp8 : 2 ^ c.cg.free.length ≤ 2 ^ 8:=Nat.pow_le_pow_right (by omega) hf8
  rw [hpf]
  have:=outAll_len (c.cg.tbl (2 ^ c.cg.free.length)).1 c.cg.goal.total (c.old.length + 1) (2 ^ c.cg.free.length)
  have h2 : 2 ^ c.cg.free.length * (c.old.length + 1) ≤ 256 * 25:=Nat.mul_le_mul (by omega) (by omega)
  show (outAll _ _ _ _).length ≤ _
  have e0 : c.cg.old=c.old:=rfl
  rw [e0]
  omega
 ·have hpf : pfR c=[]:=if_neg hc
  rw [hpf]; simp
end Go.Gx.A
namespace Go.Gx.A
open Go.Gx Go.Proofs
set_option maxRecDepth 100000
set_option linter.all false
set_option maxHeartbeats 4000000
theorem Amend_ok2 {S : AS} {va vo : Value} {c : Chg} (h : ChgAt S va vo c) {Q : En→AS→Prop}
  (hq : ∀ S' v k,Same S S' []→Oc S' v (amdR c).order→Oc S' k (amdR c).kept→(∀ m ∈ ownsOf v,S.next ≤ m)→(∀ m ∈ ownsOf k,S.next ≤ m)→(∀ m ∈ ownsOf v,m ∉ ownsOf k)→Q (.ret (.tuple #[.agg #[v,.int .i64 (amdR c).off,.int .i64 (amdR c).mov,k],.int .i64 c.check])) S') : Call G 34 [c.val va vo] S Q:=by
 by_cases hc : c.check=0
 ·have e : amdR c=c.cg.amd:=if_pos hc
  rw [e,hc] at hq
  refine Amend_ok h (fun h0=>absurd hc h0) fun _ S' w a n hs h1 h2 hn h3 h4 h5=>hq S' w _ hs h1 (h3.oc ?_) h2 h4 h5
  have ok:=check_ok hc
  have hsub:=kept_old c.old (c.cg.bests.headD [])
  have:=hsub.length_le
  have h24 : c.old.length ≤ 24:=ok.cgSm.ol
  show (kept c.old (c.cg.bests.headD [])).length ≤ 100000
  omega
 ·have e : amdR c=⟨[],0,0,[]⟩:=if_neg hc
  rw [e] at hq
  exact Amend_ok h (fun _ S' hs=>hq S' _ _ hs (.inl ⟨rfl,rfl⟩) (.inl ⟨rfl,rfl⟩) (by simp [ownsOf]) (by simp [ownsOf]) (by simp [ownsOf])) fun h0=>absurd h0 hc
end Go.Gx.A
