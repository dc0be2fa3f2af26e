/-
  How many orders are best: Ways, the reference's Ways.
-/
import Derived.Test.YtamljcdnphjgaaaPt
import Derived.Test.YtamljcdnphjgaaaPu
set_option linter.all false
set_option linter.deprecated false
set_option linter.unusedSimpArgs false
set_option linter.unusedVariables false
namespace Go.Gx.A
open Go.Gx Go.Proofs
set_option maxRecDepth 100000
set_option linter.all false
set_option maxHeartbeats 4000000
theorem wbest_len {f : List Int→Cost} : ∀ (l : List (List Int)) (b : Best),(l.foldl (bstep f) b).2.length ≤ b.2.length + l.length
 | [],b=>by simp
 | x :: l,b=>by
  have h:=wbest_len (f:=f) l (bstep f b x)
  have h2 : (bstep f b x).2.length ≤ b.2.length + 1:=by
   unfold bstep
   repeat' split
   all_goals simp
  simp only [List.foldl_cons,List.length_cons]
  omega
theorem bests_len {c : Chg} (ok : ChgOk c) : c.cg.bests.length ≤ 24 ^ 8:=by
 have h1:=ref_bests (c0:=(0,0)) ok.cgOk
 have h2:=wbest_len (f:=c.cg.rcost) (permsR c.cg.n c.cg.tk.f c.cg.front) ((0,0),[])
 rw [h1] at h2
 have h3:=permsR_len c.cg.n c.cg.tk.f c.cg.front
 have hn : c.cg.n ≤ 24:=ok.cgSm.n
 have hf : c.cg.tk.f ≤ 8:=by
  have h1:=len_free ok.cgOk
  have h2 : c.cg.n=c.n.toNat:=rfl
  have h3:=ok.am
  have h4 : c.cg.front.length=c.passed.toNat:=by show (c.old.take c.passed.toNat).length=_; rw [List.length_take]; have:=ok.p1; omega
  have:=ok.n0
  have:=ok.p0
  have e : c.cg.tk.f=c.cg.free.length:=rfl
  omega
 have h4 : c.cg.n ^ c.cg.tk.f ≤ 24 ^ 8:=by
  by_cases hz : c.cg.n=0
  ·rw [hz]
   exact Nat.le_trans (Nat.pow_le_pow_left (by omega : 0 ≤ 24) _) (Nat.pow_le_pow_right (by omega) hf)
  ·exact Nat.le_trans (Nat.pow_le_pow_left hn _) (Nat.pow_le_pow_right (by omega) hf)
 simp only [List.length_nil] at h2
 omega
def waysV (c : Chg) : Int:=if c.check=0 then c.cg.bests.length else 0
theorem Ways_ok {S : AS} {va vo : Value} {c : Chg} (h : ChgAt S va vo c) {Q : En→AS→Prop}
  (hq : ∀ S',Same S S' []→Q (.ret (.tuple #[.int .i64 (waysV c),.int .i64 c.check])) S') : Call G 59 [c.val va vo] S Q:=by
 refine call_run' (G:=G) rfl (ext_none (by decide)) ?_
 simp [Chg.val,Nat.add_assoc]
 generalize hS1 : AS.put (AS.bump S 1) _ _=S1
 have s1 : Same S S1 []:=by rw [← hS1]; exact ((Same.refl _ _).bu).pn (by omega)
 have g0 : S1.get S.next=some (.row [.int .i64 c.n,va,vo,.int .i64 c.passed] 27 true true):=by rw [← hS1]; simp
 have hn1 : S1.next=S.next + 1:=by rw [← hS1]; simp
 clear hS1
 have hval : Value.agg #[.int .i64 c.n,va,vo,.int .i64 c.passed]=c.val va vo:=rfl
 refine amendCheck_ok (h.stay0 s1) fun S2 hs2=>?_
 have s2:=s1.tr0 hs2
 have hn2:=hs2.1
 have k0 : S2.get S.next=_:=(hs2.2 _ (by omega) (by simp)).trans g0
 by_cases hc : c.check=0
 rotate_left
 ·simp [hc]
  have:=hq S2 s2
  rw [show waysV c=0 from if_neg hc] at this
  exact this
 have ok:=check_ok hc
 have cok:=ok.cgOk
 have sm:=ok.cgSm
 have hbl:=bests_len ok
 have hv : waysV c=c.cg.bests.length:=if_pos hc
 rw [hv,hc] at hq
 simp [hc,Nat.add_assoc]
 generalize hS3 : AS.put (AS.put (AS.bump S2 1) _ _) _ _=S3
 have hs3 : Same S2 S3 []:=by rw [← hS3]; exact (((Same.refl _ _).bu).pn (by omega)).pn (by omega)
 have c3 : S3.get S2.next=some (.row [.int .i64 0] 3 true true):=by rw [← hS3,AS.get_put_self]
 have hn3 : S3.next=S2.next + 1:=by rw [← hS3]; simp
 clear hS3
 have s3:=s2.tr0 hs3
 have k3 : S3.get S.next=_:=(hs3.2 _ (by omega) (by simp)).trans k0
 simp [k3,hval]
 refine open_ok (h.stay0 s3) ok.n0 ok.n1 ok.ar cok ok.p0 fun S4 v hs4 hT hL hvo hva hlm hvB hown=>?_
 have hn4:=hs4.1
 have s4:=s3.tr0 hs4
 have c4 : S4.get S2.next=_:=(hs4.2 _ (by omega) (by simp)).trans c3
 simp
 refine orders118_ok fun S5 hs5 hn5 gb=>?_
 have s5:=s4.tr0 hs5
 simp
 refine run_range rfl ?_
 simp
 generalize hS6 : ((S5.bump 2).put S5.next (.defd (some []))).put (S5.next + 1) _=S6
 obtain ⟨lo,hlo⟩ : ∃ lo,S6.get (S5.next + 1)=some lo:=by rw [← hS6]; exact ⟨_,AS.get_put_self _ _ _⟩
 have hlo':=hlo
 rw [← hS6,AS.get_put_self] at hlo'
 have hlo2:=Option.some.inj hlo'
 clear hlo'
 have gd : S6.get S5.next=some (.defd (some [])):=by rw [← hS6,AS.get_put_ne _ _ (by omega),AS.get_put_self]
 have hn6 : S6.next=S5.next + 2:=by rw [← hS6]; simp
 have hs56 : Same S5 S6 []:=by rw [← hS6]; exact (((Same.refl _ _).bu).pn (by omega)).pn (by omega)
 clear hS6
 have hs46 : Same S4 S6 []:=hs5.tr0 hs56
 have s6:=s4.tr0 hs46
 have hvl:=hT.lt
 have hT6:=hT.stay0 hs46
 have hL6:=hL.stay0 hs46 (by omega)
 have gb6 : S6.get S4.next=some (.row [ptr v.d] 119 true true):=(hs56.2 _ (by omega) (by simp)).trans gb
 have c6 : S6.get S2.next=_:=(hs46.2 _ (by omega) (by simp)).trans c4
 simp [calleeOf]
 refine orders_ok (v:=v) (c:=c.cg) hT6 hL6 gb6 ⟨by omega,by omega⟩ cok sm [S5.next + 1,S2.next]
  (fun x n S'=>FE S' x c.cg∧x.v=v∧S6.next ≤ x.B∧SB S6.next S6 S' [v.lm,S5.next + 1,S2.next]∧S'.get (S5.next + 1)=some lo∧S'.get S2.next=some (.row [.int .i64 n] 3 true true))
  (fun S'=>False) ?_ ?_ ?_ ?_
 ·intro x xv xl xt xcy xcT xcf xB
  refine ⟨fun n S' hI=>hI.1,?_,?_,?_,?_⟩
  ·rintro n S' S'' fo ⟨e2,e3,e4,e5,e6,e7⟩ hs hfo hl
   rw [e3] at hs hl
   have hkeep : ∀ m,m < S6.next→m ≠ v.lm→S''.get m=S'.get m:=fun m hm hne=>hs.2 m (by have:=e5.1; omega) (fun hk=>by
    rcases List.mem_cons.1 hk with h | h
    ·exact hne h
    ·have:=(hfo m h).1; omega)
   refine ⟨e2.keep ⟨hs.1,fun m hm hn=>hs.2 m (by have:=e2.lt; omega) (fun hk=>?_)⟩ (by rw [e3]; exact hl),e3,e4,⟨Nat.le_trans e5.1 hs.1,fun m hm hn=>?_⟩,?_,?_⟩
   ·rw [e3] at hn
    rcases List.mem_cons.1 hk with h | h
    ·exact hn (by simp [h])
    ·have:=(hfo m h).1; omega
   ·rw [hkeep m hm (by simp at hn; omega),e5.2 m hm hn]
   ·rw [hkeep _ (by omega) (by omega)]; exact e6
   ·rw [hkeep _ (by omega) (by omega)]; exact e7
  ·rintro S' S'' fo h
   exact h.elim
  ·intro m hm
   simp at hm
   omega
  ·rintro n q w S' P hq0 ⟨e2,e3,e4,e5,e6,e7⟩ hw hwo hP _
   have hnl : n < c.cg.bests.length:=(List.getElem?_eq_some_iff.1 hq0).1
   have hnn:=e5.1
   rw [← hlo2] at e6
   rw [xl]
   refine callRd' e6 rfl ?_
   have hw1 : IntKind.i64.wrap ((n : Int) + 1)=((n + 1 : Nat) : Int):=by rw [wrap64 (by omega) (by omega)]; omega
   have ne1 : ¬ S2.next=S5.next + 1:=by omega
   simp [e6,e7,ne1,okc,rowStore1,hw1]
   rw [AS.get_put_ne _ _ (by omega),AS.get_put_self]
   simp
   generalize hU : AS.put (AS.put (AS.put S' _ _) _ _) _ _=U
   have hU1 : Same S' U [S5.next + 1,S2.next]:=by rw [← hU]; exact (((Same.refl _ _).po (by simp)).po (by simp)).po (by simp)
   have hU2 : U.get (S5.next + 1)=some lo:=by rw [← hU,AS.get_put_self,hlo2]
   have hU3 : U.get S2.next=some (.row [.int .i64 ((n + 1 : Nat) : Int)] 3 true true):=by rw [← hU,AS.get_put_ne _ _ (by omega),AS.get_put_self]; simp
   clear hU
   have hvo' : ∀ m ∈ ownsOf vo,m < S.next:=h.old.owns_lt
   have hFE : FE U x c.cg:=by
    obtain ⟨l1,l2,l3,l4,l5,l6⟩:=e2.lt
    refine ⟨e2.t.away (fp:=[S2.next]) ⟨hU1.1,fun m hm hn=>hU1.2 m (by omega) (by rw [e3] at hm; simp at hn ⊢; omega)⟩ (fun m hm hk=>?_),e2.le.stays (by rw [e3]; exact hU1.2 _ (by omega) (by simp; omega)),?_,?_,?_,?_,⟨l1,l2,l3,l4,l5,Nat.le_trans l6 hU1.1⟩,e2.ne⟩
    ·rw [e3] at hm
     simp at hk
     subst hk
     rcases hown _ hm with h' | h'
     ·have:=hvo' _ h'; omega
     ·omega
    ·rw [hU1.2 _ (by omega) (by simp; omega)]; exact e2.gt
    ·rw [hU1.2 _ (by omega) (by simp; omega)]; exact e2.gy
    ·rw [hU1.2 _ (by omega) (by simp; omega)]; exact e2.gT
    ·rw [hU1.2 _ (by omega) (by simp; omega)]; exact e2.gf
   refine hP U ⟨hFE,e3,e4,⟨Nat.le_trans e5.1 hU1.1,fun m hm hn=>?_⟩,hU2,hU3⟩ hU1
   simp at hn
   rw [hU1.2 m (by omega) (by simp; omega),e5.2 m hm (by simp; omega)]
 ·intro x S' xv xl xt _ _ _ xB hF hs
  exact ⟨hF,xv,xB,⟨hs.1,fun m hm hn=>hs.2 m hm (by simp at hn ⊢; omega)⟩,by rw [hs.2 _ (by omega) (by simp; omega)]; exact hlo,by rw [hs.2 _ (by omega) (by simp; omega)]; exact c6⟩
 ·rintro x S' ⟨e2,e3,e4,e5,e6,e7⟩
  rw [← hlo2] at e6
  have hnn:=e5.1
  have gd' : S'.get S5.next=some (.defd (some [])):=(e5.2 _ (by omega) (by simp; omega)).trans gd
  simp only [krg_ret,e6,kre_ready]
  generalize hU : AS.put S' _ _=U
  have hU1 : Same S' U [S5.next + 1]:=by rw [← hU]; exact (Same.refl _ _).po (by simp)
  clear hU
  have cU : U.get S2.next=_:=(hU1.2 _ (by omega) (by simp; omega)).trans e7
  have gU : U.get S5.next=_:=(hU1.2 _ (by omega) (by simp)).trans gd'
  simp [cU]
  rw [drain_cons gU]
  simp
  refine hq _ ⟨?_,fun m hm _=>?_⟩
  ·have:=s6.1; have:=hU1.1; simp; omega
  ·have hl : m ≠ S5.next:=by have:=s5.1; omega
   rw [AS.get_put_ne _ _ hl,hU1.2 m (by have:=s6.1; omega) (by have:=s6.1; have:=s5.1; simp; omega),e5.2 m (by have:=s6.1; omega) (by have:=s2.1; have:=s5.1; have:=s4.1; have:=s3.1; simp; omega),s6.2 m hm (by simp)]
 ·intro S' h
  exact h.elim
end Go.Gx.A
namespace Go.Gx.A
open Go.Gx Go.Proofs
set_option maxRecDepth 100000
set_option linter.all false
set_option maxHeartbeats 4000000
end Go.Gx.A
