/-
  The settled pairs of the reference; equal lists of pairs.
-/
import Derived.Test.YtamljcdnphjgaaaQc
import Derived.Test.YtamljcdnphjgaaaQf
import Derived.Test.YtamljcdnphjgaaaGi
set_option linter.all false
set_option linter.deprecated false
set_option linter.unusedSimpArgs false
set_option linter.unusedVariables false
namespace Go.Gx.A
open Go.Gx Go.Proofs
set_option maxRecDepth 100000
set_option linter.all false
set_option maxHeartbeats 4000000
def Pr2 (S : AS) (v : Value) (l : List (Int × Int)) : Prop:=SlAt S 81 v (l.map enc2)
theorem pr2_uni (l : List (Int × Int)) : Uni 2 (l.map enc2):=fun x hx=>by
 obtain ⟨a,_,rfl⟩:=List.mem_map.1 hx
 rfl
theorem pr2_flat (l : List (Int × Int)) : (l.map enc2).flatten=flat2 l:=(List.flatMap_def ..).symm
theorem pr2_ok (l : List (Int × Int)) : (l.map enc2).flatten.all okc=true:=by
 induction l with
 | nil=>rfl
 | cons a l ih=>simp only [List.map_cons,List.flatten_cons,List.all_append,ih,Bool.and_true]; rfl
theorem Pr2.nil {S : AS} : Pr2 S (.slice none 0 0) []:=.inl ⟨rfl,rfl⟩
theorem Pr2.stays {S S' : AS} {v : Value} {l : List (Int × Int)} (h : Pr2 S v l) {fp : List Nat} (hs : Same S S' fp) (hd : ∀ m ∈ ownsOf v,m ∉ fp) : Pr2 S' v l:=SlAt.stays h hs hd
theorem Pr2.shape {S : AS} {v : Value} {l : List (Int × Int)} (h : Pr2 S v l) : ∃ a,v=.slice a l.length l.length:=by
 rcases h with ⟨rfl,h0⟩ | ⟨p,ex,rfl,h2,h3⟩
 ·have:=congrArg List.length h0
  simp at this
  subst this
  exact ⟨none,rfl⟩
 ·exact ⟨some ⟨p,0,none⟩,by simp⟩
theorem Pr2.lt {S : AS} {v : Value} {l : List (Int × Int)} (h : Pr2 S v l) : ∀ m ∈ ownsOf v,m < S.next:=by
 rcases h with ⟨rfl,h0⟩ | ⟨p,ex,rfl,h2,h3⟩
 ·simp [ownsOf]
 ·simpa [ownsOf] using h3
theorem Pr2.app1 {S T : AS} {v : Value} {l : List (Int × Int)} (h : Pr2 S v l) (hT : Same S T []) {p fr : Nat} {a : Int × Int} {wr ex : Bool} (hp : T.get p=some (.row [.int .i64 a.1,.int .i64 a.2] 81 wr ex)) (hfr : fr < T.next) (hfS : S.next ≤ fr) (hb : l.length ≤ 100000) :
  ∃ T',appV T fr 81 2 16 v (.slice (some ⟨p,0,none⟩) 1 1)=some (.slice (some ⟨fr,0,none⟩) (l.length + 1) (l.length + 1),T')∧Pr2 T' (.slice (some ⟨fr,0,none⟩) (l.length + 1) (l.length + 1)) (l ++ [a])∧Same S T' (ownsOf v)∧T'.next=T.next:=by
 have hsl : SlAt T 81 v (l.map enc2):=SlAt.stays h hT (by simp)
 have hy : srcCells T 2 (.slice (some ⟨p,0,none⟩) 1 1)=some (([a].map enc2).length,([a].map enc2).flatten):=by
  unfold srcCells
  simp only [hp]
  simp [enc2]
 obtain ⟨T0,a1,a2,a3⟩:=appV_new (fr:=fr) (bytes:=16) hsl (pr2_uni l) (by omega) (by simp) (pr2_uni [a]) hy (by simp; omega) (by omega) (pr2_ok [a])
 simp only [List.length_map,List.length_singleton] at a1
 refine ⟨_,a1,.inr ⟨fr,false,by simp,?_,by simp only [AS.next_put,a2]; exact hfr⟩,?_,by simp only [AS.next_put]; exact a2⟩
 ·rw [AS.get_put_self]; simp
 ·refine ⟨by simp only [AS.next_put,a2]; exact hT.1,fun q hq hn=>?_⟩
  rw [AS.get_put_ne _ _ (by omega),a3 q hn,hT.2 q hq (by simp)]
theorem Pr2.get {S : AS} {a : Option Addr} {l : List (Int × Int)} {n : Nat} (h : Pr2 S (.slice a n n) l) {i : Nat} (hi : i < l.length) : ∃ p ex,a=some ⟨p,0,none⟩∧S.get p=some (.row (flat2 l) 81 true ex)∧p < S.next∧rowLoad (flat2 l) (i * 2) (some 2)=some (.agg #[.int .i64 l[i].1,.int .i64 l[i].2]):=by
 rcases h with ⟨e,h0⟩ | ⟨p,ex,e,h2,h3⟩
 ·simp only [List.map_eq_nil_iff] at h0
  subst h0
  simp at hi
 ·injection e with e1 e2
  refine ⟨p,ex,e1,by rw [← pr2_flat]; exact h2,h3,?_⟩
  have:=(pr2_uni l).get (i:=i) (l:=enc2 l[i]) (by simp [hi])
  have hfl:=flat2_len l
  rw [pr2_flat] at this
  simp only [rowLoad,this]
  rw [if_pos (by omega)]
  rfl
def settledV (c : Chg) : List (Int × Int):=if c.check=0 then c.cg.settled else []
theorem settled_len {c : Cg} (ok : CgOk c) : c.settled.length ≤ c.n * c.n:=by
 have h1 : ∀ k,(setS (inAll c) c.n k).length ≤ k * c.n:=by
  intro k
  induction k with
  | zero=>simp [setS_zero]
  | succ k ih=>
   rw [setS_succ,List.length_append,Nat.succ_mul]
   have : (rowS (inAll c) k c.n).length ≤ c.n:=by
    unfold rowS
    refine Nat.le_trans (List.length_filter_le _ _) ?_
    simp
   omega
 exact h1 c.n
end Go.Gx.A
namespace Go.Gx.A
open Go.Gx Go.Proofs
set_option maxRecDepth 100000
set_option linter.all false
set_option maxHeartbeats 4000000
def CntV (l : List ((Int × Int) × Value)) (L : List (Int × Int)) : Prop:=∀ p,lkp l p=if p ∈ L then some (.int .i64 ((L.count p : Nat) : Int)) else none
theorem CntV.nil : CntV [] []:=fun p=>by simp [lkp_nil]
theorem CntV.add {l : List ((Int × Int) × Value)} {L : List (Int × Int)} (h : CntV l L) (p : Int × Int) : CntV (aset l p (.int .i64 ((L.count p + 1 : Nat) : Int))) (L ++ [p]):=fun q=>by
 rw [lkp_aset]
 unfold upd1
 by_cases hq : q=p
 ·subst hq
  simp [List.count_append]
 ·have h1 : (L ++ [p]).count q=L.count q:=by
   rw [List.count_append,List.count_cons_of_ne (Ne.symm hq)]; simp
  rw [if_neg hq,h q,h1]
  have h2 : q ∈ L ++ [p] ↔ q ∈ L:=by simp [hq]
  simp only [h2]
theorem CntV.get {l : List ((Int × Int) × Value)} {L : List (Int × Int)} (h : CntV l L) (p : Int × Int) : (lkp l p).getD (.int .i64 0)=.int .i64 ((L.count p : Nat) : Int):=by
 rw [h p]
 by_cases hp : p ∈ L
 ·simp [hp]
 ·simp [hp,List.count_eq_zero.2 hp]
theorem many_run {S : AS} {n : Nat} {l : List ((Int × Int) × Value)} {L : List (Int × Int)} (hM : MapL S n key2 l) (hC : CntV l L) (p : Int × Int) :
  ∃ S1 b,lookE S [.int .i64,.int .i64] true (.int .i64 0) false (key2 p) (.map (some n))=.ret (.int .i64 ((L.count p : Nat) : Int),S) ∧
   mentE S [.int .i64,.int .i64] true (.int .i64 0) (key2 p) (.map (some n))=.ret (.tuple #[.int .i64 ((L.count p : Nat) : Int),.int .i64 ((b : Nat) : Int)],S1) ∧
   lookE S1 [.int .i64,.int .i64] true (.int .i64 0) false (key2 p) (.map (some n))=.ret (.int .i64 ((L.count p : Nat) : Int),S1)∧Same S S1 [n]∧S1.next=S.next ∧
   ∃ o l',estE S1 (.int .i64 ((L.count p + 1 : Nat) : Int)) (.map (some n)) (.int .i64 ((b : Nat) : Int))=.ret (undef,S1.put n o)∧MapL (S1.put n o) n key2 l'∧CntV l' (L ++ [p]):=by
 obtain ⟨S1,b,l1,h1,h2,h3,h4,h5,h6⟩:=hM.ment keyInt2 p (.int .i64 0)
 obtain ⟨o,h7,h8⟩:=h6 (.int .i64 ((L.count p + 1 : Nat) : Int))
 have k1:=(hM.at keyInt2).look keyInt2 p (.int .i64 0) false
 have k2:=(h2.at keyInt2).look keyInt2 p (.int .i64 0) false
 rw [h3] at k2
 rw [hC.get] at h1 k1 k2
 simp only [Bool.false_eq_true,if_false] at k1 k2
 exact ⟨S1,b,k1,h1,k2,h4,h5,o,_,h7,h8,hC.add p⟩
theorem ItCur.stays {α : Type} [DecidableEq α] {key : α→Value} {S S' : AS} {r n : Nat} {p : α × Value} {rem : List (α × Value)} (h : ItCur S r n key p rem) (h1 : S'.get n=S.get n) (h2 : S'.get r=S.get r) : ItCur S' r n key p rem:=by
 obtain ⟨g0,es,c,seen,e,g1,g2,g3⟩:=h
 exact ⟨g0.stays h1 h2,es,c,seen,e,by rw [h1]; exact g1,by rw [h2]; exact g2,g3⟩
theorem Settled_ok {S : AS} {va vo : Value} {c : Chg} (h : ChgAt S va vo c) {Q : En→AS→Prop}
  (hq : ∀ S' v,Same S S' []→Pr2 S' v (settledV c)→(∀ m ∈ ownsOf v,S.next ≤ m)→Q (.ret (.tuple #[v,.int .i64 c.check])) S') : Call G 61 [c.val va vo] S Q:=by
 refine call_run' (G:=G) rfl (ext_none (by decide)) ?_
 simp [Chg.val,Nat.add_assoc]
 generalize hS1 : AS.put (AS.bump S 1) _ _=S1
 have s1 : Same S S1 []:=by rw [← hS1]; exact ((Same.refl _ _).bu).pn (by omega)
 have g0 : S1.get S.next=some (.row [.int .i64 c.n,va,vo,.int .i64 c.passed] 27 true true):=by rw [← hS1]; simp
 have hn1 : S1.next=S.next + 1:=by rw [← hS1]; simp
 clear hS1
 have hval : Value.agg #[.int .i64 c.n,va,vo,.int .i64 c.passed]=c.val va vo:=rfl
 try simp [g0,hval]
 refine amendCheck_ok (h.stay0 s1) fun S2 hs2=>?_
 have s2:=s1.tr0 hs2
 have hn2:=hs2.1
 have k0 : S2.get S.next=_:=(hs2.2 _ (by omega) (by simp)).trans g0
 by_cases hc : c.check=0
 rotate_left
 ·simp [hc]
  have:=hq S2 (.slice none 0 0) s2
  rw [show settledV c=[] from if_neg hc] at this
  exact this .nil (by simp [ownsOf])
 have ok:=check_ok hc
 have cok:=ok.cgOk
 have sm:=ok.cgSm
 have hbl:=bests_len ok
 have hv : settledV c=c.cg.settled:=if_pos hc
 rw [hv,hc] at hq
 simp [hc,Nat.add_assoc]
 generalize hS3 : AS.put (AS.put (AS.put (AS.bump (AS.put (AS.put (AS.bump (AS.put (AS.bump S2 1) _ _) 1) _ _) _ _) 2) _ _) _ _) _ _=S3
 have hs3 : Same S2 S3 []:=by rw [← hS3]; exact (((((((((Same.refl _ _).bu).pn (by omega)).bu).pn (by omega)).pn (by omega)).bu).pn (by omega)).pn (by omega)).pn (by omega)
 have a3 : S3.get S2.next=some (.map [] 0):=by rw [← hS3]; simp
 have c3 : S3.get (S2.next + 1)=some (.row [.int .i64 0] 3 true true):=by rw [← hS3]; simp
 have m3 : S3.get (S2.next + 2)=some (.map [] 0):=by rw [← hS3]; simp
 have t3 : S3.get (S2.next + 3)=some (.row [.map (some (S2.next + 2))] 164 true true):=by rw [← hS3]; simp
 have hn3 : S3.next=S2.next + 4:=by rw [← hS3]; simp
 clear hS3
 have s3:=s2.tr0 hs3
 have k3 : S3.get S.next=_:=(hs3.2 _ (by omega) (by simp)).trans k0
 simp [k3,hval]
 refine open_ok (h.stay0 s3) ok.n0 ok.n1 ok.ar cok ok.p0 fun S4 v hs4 hT hL hvo hva hlm hvB hown=>?_
 have hn4:=hs4.1
 have s4:=s3.tr0 hs4
 have a4 : S4.get S2.next=_:=(hs4.2 _ (by omega) (by simp)).trans a3
 have c4 : S4.get (S2.next + 1)=_:=(hs4.2 _ (by omega) (by simp)).trans c3
 have m4 : S4.get (S2.next + 2)=_:=(hs4.2 _ (by omega) (by simp)).trans m3
 have t4 : S4.get (S2.next + 3)=_:=(hs4.2 _ (by omega) (by simp)).trans t3
 simp
 refine orders118_ok fun S5 hs5 hn5 gb=>?_
 have s5:=s4.tr0 hs5
 simp
 refine run_range rfl ?_
 simp
 generalize hS6 : ((S5.bump 2).put S5.next (.defd (some []))).put (S5.next + 1) _=S6
 obtain ⟨lo,hlo⟩ : ∃ lo,S6.get (S5.next + 1)=some lo:=by rw [← hS6]; exact ⟨_,AS.get_put_self _ _ _⟩
 have hlo':=hlo
 rw [← hS6,AS.get_put_self] at hlo'
 have hlo2:=Option.some.inj hlo'
 clear hlo'
 have gd : S6.get S5.next=some (.defd (some [])):=by rw [← hS6,AS.get_put_ne _ _ (by omega),AS.get_put_self]
 have hn6 : S6.next=S5.next + 2:=by rw [← hS6]; simp
 have hs56 : Same S5 S6 []:=by rw [← hS6]; exact (((Same.refl _ _).bu).pn (by omega)).pn (by omega)
 clear hS6
 have hs46 : Same S4 S6 []:=hs5.tr0 hs56
 have s6:=s4.tr0 hs46
 have hvl:=hT.lt
 have hT6:=hT.stay0 hs46
 have hL6:=hL.stay0 hs46 (by omega)
 have gb6 : S6.get S4.next=some (.row [ptr v.d] 119 true true):=(hs56.2 _ (by omega) (by simp)).trans gb
 have a6 : S6.get S2.next=_:=(hs46.2 _ (by omega) (by simp)).trans a4
 have c6 : S6.get (S2.next + 1)=_:=(hs46.2 _ (by omega) (by simp)).trans c4
 have m6 : S6.get (S2.next + 2)=_:=(hs46.2 _ (by omega) (by simp)).trans m4
 have t6 : S6.get (S2.next + 3)=_:=(hs46.2 _ (by omega) (by simp)).trans t4
 have hM6 : MapL S6 (S2.next + 2) key2 []:=⟨[],0,m6,Ents.nil⟩
 have hA6 : MapL S6 S2.next key2 []:=⟨[],0,a6,Ents.nil⟩
 simp [calleeOf]
 refine orders_ok (v:=v) (c:=c.cg) hT6 hL6 gb6 ⟨by omega,by omega⟩ cok sm [S5.next + 1,S2.next + 1,S2.next + 2]
  (fun x n S'=>FE S' x c.cg∧x.v=v∧S6.next ≤ x.B∧SB S6.next S6 S' [v.lm,S5.next + 1,S2.next + 1,S2.next + 2]∧S'.get (S5.next + 1)=some lo∧S'.get (S2.next + 1)=some (.row [.int .i64 n] 3 true true)∧∃ l,MapL S' (S2.next + 2) key2 l∧CntV l ((c.cg.bests.take n).flatMap prsO))
  (fun S'=>False) ?_ ?_ ?_ ?_
 ·intro x xv xl xt xcy xcT xcf xB
  refine ⟨fun n S' hI=>hI.1,?_,?_,?_,?_⟩
  ·rintro n S' S'' fo ⟨e2,e3,e4,e5,e6,e7,l,e8,e9⟩ hs hfo hl
   rw [e3] at hs hl
   have hkeep : ∀ m,m < S6.next→m ≠ v.lm→S''.get m=S'.get m:=fun m hm hne=>hs.2 m (by have:=e5.1; omega) (fun hk=>by
    rcases List.mem_cons.1 hk with h | h
    ·exact hne h
    ·have:=(hfo m h).1; omega)
   refine ⟨e2.keep ⟨hs.1,fun m hm hn=>hs.2 m (by have:=e2.lt; omega) (fun hk=>?_)⟩ (by rw [e3]; exact hl),e3,e4,⟨Nat.le_trans e5.1 hs.1,fun m hm hn=>?_⟩,?_,?_,l,?_,e9⟩
   ·rw [e3] at hn
    rcases List.mem_cons.1 hk with h | h
    ·exact hn (by simp [h])
    ·have:=(hfo m h).1; omega
   ·rw [hkeep m hm (by simp at hn; omega),e5.2 m hm hn]
   ·rw [hkeep _ (by omega) (by omega)]; exact e6
   ·rw [hkeep _ (by omega) (by omega)]; exact e7
   ·exact e8.stays (hkeep _ (by omega) (by omega))
  ·rintro S' S'' fo h
   exact h.elim
  ·intro m hm
   simp at hm
   omega
  ·rintro n q w S' P hq0 ⟨e2,e3,e4,e5,e6,e7,l0,e8,e9⟩ hw hwo hP _
   have hnl : n < c.cg.bests.length:=(List.getElem?_eq_some_iff.1 hq0).1
   have hnn:=e5.1
   rw [← hlo2] at e6
   rw [xl]
   refine callRd' e6 rfl ?_
   have hw1 : IntKind.i64.wrap ((n : Int) + 1)=((n + 1 : Nat) : Int):=by rw [wrap64 (by omega) (by omega)]; omega
   have ne1 : ¬ S2.next + 1=S5.next + 1:=by omega
   obtain ⟨wa,wcap,rfl⟩:=hw.is.shape
   simp [e6]
   generalize hU0 : AS.put S' (S5.next + 1) _=U0
   obtain ⟨lb,hlb,hlb2⟩ : ∃ lb,U0.get (S5.next + 1)=some lb∧(∀ (P : En→AS→Prop) (U : AS),KRd (S5.next + 1) P .norm (some lb) U=P (.ret (.bool true)) (U.put (S5.next + 1) lo)):=by
    rw [← hU0,AS.get_put_self]
    exact ⟨_,rfl,fun P U=>by rw [← hlo2]; rfl⟩
   have hu0 : Same S' U0 [S5.next + 1]:=by rw [← hU0]; exact (Same.refl _ _).po (by simp)
   have hnu0 : U0.next=S'.next:=by rw [← hU0]; rfl
   clear hU0
   have u0c : U0.get (S2.next + 1)=_:=(hu0.2 _ (by omega) (by simp; omega)).trans e7
   have u0t : U0.get (S2.next + 3)=_:=(hu0.2 _ (by omega) (by simp; omega)).trans ((e5.2 _ (by omega) (by simp; omega)).trans t6)
   have u0M : MapL U0 (S2.next + 2) key2 l0:=e8.stays (hu0.2 _ (by omega) (by simp; omega))
   simp [u0c,okc,rowStore1,hw1]
   generalize hU1 : AS.put U0 _ _=U1
   have hu1 : Same U0 U1 [S2.next + 1]:=by rw [← hU1]; exact (Same.refl _ _).po (by simp)
   have hnu1 : U1.next=S'.next:=by rw [← hU1]; exact hnu0
   have u1c : U1.get (S2.next + 1)=some (.row [.int .i64 ((n + 1 : Nat) : Int)] 3 true true):=by rw [← hU1,AS.get_put_self]; simp
   clear hU1
   have hu01 : Same S' U1 [S5.next + 1,S2.next + 1]:=(hu0.mono (by simp) : Same S' U0 [S5.next + 1,S2.next + 1]).trans hu1 (fun m hm _=>by simp at hm ⊢; omega)
   have u1l : U1.get (S5.next + 1)=some lb:=(hu1.2 _ (by omega) (by simp; omega)).trans hlb
   have u1t : U1.get (S2.next + 3)=_:=(hu1.2 _ (by omega) (by simp)).trans u0t
   have u1M : MapL U1 (S2.next + 2) key2 l0:=u0M.stays (hu1.2 _ (by omega) (by simp))
   have hxB : x.B ≤ S'.next:=e2.lt.2.2.2.2.2
   have hwi : Is U1 (.slice wa q.length wcap) q:=(hw.stays hu01 (fun m hm hk=>by have:=hwo m hm; simp at hk; omega)).is
   obtain ⟨hqn,hql,_⟩:=bests_nd cok (List.mem_of_getElem? hq0)
   have hq24 : q.length ≤ 24:=by rw [hql]; exact sm.n
   have hpre : (c.cg.bests.take (n + 1)).flatMap prsO=(c.cg.bests.take n).flatMap prsO ++ prsO q:=by
    rw [List.take_add_one,hq0,List.flatMap_append]; simp
   generalize hL0 : (c.cg.bests.take n).flatMap prsO=L0 at *
   have hLb : L0.length ≤ 24 ^ 8 * 576:=by
    rw [← hL0]
    refine Nat.le_trans (flat_len (m:=576) _ (fun o ho=>?_)) (Nat.mul_le_mul_right _ (by rw [List.length_take]; omega))
    obtain ⟨g1,g2,_⟩:=bests_nd cok (List.mem_of_mem_take ho)
    have g3:=prsO_len o
    rw [g2] at g3
    have g4 : c.cg.n * (c.cg.n - 1) ≤ 24 * 24:=Nat.mul_le_mul sm.n (by have:=sm.n; omega)
    omega
   refine run_loop (fun m a' S''=>∃ i l D,m=q.length - i∧i ≤ q.length∧Same U1 S'' [S2.next + 2]∧S''.next=U1.next∧MapL S'' (S2.next + 2) key2 l∧prsO q=D ++ prsO (q.drop i)∧CntV l (L0 ++ D)∧Has a' 80 [(7,ptr (S2.next + 3)),(8,.slice wa q.length wcap),(29,.slice wa q.length wcap),(30,.int .i64 q.length),(31,.int .i64 i)] [] (some (S5.next + 1))) _ ⟨0,l0,[],rfl,by omega,.refl _ _,rfl,u1M,by simp,by simpa using e9,⟨rfl,rfl,by simp⟩⟩ ?_
   rintro _ R hR _ U2 ⟨i,l2,D,rfl,hi,hs2',hn2',hM2,hD,hC2,hA2⟩
   obtain ⟨z2,rfl⟩:=hA2.lit
   by_cases hil : i < q.length
   ·have hwi':=wrapS (show i < 9223372036854775807 by omega)
    have hwi2 : Is U2 (.slice wa q.length wcap) q:=hwi.stays hs2' (fun m hm hk=>by have:=hwo m hm; simp at hk; omega)
    obtain ⟨p,o,cells,e,wr,ex,h1,h2,h3,h4,h5⟩:=hwi2.at hil
    obtain ⟨v',f1,f2,f3⟩:=hwi2.slc (lo:=some (.int .i64 ((i + 1 : Nat) : Int))) (hi:=none) (i:=i + 1) (j:=q.length) (.inr rfl) (.inl ⟨rfl,rfl⟩) (by omega) (Nat.le_refl _)
    rw [List.take_length] at f2
    obtain ⟨ra,rcap,rfl⟩:=f2.shape
    have hrl : (q.drop (i + 1)).length=q.length - (i + 1):=List.length_drop ..
    have hdq : prsO (q.drop i)=(q.drop (i + 1)).map (fun y=>(q[i],y)) ++ prsO (q.drop (i + 1)):=by
     rw [List.drop_eq_getElem_cons hil]; rfl
    generalize hr : q.drop (i + 1)=r at *
    rw [show (((i + 1 : Nat) : Int))=(i : Int) + 1 from rfl] at f1
    simp [fillF,pickL,hil,h1,h2,h5,hwi',f1]
    have hr24 : r.length ≤ 24:=by rw [hrl]; omega
    have hDl : D.length ≤ 576:=by
     have g3:=prsO_len q
     rw [hql] at g3
     have g4 : c.cg.n * (c.cg.n - 1) ≤ 24 * 24:=Nat.mul_le_mul sm.n (by have:=sm.n; omega)
     have g5:=congrArg List.length hD
     rw [List.length_append] at g5
     omega
    refine run_loop (fun m a' S''=>∃ j l,m=r.length - j∧j ≤ r.length∧Same U2 S'' [S2.next + 2]∧S''.next=U1.next∧MapL S'' (S2.next + 2) key2 l∧CntV l (L0 ++ D ++ (r.take j).map (fun y=>(q[i],y)))∧Has a' 80 [(7,ptr (S2.next + 3)),(8,.slice wa q.length wcap),(10,.int .i64 q[i]),(29,.slice wa q.length wcap),(30,.int .i64 q.length),(31,.int .i64 i),(39,.slice ra r.length rcap),(40,.int .i64 r.length),(41,.int .i64 j)] [] (some (S5.next + 1))) _ ⟨0,l2,rfl,by omega,.refl _ _,hn2',hM2,by simpa using hC2,⟨rfl,rfl,by simp⟩⟩ ?_
    rintro _ R2 hR2 _ U3 ⟨j,l3,rfl,hj,hs3',hn3',hM3,hC3,hA3⟩
    obtain ⟨z3,rfl⟩:=hA3.lit
    have hs13 : Same U1 U3 [S2.next + 2]:=hs2'.trans hs3' (fun m hm _=>hm)
    by_cases hjl : j < r.length
    ·have hwj:=wrapS (show j < 9223372036854775807 by omega)
     have f4 : Is U3 (.slice ra r.length rcap) r:=f2.stays hs3' (fun m hm hk=>by have:=hwo m (f3 m hm); simp at hk; omega)
     obtain ⟨p',o',cells',e',wr',ex',y1,y2,y3,y4,y5⟩:=f4.at hjl
     have g7 : U3.get (S2.next + 3)=_:=(hs13.2 _ (by omega) (by simp)).trans u1t
     obtain ⟨V,b,m1,m2,m3,m4,m5,o1,l4,m6,m7,m8⟩:=many_run hM3 hC3 (q[i],r[j])
     have hcl : (L0 ++ D ++ (r.take j).map (fun y=>(q[i],y))).length ≤ 24 ^ 8 * 576 + 600:=by
      rw [List.length_append,List.length_append,List.length_map,List.length_take]
      omega
     have hcc:=Nat.le_trans (List.count_le_length (a:=(q[i],r[j])) (l:=L0 ++ D ++ (r.take j).map (fun y=>(q[i],y)))) hcl
     have hLn : L0 ++ D ++ (r.take (j + 1)).map (fun y=>(q[i],y))=L0 ++ D ++ (r.take j).map (fun y=>(q[i],y)) ++ [(q[i],r[j])]:=by
      rw [List.take_add_one,List.getElem?_eq_getElem hjl,List.map_append]
      simp only [Option.toList_some,List.map_cons,List.map_nil,List.append_assoc]
     generalize (L0 ++ D ++ (r.take j).map (fun y=>(q[i],y))).count (q[i],r[j])=cn at *
     have hwc : IntKind.i64.wrap ((cn : Int) + 1)=(cn : Int) + 1:=by rw [wrap64 (by omega) (by omega)]
     rw [show (((cn + 1 : Nat) : Int))=(cn : Int) + 1 from rfl] at m6
     dsimp only [key2] at m1 m2 m3
     simp [fillF,pickL,hjl,y1,y2,y5,g7,-lookE_map,m1,m2,m3,m6,hwc,hwj,placeIn,splice]
     refine hR2 _ _ _ (by omega) ⟨j + 1,l4,rfl,by omega,(hs3'.trans m4 (fun m hm _=>hm)).po (by simp),by simp only [AS.next_put]; omega,m7,by rw [hLn]; exact m8,⟨rfl,rfl,by simp⟩⟩
    ·obtain rfl : j=r.length:=by omega
     rw [List.take_length] at hC3
     simp [fillF,pickL]
     refine hR _ _ _ (by omega) ⟨i + 1,l3,D ++ r.map (fun y=>(q[i],y)),rfl,by omega,hs13,hn3',hM3,?_,by rw [← List.append_assoc]; exact hC3,⟨rfl,rfl,by simp [hwi']⟩⟩
     rw [hD,hdq,hr,List.append_assoc]
   ·obtain rfl : i=q.length:=by omega
    rw [List.drop_length] at hD
    have hDq : D=prsO q:=by rw [hD]; simp [prsO]
    subst hDq
    simp [fillF,pickL]
    have u2l : U2.get (S5.next + 1)=some lb:=(hs2'.2 _ (by omega) (by simp; omega)).trans u1l
    have u2c : U2.get (S2.next + 1)=_:=(hs2'.2 _ (by omega) (by simp)).trans u1c
    rw [u2l,hlb2 P U2]
    generalize hW : U2.put (S5.next + 1) lo=W
    have hw1' : Same S' W [S5.next + 1,S2.next + 1,S2.next + 2]:=by
     rw [← hW]
     exact ((hu01.mono (by simp) : Same S' U1 [S5.next + 1,S2.next + 1,S2.next + 2]).trans hs2' (fun m hm _=>by simp at hm ⊢; omega)).po (by simp)
    have hWl : W.get (S5.next + 1)=some lo:=by rw [← hW,AS.get_put_self]
    have hWc : W.get (S2.next + 1)=some (.row [.int .i64 ((n + 1 : Nat) : Int)] 3 true true):=by rw [← hW,AS.get_put_ne _ _ (by omega)]; exact u2c
    have hWM : MapL W (S2.next + 2) key2 l2:=hM2.stays (by rw [← hW,AS.get_put_ne _ _ (by omega)])
    clear hW
    have hvo' : ∀ m ∈ ownsOf vo,m < S.next:=h.old.owns_lt
    have hFE : FE W x c.cg:=by
     obtain ⟨l1,l2,l3,l4,l5,l6⟩:=e2.lt
     refine ⟨e2.t.away (fp:=[S2.next + 1,S2.next + 2]) ⟨hw1'.1,fun m hm hn=>hw1'.2 m (by omega) (by rw [e3] at hm; simp at hn ⊢; omega)⟩ (fun m hm hk=>?_),e2.le.stays (by rw [e3]; exact hw1'.2 _ (by omega) (by simp; omega)),?_,?_,?_,?_,⟨l1,l2,l3,l4,l5,Nat.le_trans l6 hw1'.1⟩,e2.ne⟩
     ·rw [e3] at hm
      simp at hk
      rcases hown _ hm with h' | h'
      ·have:=hvo' _ h'; omega
      ·omega
     ·rw [hw1'.2 _ (by omega) (by simp; omega)]; exact e2.gt
     ·rw [hw1'.2 _ (by omega) (by simp; omega)]; exact e2.gy
     ·rw [hw1'.2 _ (by omega) (by simp; omega)]; exact e2.gT
     ·rw [hw1'.2 _ (by omega) (by simp; omega)]; exact e2.gf
    refine hP W ⟨hFE,e3,e4,⟨Nat.le_trans e5.1 hw1'.1,fun m hm hn=>?_⟩,hWl,hWc,l2,hWM,by rw [hpre]; exact hC2⟩ hw1'
    simp at hn
    rw [hw1'.2 m (by omega) (by simp; omega),e5.2 m hm (by simp; omega)]
 ·intro x S' xv xl xt _ _ _ xB hF hs
  refine ⟨hF,xv,xB,⟨hs.1,fun m hm hn=>hs.2 m hm (by simp at hn ⊢; omega)⟩,by rw [hs.2 _ (by omega) (by simp; omega)]; exact hlo,by rw [hs.2 _ (by omega) (by simp; omega)]; exact c6,[],hM6.stays (hs.2 _ (by omega) (by simp; omega)),CntV.nil⟩
 ·rintro x S' ⟨e2,e3,e4,e5,e6,e7,l,e8,e9⟩
  rw [← hlo2] at e6
  have hnn:=e5.1
  have gd' : S'.get S5.next=some (.defd (some [])):=(e5.2 _ (by omega) (by simp; omega)).trans gd
  simp only [krg_ret,e6,kre_ready]
  generalize hU : AS.put S' _ _=U
  have hU1 : Same S' U [S5.next + 1]:=by rw [← hU]; exact (Same.refl _ _).po (by simp)
  clear hU
  have cU : U.get (S2.next + 1)=_:=(hU1.2 _ (by omega) (by simp; omega)).trans e7
  have gU : U.get S5.next=_:=(hU1.2 _ (by omega) (by simp)).trans gd'
  have eU : MapL U (S2.next + 2) key2 l:=e8.stays (hU1.2 _ (by omega) (by simp; omega))
  have tU : U.get (S2.next + 3)=_:=(hU1.2 _ (by omega) (by simp; omega)).trans ((e5.2 _ (by omega) (by simp; omega)).trans t6)
  have aU : MapL U S2.next key2 []:=(hA6.stays (e5.2 _ (by omega) (by simp; omega))).stays (hU1.2 _ (by omega) (by simp; omega))
  rw [List.take_length] at e9
  simp [cU,tU]
  have hb1 : Same U (U.bump 1) []:=(Same.refl _ _).bu
  have hnU : S'.next ≤ U.next:=hU1.1
  obtain ⟨es0,cc0,ge0,ents⟩:=eU
  have hln:=ents.nd
  have eU : MapL U (S2.next + 2) key2 l:=⟨es0,cc0,ge0,ents⟩
  have hfl:=bests_ne c.cg
  generalize hLL : c.cg.bests.flatMap prsO=L at *
  have hK : ∀ p,p ∈ l.map (·.1) ↔ p ∈ L:=fun p=>by
   constructor
   ·intro hp
    obtain ⟨⟨p',v'⟩,hm,rfl⟩:=List.mem_map.1 hp
    have h1:=(lkp_some hln).2 hm
    rw [e9 p'] at h1
    by_cases h2 : p' ∈ L
    ·exact h2
    ·rw [if_neg h2] at h1; cases h1
   ·intro hp
    have h1:=e9 p
    rw [if_pos hp] at h1
    exact List.mem_map.2 ⟨_,(lkp_some hln).1 h1,rfl⟩
  have hval2 : ∀ p v',(p,v') ∈ l→v'=.int .i64 ((L.count p : Nat) : Int):=fun p v' hm=>by
   have h1:=(lkp_some hln).2 hm
   rw [e9 p] at h1
   by_cases h2 : p ∈ L
   ·rw [if_pos h2] at h1; exact (Option.some.inj h1).symm
   ·rw [if_neg h2] at h1; cases h1
  refine rng_run (eU.stays (hb1.2 _ (by omega) (by simp))) (by omega) rfl fun S7 hIt hs7 hn7=>?_
  simp
  have hU7 : Same U S7 []:=hb1.trans hs7 (fun m hm hl=>by simp at hm; omega)
  have hn7' : S7.next=U.next + 1:=by rw [hn7]; simp
  refine run_loop (fun m a' S'=>∃ (done rem : List ((Int × Int) × Value)) (ov : Value) (lA : List ((Int × Int) × Value)),m=rem.length∧l.Perm (done ++ rem)∧Same U S' [S2.next]∧S7.next ≤ S'.next∧ItAt S' U.next (S2.next + 2) key2 rem∧MapL S' S2.next key2 lA∧(∀ p,p ∉ done.map (·.1)→lkp lA p=none)∧Pr2 S' ov ((done.map (·.1)).filter (full c.cg))∧(∀ m ∈ ownsOf ov,U.next < m) ∧
   Has a' 80 [(5,.map (some S2.next)),(6,ptr (S2.next + 1)),(13,ov),(56,ptr U.next)] [{ target:=.collected S5.next,args:=#[] }]) _ ⟨[],l,.slice none 0 0,[],rfl,by simp,hU7.mono (by simp),Nat.le_refl _,hIt,aU.stays (hU7.2 _ (by omega) (by simp)),fun p _=>rfl,.nil,by simp [ownsOf],⟨rfl,rfl,by simp⟩⟩ ?_
  rintro _ R hR _ S8 ⟨done,rem,ov,lA,rfl,hperm,hs8,hn8,hIt8,hA8,hno,hov,hown8,hHas⟩
  obtain ⟨z,rfl⟩:=hHas.lit
  simp [fillF,pickL]
  refine nxtm_run hIt8 rfl (by omega) (fun he=>?_) (fun i hi S9 hcur hs9 hn9=>?_)
  ·subst he
   rw [List.append_nil] at hperm
   simp
   have hsort : ((done.map (·.1)).filter (full c.cg)).mergeSort le2=c.cg.settled:=settled_sort cok hln (by rw [hLL]; exact hK) ((hperm.map (·.1)).filter _).symm
   have gd8 : S8.get S5.next=some (.defd (some [])):=(hs8.2 _ (by omega) (by simp; omega)).trans gU
   have hlt6 : S.next ≤ S6.next:=s6.1
   have fin : ∀ S10 ov',Same S8 S10 (ownsOf ov)→Pr2 S10 ov' c.cg.settled→(∀ m ∈ ownsOf ov',U.next < m)→OutD [RV.tmp 2,RV.tmp 3] [] Q none=OutD [RV.tmp 2,RV.tmp 3] [] Q none→Q (.ret (.tuple #[ov',.int .i64 0])) (S10.put S5.next (.defd none)):=by
    intro S10 ov' g1 g2 g3 _
    refine hq _ ov' ⟨?_,fun m hm _=>?_⟩ (g2.stays (same_put _ _ _) (fun m hm=>by have:=g3 m hm; simp; omega)) (fun m hm=>by have:=g3 m hm; omega)
    ·have:=g1.1; simp; omega
    ·have h0:=s4.1
     have h1:=s3.1
     have h2:=s2.1
     rw [AS.get_put_ne _ _ (by omega),g1.2 m (by omega) (fun hk=>by have:=hown8 m hk; omega),hs8.2 m (by omega) (by simp; omega),hU1.2 m (by omega) (by simp; omega),e5.2 m (by omega) (by simp; omega),s6.2 m hm (by simp)]
   generalize hout : (done.map (·.1)).filter (full c.cg)=out at *
   have hsl : (out.mergeSort le2).length=out.length:=List.length_mergeSort _
   have hol : out.length ≤ 1000:=by
    rw [← hout]
    have h1:=few_settled cok (D:=done.map (·.1)) ((hperm.map (·.1)).nodup_iff.1 hln)
    have h2 : c.cg.n * c.cg.n ≤ 24 * 24:=Nat.mul_le_mul sm.n sm.n
    omega
   by_cases h0 : out=[]
   ·have hx : sortV 120 81 [ov,.func (.func 120) #[] #[]] S8=some (.tuple #[],S8):=by
     subst h0
     rcases hov with ⟨rfl,_⟩ | ⟨p,ex,rfl,_,_⟩ <;> simp [sortV]
    refine call_ext (sort_ext hx) ?_
    simp
    rw [drain_cons gd8]
    simp
    refine fin S8 ov (.refl _ _) ?_ hown8 rfl
    rw [← hsort,h0]
    rw [h0] at hov
    simpa using hov
   ·have hov':=hov
    rcases hov with ⟨_,hn⟩ | ⟨p,ex,rfl,g1,g2⟩
    ·exact absurd (by simpa using hn) h0
    ·rw [pr2_flat] at g1
     have hpos : out.length ≠ 0:=fun h=>h0 (List.length_eq_zero_iff.1 h)
     have hx : sortV 120 81 [.slice (some ⟨p,0,none⟩) (out.map enc2).length (out.map enc2).length,.func (.func 120) #[] #[]] S8=some (.tuple #[],S8.put p (.row (flat2 (out.mergeSort le2)) 81 true ex)):=by
      have e1 : ((flat2 out).drop 0).take (out.length * 2)=flat2 out:=by rw [List.drop_zero,← flat2_len,List.take_length]
      have e2 : splice (flat2 out) 0 (flat2 (out.mergeSort le2))=flat2 (out.mergeSort le2):=by
       unfold splice
       rw [List.drop_eq_nil_of_le (by rw [flat2_len,flat2_len,hsl]; omega)]
       simp
      unfold sortV
      simp only [List.length_map]
      rw [if_pos ⟨trivial,trivial,trivial,by omega⟩,if_neg hpos,g1]
      simp only []
      rw [if_pos ⟨trivial,by rw [flat2_len]; omega⟩,e1,unflat2_flat]
      simp only []
      rw [e2]
     refine call_ext (sort_ext hx) ?_
     simp
     have hpo:=hown8 p (by simp [ownsOf])
     rw [drain_cons (by rw [AS.get_put_ne _ _ (by omega)]; exact gd8)]
     simp
     refine fin (S8.put p (.row (flat2 (out.mergeSort le2)) 81 true ex)) _ ((Same.refl _ _).po (by simp [ownsOf])) ?_ (fun m hm=>by simp [ownsOf] at hm; omega) rfl
     rw [← hsort]
     refine .inr ⟨p,ex,by simp [hsl],by rw [AS.get_put_self,pr2_flat],by simpa using g2⟩
  ·have hi' : i < rem.length:=hi
   have hin0:=List.getElem_mem hi'
   have hpk:=(perm_pick hi').append_left done
   generalize hrp : rem[i]=rp at *
   obtain ⟨⟨p1,p2⟩,pv⟩:=rp
   have hin : ((p1,p2),pv) ∈ l:=hperm.mem_iff.2 (List.mem_append_right _ hin0)
   have hpv:=hval2 _ _ hin
   subst hpv
   have hall : ((done ++ rem).map (·.1)).Nodup:=(hperm.map (·.1)).nodup_iff.1 hln
   have hnd : (p1,p2) ∉ done.map (·.1):=by
    rw [List.map_append,List.nodup_append] at hall
    intro hd
    exact hall.2.2 _ hd (p1,p2) (List.mem_map.2 ⟨_,hin0,rfl⟩) rfl
   have hperm2 : l.Perm (done ++ [((p1,p2),.int .i64 ((L.count (p1,p2) : Nat) : Int))] ++ rem.eraseIdx i):=by
    refine hperm.trans (hpk.trans ?_)
    rw [List.append_assoc]; exact List.Perm.refl _
   have hb9 : Same S9 (S9.bump 1) []:=(Same.refl _ _).bu
   simp
   refine entry_run (ItCur.stays hcur (hb9.2 _ (by omega) (by simp)) (hb9.2 _ (by omega) (by simp))) rfl ?_
   simp [okc,rowStore,splice]
   generalize hS10 : AS.put (AS.put (AS.bump S9 1) _ _) _ _=S10
   have hs10 : Same S9 S10 []:=by rw [← hS10]; exact (((Same.refl _ _).bu).pn (by omega)).pn (by omega)
   have g10 : S10.get S9.next=some (.row [.int .i64 p1,.int .i64 p2] 81 true true):=by rw [← hS10,AS.get_put_self]
   have hn10 : S10.next=S9.next + 1:=by rw [← hS10]; simp
   clear hS10
   have hs810 : Same S8 S10 [U.next]:=hs9.trans hs10 (by simp)
   have hU10 : Same U S10 [S2.next]:=hs8.trans hs810 (fun m hm hl=>by simp at hm; omega)
   have c10 : S10.get (S2.next + 1)=_:=(hU10.2 _ (by omega) (by simp)).trans cU
   have it10 : ItAt S10 U.next (S2.next + 2) key2 (rem.eraseIdx i):=hcur.1.stays (hs10.2 _ (by omega) (by simp)) (hs10.2 _ (by omega) (by simp))
   have a10 : MapL S10 S2.next key2 lA:=hA8.stays (hs810.2 _ (by omega) (by simp; omega))
   have v10 : Pr2 S10 ov ((done.map (·.1)).filter (full c.cg)):=hov.stays hs810 (fun m hm=>by have:=hown8 m hm; simp; omega)
   have hfe : full c.cg (p1,p2)=decide (L.count (p1,p2)=c.cg.bests.length):=by unfold full; rw [hLL]
   have hrl : (rem.eraseIdx i).length=rem.length - 1:=List.length_eraseIdx_of_lt hi'
   have hdm : ∀ v' : Value,((done ++ [((p1,p2),v')]).map (·.1)).filter (full c.cg)=(done.map (·.1)).filter (full c.cg) ++ (if full c.cg (p1,p2)=true then [(p1,p2)] else []):=fun v'=>by
    rw [List.map_append,List.filter_append]
    congr 1
    by_cases hf : full c.cg (p1,p2)=true <;> simp [hf]
   have hol : ((done.map (·.1)).filter (full c.cg)).length ≤ 1000:=by
    have h1:=few_settled cok (D:=done.map (·.1)) (by rw [List.map_append,List.nodup_append] at hall; exact hall.1)
    have h2 : c.cg.n * c.cg.n ≤ 24 * 24:=Nat.mul_le_mul sm.n sm.n
    omega
   by_cases hcN : L.count (p1,p2)=c.cg.bests.length
   ·have hcN' : ((L.count (p1,p2) : Nat) : Int)=(c.cg.bests.length : Nat):=by rw [hcN]
    rw [decide_eq_true hcN] at hfe
    have hlook:=(a10.at keyInt2).look keyInt2 (p1,p2) (.bool false) false
    rw [hno _ hnd] at hlook
    simp only [Option.getD_none,Bool.false_eq_true,if_false] at hlook
    obtain ⟨ob,hms,hA11⟩:=a10.mset keyInt2 (p1,p2) (.bool true)
    dsimp only at hms
    have g11 : (S10.put S2.next ob).get S9.next=some (.row [.int .i64 p1,.int .i64 p2] 81 true true):=by rw [AS.get_put_ne _ _ (by omega)]; exact g10
    generalize hS11 : S10.put S2.next ob=S11 at *
    have hs11 : Same S10 S11 [S2.next]:=by rw [← hS11]; exact same_put _ _ _
    have hn11 : S11.next=S10.next:=by rw [← hS11]; rfl
    have v11 : Pr2 S11 ov ((done.map (·.1)).filter (full c.cg)):=v10.stays hs11 (fun m hm=>by have:=hown8 m hm; simp; omega)
    obtain ⟨T',f1,f2,f3,f4⟩:=v11.app1 (T:=(S11.bump 2).put S11.next (.row [.int .i64 p1,.int .i64 p2] 81 true true)) (p:=S11.next) (fr:=S11.next + 1) (a:=(p1,p2)) (wr:=true) (ex:=true)
     (((Same.refl _ _).bu).pn (by omega)) (by rw [AS.get_put_self]) (by simp) (by simp) (by omega)
    simp [g10,c10,hcN',-lookE_map,hlook,-msetE_map,hms,undef,hS11,g11,f1,placeIn,splice]
    have hT : S11.next + 2 ≤ T'.next:=by rw [f4]; simp
    have hp8 : ∀ m,m ≤ U.next→m ∉ ownsOf ov:=fun m hm hk=>by have:=hown8 m hk; omega
    have itT : ItAt T' U.next (S2.next + 2) key2 (rem.eraseIdx i):=(it10.stays (hs11.2 _ (by omega) (by simp)) (hs11.2 _ (by omega) (by simp; omega))).stays (f3.2 _ (by omega) (hp8 _ (by omega))) (f3.2 _ (by omega) (hp8 _ (by omega)))
    have aT : MapL T' S2.next key2 (aset lA (p1,p2) (.bool true)):=hA11.stays (f3.2 _ (by omega) (hp8 _ (by omega)))
    have hUT : Same U T' [S2.next]:=(hU10.trans hs11 (fun m hm _=>hm)).trans f3 (fun m hm hl=>by have:=hown8 m hm; omega)
    refine hR _ _ _ (by rw [hrl]; omega) ⟨done ++ [((p1,p2),.int .i64 ((L.count (p1,p2) : Nat) : Int))],rem.eraseIdx i,.slice (some ⟨S11.next + 1,0,none⟩) (((done.map (·.1)).filter (full c.cg)).length + 1) (((done.map (·.1)).filter (full c.cg)).length + 1),aset lA (p1,p2) (.bool true),rfl,hperm2,hUT,by omega,itT,aT,fun p hp=>?_,?_,fun m hm=>?_,⟨rfl,rfl,by simp⟩⟩
    ·rw [List.map_append,List.mem_append,not_or] at hp
     rw [lkp_aset]
     unfold upd1
     rw [if_neg (by have:=hp.2; simpa using this)]
     exact hno p hp.1
    ·rw [hdm,hfe]
     simpa using f2
    ·simp [ownsOf] at hm
     omega
   ·have hcN' : ¬ ((L.count (p1,p2) : Nat) : Int)=(c.cg.bests.length : Nat):=by omega
    rw [decide_eq_false hcN] at hfe
    simp [g10,c10,hcN',hcN,undef]
    refine hR _ _ _ (by rw [hrl]; omega) ⟨done ++ [((p1,p2),.int .i64 ((L.count (p1,p2) : Nat) : Int))],rem.eraseIdx i,ov,lA,rfl,hperm2,hU10,by omega,it10,a10,fun p hp=>hno p (fun hk=>hp (by rw [List.map_append]; exact List.mem_append_left _ hk)),?_,hown8,⟨rfl,rfl,by simp⟩⟩
    rw [hdm,hfe]
    simpa using v10
 ·intro S' h
  exact h.elim
end Go.Gx.A
