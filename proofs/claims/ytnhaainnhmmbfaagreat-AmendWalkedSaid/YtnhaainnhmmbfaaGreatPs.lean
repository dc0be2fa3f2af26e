/-
  The best orders, one by one.
-/
import Derived.Test.YtnhaainnhmmbfaaGreatPr
import Derived.Test.YtnhaainnhmmbfaaGreatPq
set_option linter.all false
set_option linter.deprecated false
namespace Go.Gx.Z
open Go.Gx Go.Proofs
set_option maxRecDepth 100000
set_option maxHeartbeats 4000000

theorem plV_nil : plV []=fun _=>none:=by funext x; rfl
theorem Is.back {S S' : AS} {v : Value} {l : List Int} (h : Is S' v l) (hs : Same S S' []) (ho : ∀ m∈ownsOf v,m < S.next) : Is S v l:=by
 refine ⟨h.small,?_⟩
 rcases h.c with h | ⟨p,o,cap,cells,e,wr,ex,rfl,h1,h2,h3,h4,h5,h6⟩
 ·exact .inl h
 ·have hp:=ho p (by simp [ownsOf])
  exact .inr ⟨p,o,cap,cells,e,wr,ex,rfl,h1,by rw [← hs.2 p hp (by simp)]; exact h2,hp,h4,h5,h6⟩
theorem Tb.ls {S : AS} {e : TypeId} {v : Value} {rs : List Nat} {n : Nat} {M : Nat→Nat→Int} (h : Tb S e v rs n M) (hl : rs.length=n) (hn : n≤1000) : Ls S v (rs.map (rowv n)) ((List.range n).map fun x=>(List.range n).map fun y=>M x y):=by
 refine ⟨?_,by simp [hl],by simp; omega,fun i v' l h1 h2=>?_⟩
 ·rcases h.sl with ⟨rfl,h0⟩ | ⟨p,ex,rfl,h2,h3⟩
  ·have : rs=[]:=by simpa using h0
   subst this
   exact ⟨⟨none,0,rfl⟩,rfl,by simp [ownsOf]⟩
  ·rw [flat1] at h2
   refine ⟨⟨some ⟨p,0,none⟩,rs.length,by simp⟩,?_,by simp [ownsOf]; exact h3⟩
   unfold srcCells
   simp only [List.length_map,Nat.mul_one,h2]
   split
   ·rename_i h0
    have : rs=[]:=List.length_eq_zero_iff.1 h0
    subst this; rfl
   ·rw [if_pos (by simp),List.drop_zero,List.take_of_length_le (by simp)]
 ·rw [List.getElem?_map] at h1 h2
  cases hr : rs[i]? with
  | none=>rw [hr] at h1; simp at h1
  | some r=>
   rw [hr] at h1
   simp at h1
   subst h1
   obtain ⟨g1,g2,g3⟩:=h.rows i r hr
   have hi : i < n:=by rw [← hl]; exact (List.getElem?_eq_some_iff.1 hr).1
   rw [List.getElem?_range hi] at h2
   simp at h2
   subst h2
   have hrow : rowc n (M i)=ints ((List.range n).map fun y=>M i y):=by simp [rowc,ints]
   rw [hrow] at g1
   have:=Is.row g1 g2 (by simp; omega)
   simpa [rowv] using this
theorem paid_at' {S : AS} {vp : Value} {ps : List Value} {c : Cg} (h : Ls S vp ps c.rows) {x y : Int} (hx : 0≤x∧x < c.n) (hy : 0≤y∧y < c.n) :
  ∃ p o cells e wr ex b cap p' o' cells' e' wr' ex',(∀ (S' : AS) (j : IntKind),idxE S' 1 none (.int j x) vp=.ret (.pointer (some ⟨p,o,none⟩),S'))∧S.get p=some (.row cells e wr ex)∧cells[o]?=some (.slice b c.n cap) ∧
   (∀ (S' : AS) (j : IntKind),idxE S' 1 none (.int j y) (.slice b c.n cap)=.ret (.pointer (some ⟨p',o',none⟩),S'))∧S.get p'=some (.row cells' e' wr' ex')∧cells'[o']?=some (.int .i64 (c.w x y))∧p∈ownsOf vp∧p'∈ps.flatMap ownsOf:=by
 obtain ⟨x,rfl⟩ : ∃ n : Nat,x=n:=⟨x.toNat,by omega⟩
 obtain ⟨y,rfl⟩ : ∃ n : Nat,y=n:=⟨y.toNat,by omega⟩
 obtain ⟨hl,hr⟩:=rows_at c (x:=x) (by omega)
 obtain ⟨p,o,cells,e,wr,ex,b,cap,h1,h2,h3,h4,h5,h6,h7⟩:=h.at hl
 have hlen : c.rows[x].length=c.n:=by rw [hr]; simp
 rw [hlen] at h5 h6 h7
 obtain ⟨p',o',cells',e',wr',ex',g1,g2,g3,g4,g5⟩:=h6.at (i:=y) (by rw [hlen]; omega)
 refine ⟨p,o,cells,e,wr,ex,b,cap,p',o',cells',e',wr',ex',h1,h2,h5,g1,g2,?_,h4,List.mem_flatMap.2 ⟨_,List.mem_of_getElem? h7,g4⟩⟩
 rw [g5]
 simp only [hr,List.getElem_map,List.getElem_range]
def TkV.holds (v : TkV) (m : Nat) : Prop:=m=v.d∨m=v.pm∨m∈ownsOf v.vo∨m∈ownsOf v.vf∨m∈ownsOf v.vr∨m∈ownsOf v.vp∨m∈v.ps.flatMap ownsOf
theorem open_ok {S : AS} {va vo : Value} {c : Chg} (h : ChgAt S va vo c) (n0 : 0≤c.n) (n1 : c.n≤24) (ar : arrsOk c.n none c.arrows=true) (ok : CgOk c.cg) (p0 : 0≤c.passed) {Q : En→AS→Prop}
  (hq : ∀ S' v,Same S S' []→TkAt S' v c.cg→LeastAt S' v.lm c.cg→v.vo=vo→v.va=va→S.next≤v.lm→S.next≤v.B→(∀ m,v.holds m→m∈ownsOf vo∨S.next≤m)→Q (.ret (ptr v.d)) S') : Call G 35 [c.val va vo] S Q:=by
 obtain ⟨oa,ocap,hov⟩:=h.old.shape
 obtain ⟨n,hn⟩ : ∃ n : Nat,c.n=n:=⟨c.n.toNat,by omega⟩
 obtain ⟨p,hp⟩ : ∃ p : Nat,c.passed=p:=⟨c.passed.toNat,by omega⟩
 have hcn : c.cg.n=n:=by show c.n.toNat=n; omega
 have hcp : c.cg.passed=p:=by show c.passed.toNat=p; omega
 have hpl : p≤c.old.length:=by have:=ok.ps; rw [hcp] at this; exact this
 have hol : c.old.length≤24:=by
  have:=nodup_len (n:=n) ok.nd (fun x hx=>by have:=ok.lt x hx; rw [hcn] at this; exact this)
  have e : c.cg.old.length=c.old.length:=rfl
  omega
 refine call_run' (G:=G) rfl (ext_none (by decide)) ?_
 simp [Chg.val,hn,hp]
 have s0 : Same S (((S.bump 1).put S.next (AObj.row [Value.int IntKind.i64 n,va,vo,Value.int IntKind.i64 p] 41 true true)).bump 3) []:=(((Same.refl _ _).bu).pn (by omega)).bu
 obtain ⟨vr,f1,f2,f3⟩:=(h.old.stay0 s0).slc (lo:=none) (hi:=some (.int .i64 p)) (i:=0) (j:=p) (.inl ⟨rfl,rfl⟩) (.inr rfl) (by omega) hpl
 rw [List.drop_zero] at f2
 obtain ⟨ra,rcap,rfl⟩:=f2.shape
 have hrl : (c.old.take p).length=p:=by simp; omega
 rw [hrl] at f1 f2 f3
 have hvrl : ∀ m∈ownsOf (Value.slice ra p rcap),m < S.next:=fun m hm=>h.old.cs.lt m (f3 m hm)
 have hvrf : ∀ m∈ownsOf (Value.slice ra p rcap),m∈ownsOf vo:=f3
 have hfrS : Is S (.slice ra p rcap) (c.old.take p):=f2.back s0 hvrl
 simp [f1,reps,placeIn,splice,Nat.add_assoc]
 generalize hS1 : AS.put (AS.put (AS.put (AS.bump (AS.put (AS.bump S 1) _ _) 3) _ _) _ _) _ _=S1
 have s1 : Same S S1 []:=by rw [← hS1]; exact ((s0.pn (by omega)).pn (by omega)).pn (by omega)
 have g0 : S1.get S.next=some (.row [.int .i64 n,va,vo,.int .i64 p] 41 true true):=by rw [← hS1]; simp
 have gP : S1.get (S.next + 1)=some (.map [] 0):=by rw [← hS1]; simp
 have gL : S1.get (S.next + 2)=some (.map [] 0):=by rw [← hS1]; simp
 have gT : S1.get (S.next + 3)=some (.row [.int .i64 n,va,vo,.int .i64 p,.slice none 0 0,.map (some (S.next + 1)),.slice ra p rcap,.int .i64 0,.slice none 0 0,.map (some (S.next + 2))] 128 true true):=by rw [← hS1]; simp
 have hn1 : S1.next=S.next + 4:=by rw [← hS1]; simp
 clear hS1 f1
 rw [hov]
 simp
 rw [← hov]
 have hpl0 : plV (c.old.take 0)=fun _=>none:=by rw [List.take_zero]; exact plV_nil
 refine run_loop (fun m a' S'=>∃ i,m=c.old.length - i∧i≤c.old.length∧Same S S' []∧S.next + 4≤S'.next∧S'.get S.next=some (.row [.int .i64 n,va,vo,.int .i64 p] 41 true true)∧S'.get (S.next + 2)=some (.map [] 0) ∧
  S'.get (S.next + 3)=some (.row [.int .i64 n,va,vo,.int .i64 p,.slice none 0 0,.map (some (S.next + 1)),.slice ra p rcap,.int .i64 0,.slice none 0 0,.map (some (S.next + 2))] 128 true true) ∧
  MapAt S' (S.next + 1) [.int .i64] false (fun x : Int=>Value.int .i64 x) (plV (c.old.take i)) ∧
  Has a' 152 [(1,ptr S.next),(3,ptr (S.next + 3)),(25,vo),(26,.int .i64 c.old.length),(27,.int .i64 i)]) _ ⟨0,rfl,by omega,s1,by omega,g0,gL,gT,by rw [hpl0]; exact ⟨[],0,gP,Fnd.nil⟩,⟨rfl,rfl,by simp [vi]⟩⟩ ?_
 clear s1 g0 gP gL gT hn1
 rintro _ R hR _ S1 ⟨i,rfl,hi,s1,hn1,g0,gL,gT,gP,hA⟩
 obtain ⟨z,rfl⟩:=hA.lit
 by_cases hlt : i < c.old.length
 ·have hwS:=wrapS (show i < 9223372036854775807 by omega)
  obtain ⟨q,o,cells,e,wr,ex,h1,h2,h3,h4,h5⟩:=(h.old.stay0 s1).at hlt
  obtain ⟨ob,e1,e2⟩:=gP.mset keyInt c.old[i] (.int .i64 i)
  have hu : plV (c.old.take (i + 1))=upd1 (plV (c.old.take i)) c.old[i] (.int .i64 i):=plN_succ ok.nd hlt
  simp [fillF,pickL,hlt,h1,h2,h5,gT,-msetE_map,e1,hwS]
  exact hR _ _ _ (by omega) ⟨i + 1,rfl,by omega,s1.pn (by omega),by simpa using hn1,by rw [AS.get_put_ne _ _ (by omega)]; exact g0,by rw [AS.get_put_ne _ _ (by omega)]; exact gL,by rw [AS.get_put_ne _ _ (by omega)]; exact gT,by rw [hu]; exact e2,⟨rfl,rfl,by simp⟩⟩
 obtain rfl : i=c.old.length:=by omega
 rw [List.take_length] at gP
 have b1 : (n : Int)≤281474976710656:=by omega
 have b2 : (n : Int)≤9223372036854775807:=by omega
 have b3 : (24 : Int) * (n : Int)≤281474976710656:=by omega
 have ne1 : ¬ S.next + 3=S1.next:=by omega
 have ne2 : ¬ S.next=S1.next:=by omega
 simp [fillF,pickL,g0,gT,b1,b2,b3,rowStore,okc,splice,ne1]
 generalize hS2 : AS.put (AS.put (AS.bump S1 1) _ _) _ _=S2
 have s2 : Same S S2 []:=by rw [← hS2]; exact ((s1.bu).pn (by omega)).pn (by omega)
 have g02 : S2.get S.next=some (.row [.int .i64 n,va,vo,.int .i64 p] 41 true true):=by rw [← hS2,AS.get_put_ne _ _ (by omega),AS.get_put_ne _ _ (by omega),AS.get_bump]; exact g0
 have gL2 : S2.get (S.next + 2)=some (.map [] 0):=by rw [← hS2,AS.get_put_ne _ _ (by omega),AS.get_put_ne _ _ (by omega),AS.get_bump]; exact gL
 have gP2 : MapAt S2 (S.next + 1) [.int .i64] false (fun x : Int=>Value.int .i64 x) (plV c.old):=by
  obtain ⟨es,cc,e1,e2⟩:=gP
  exact ⟨es,cc,by rw [← hS2,AS.get_put_ne _ _ (by omega),AS.get_put_ne _ _ (by omega),AS.get_bump]; exact e1,e2⟩
 have gT2 : S2.get (S.next + 3)=some (.row [.int .i64 n,va,vo,.int .i64 p,.slice none 0 0,.map (some (S.next + 1)),.slice ra p rcap,.int .i64 0,.slice (some ⟨S1.next,0,none⟩) n n,.map (some (S.next + 2))] 128 true true):=by rw [← hS2]; simp
 have gR2 : S2.get S1.next=some (.row (List.replicate n (Value.slice none 0 0)) 25 true true):=by
  rw [← hS2,AS.get_put_ne _ _ (by omega),AS.get_put_self,rep_flat]
  simp
 have hn2 : S2.next=S1.next + 1:=by rw [← hS2]; simp
 clear hS2 g0 gL gP gT hR hA
 refine run_loop (fun m a' S'=>∃ (i : Nat) (rs : List Nat),m=n - i∧i≤n∧rs.length=i∧rs.Nodup∧(∀ r∈rs,S1.next < r∧r < S'.next∧S'.get r=some (.row (rowc n fun _=>0) 3 true true))∧Same S2 S' [S1.next]∧S'.get S1.next=some (.row (rs.map (rowv n) ++ List.replicate (n - i) (Value.slice none 0 0)) 25 true true) ∧
  Has a' 152 [(1,ptr S.next),(3,ptr (S.next + 3)),(50,.int .i64 n),(51,.int .i64 i)]) _ ⟨0,[],rfl,by omega,rfl,by simp,by simp,.refl _ _,by simpa using gR2,⟨rfl,rfl,by simp [vi]⟩⟩ ?_
 rintro _ R hR _ S3 ⟨i,rs,rfl,hi,hrl',hnd,hrs,s3,gR,hA⟩
 obtain ⟨z,rfl⟩:=hA.lit
 have hn3:=s3.1
 have g03 : S3.get S.next=_:=(s3.2 _ (by omega) (by simp; omega)).trans g02
 have gT3 : S3.get (S.next + 3)=_:=(s3.2 _ (by omega) (by simp; omega)).trans gT2
 by_cases hlt : i < n
 ·have hlt' : (i : Int) < n:=by omega
  have hwS:=wrapS (show i < 9223372036854775807 by omega)
  have b4 : (8 : Int) * (n : Int)≤281474976710656:=by omega
  have ne3 : ¬ S1.next=S3.next:=by omega
  have ne4 : ¬ S.next=S3.next:=by omega
  have ne5 : ¬ S.next + 3=S3.next:=by omega
  have hst : rowStore (rs.map (rowv n) ++ List.replicate (n - i) (Value.slice none 0 0)) i [rowv n S3.next]=some ((rs ++ [S3.next]).map (rowv n) ++ List.replicate (n - (i + 1)) (Value.slice none 0 0)):=by
   unfold rowStore
   rw [if_pos ⟨by simp; omega,rfl⟩]
   have e1 : n - i=(n - (i + 1)) + 1:=by omega
   rw [e1,List.replicate_succ]
   have:=splice_app (A:=rs.map (rowv n)) (B:=[Value.slice none 0 0]) (C:=[rowv n S3.next]) (D:=List.replicate (n - (i + 1)) (Value.slice none 0 0)) rfl
   simp only [List.length_map,hrl',List.singleton_append] at this
   rw [this]
   simp
  simp only [rowv] at hst
  simp [fillF,pickL,hlt,hlt',gT3,g03,b1,b2,b4,rep_zero,gR,hst,hwS,ne3,ne5]
  refine hR _ _ _ (by omega) ⟨i + 1,rs ++ [S3.next],rfl,by omega,by simp [hrl'],?_,fun r hr=>?_,?_,by rw [AS.get_put_self]; simp,⟨rfl,rfl,by simp⟩⟩
  ·rw [List.nodup_append]
   refine ⟨hnd,by simp,fun a ha b hb=>?_⟩
   simp at hb; subst hb; rintro rfl
   have:=(hrs _ ha).2.1
   omega
  ·rcases List.mem_append.1 hr with hr | hr
   ·obtain ⟨a1,a2,a3⟩:=hrs r hr
    exact ⟨a1,by simp; omega,by rw [AS.get_put_ne _ _ (by omega),AS.get_put_ne _ _ (by omega),AS.get_bump]; exact a3⟩
   ·simp at hr; subst hr
    exact ⟨by omega,by simp,by rw [AS.get_put_ne _ _ (by omega),AS.get_put_self]⟩
  ·exact ((s3.bu).pn (by omega)).po (by simp)
 obtain rfl : n=i:=by omega
 have hL3 : S3.get (S.next + 2)=_:=(s3.2 _ (by omega) (by simp; omega)).trans gL2
 have gP3 : MapAt S3 (S.next + 1) [.int .i64] false (fun x : Int=>Value.int .i64 x) (plV c.old):=by
  obtain ⟨es,cc,e1,e2⟩:=gP2
  exact ⟨es,cc,by rw [s3.2 _ (by omega) (by simp; omega)]; exact e1,e2⟩
 have s03 : Same S S3 []:=s2.trans s3 (fun m hm hl=>by simp at hm; omega)
 rw [Nat.sub_self,List.replicate_zero,List.append_nil] at gR
 have tb : Tb S3 25 (.slice (some ⟨S1.next,0,none⟩) n n) rs n (fun x y=>wt (c.arrows.take 0) x y):=by
  refine ⟨.inr ⟨S1.next,true,by simp [hrl'],by rw [flat1]; exact gR,by omega⟩,fun k r hk=>?_,hnd⟩
  obtain ⟨a1,a2,a3⟩:=hrs r (List.mem_of_getElem? hk)
  refine ⟨?_,a2,by simp [ownsOf]; omega⟩
  rw [a3]
  congr 1
 obtain ⟨aa,acap,hva⟩:=h.arrows.shape
 simp [fillF,pickL,g03]
 rw [hva]
 simp
 rw [← hva]
 obtain ⟨ar1,ar2⟩:=arrsOk_none ar
 have hal:=arrs_len n1 ar
 refine run_loop (fun m a' S'=>∃ j,m=c.arrows.length - j∧j≤c.arrows.length∧Same S3 S' rs∧Tb S' 25 (.slice (some ⟨S1.next,0,none⟩) n n) rs n (fun x y=>wt (c.arrows.take j) x y) ∧
  Has a' 152 [(1,ptr S.next),(3,ptr (S.next + 3)),(67,va),(68,.int .i64 c.arrows.length),(69,.int .i64 j)]) _ ⟨0,rfl,by omega,.refl _ _,tb,⟨rfl,rfl,by simp [vi]⟩⟩ ?_
 clear hR hA tb
 rintro _ R hR _ S4 ⟨j,rfl,hj,s4,tb,hA⟩
 obtain ⟨z,rfl⟩:=hA.lit
 have hn4:=s4.1
 have hrsn : ∀ m,m < S1.next→m∉rs:=fun m hm hr=>by have:=(hrs m hr).1; omega
 have s04 : Same S S4 []:=s03.trans s4 (fun m hm hl=>by have:=(hrs m hm).1; omega)
 have g04 : S4.get S.next=_:=(s4.2 _ (by omega) (hrsn _ (by omega))).trans g03
 have gT4 : S4.get (S.next + 3)=_:=(s4.2 _ (by omega) (hrsn _ (by omega))).trans gT3
 by_cases hlt : j < c.arrows.length
 ·obtain ⟨q,o,cells,e,wr,ex,h1,h2,h3,h4,h5,h6,h7,h8,h9⟩:=(h.arrows.stay0 s04).at hlt
  have hwS:=wrapS (show j < 9223372036854775807 by omega)
  obtain ⟨m1,m2,m3,m4,m5,m6⟩:=arrOk_spec (ar1 c.arrows[j] (List.getElem_mem hlt))
  obtain ⟨f,hf⟩ : ∃ x : Nat,c.arrows[j].f=x:=⟨c.arrows[j].f.toNat,by omega⟩
  obtain ⟨t,ht⟩ : ∃ x : Nat,c.arrows[j].t=x:=⟨c.arrows[j].t.toNat,by omega⟩
  have hfn : f < n:=by omega
  have htn : t < n:=by omega
  have hfn' : (f : Int) < n:=by omega
  have htn' : (t : Int) < n:=by omega
  simp [-run_draw,fillF,pickL,hlt,h1,h2,h5,Arw.cells,rowStore,okc,splice]
  generalize hS5 : AS.put (AS.put (AS.bump S4 1) _ _) _ _=S5
  have s5 : Same S4 S5 []:=by rw [← hS5]; exact (((Same.refl _ _).bu).pn (by omega)).pn (by omega)
  have g5 : S5.get S4.next=some (.row [.int .i64 c.arrows[j].f,.int .i64 c.arrows[j].t,.int .i64 c.arrows[j].r,.int .i64 c.arrows[j].w] 86 true true):=by rw [← hS5]; simp
  have hn5 : S5.next=S4.next + 1:=by rw [← hS5]; simp
  clear hS5
  have gT5 : S5.get (S.next + 3)=_:=(s5.2 _ (by omega) (by simp)).trans gT4
  have tb5:=tb.stay0 s5
  obtain ⟨P,EX,r1,G1,G2,G3,G4,G5,G6,G7,G8,G9⟩:=tb5.at (i:=f) (by omega)
  have hst:=rowc_set (f:=fun k=>wt (c.arrows.take j) f k) (x:=c.arrows[j].w) htn
  have hset:=tb5.set (f:=fun k=>if k=t then c.arrows[j].w else wt (c.arrows.take j) f k) G8
  have hwt : ∀ x y : Nat,(if x=f then (fun k : Nat=>if k=t then c.arrows[j].w else wt (c.arrows.take j) f k) else fun y : Nat=>wt (c.arrows.take j) x y) y=wt (c.arrows.take (j + 1)) x y:=by
   intro x y
   have hp : (c.arrows.take (j + 1)).Pairwise fun x z=>ltA x z=true:=ar2.sublist (List.take_sublist _ _)
   rw [List.take_succ_eq_append_getElem hlt] at hp ⊢
   have hsn : ∀ (l : List Arw) (a : Arw),(l ++ [a]).Pairwise (fun x z=>ltA x z=true)→∀ x y,wt (l ++ [a]) x y=if a.f=x∧a.t=y then a.w else wt l x y:=by
    intro l a hl x y
    unfold wt
    rw [List.find?_append]
    by_cases hm : a.f=x∧a.t=y
    ·have hno : l.find? (fun a=>decide (a.f=x∧a.t=y))=none:=by
      rw [List.find?_eq_none]
      intro b hb
      have:=(List.pairwise_append.1 hl).2.2 b hb a (by simp)
      unfold ltA at this
      simp only [decide_eq_true_eq] at this ⊢
      omega
     rw [hno]
     simp [hm]
    ·rw [if_neg hm]
     cases hq : l.find? (fun a=>decide (a.f=x∧a.t=y)) with
     | some b=>simp
     | none=>simp [hm]
   rw [hsn _ _ hp,hf,ht]
   by_cases hx : x=f
   ·subst hx
    by_cases hy : y=t
    ·subst hy; simp
    ·have : ¬ (t : Int)=y:=by omega
     simp [hy,this]
   ·have : ¬ (f : Int)=x:=by omega
    simp [hx,this]
  obtain ⟨ex5,gR5⟩ : ∃ ex,S5.get S1.next=some (.row (rs.map (rowv n)) 25 true ex):=by
   rcases tb5.sl with ⟨e,_⟩ | ⟨p',ex',e,k2,k3⟩
   ·cases e
   ·injection e with e1 _ _
    injection e1 with e1
    injection e1 with e1 _ _
    exact ⟨ex',by rw [← flat1,e1]; exact k2⟩
  simp [gT5,g5,hf,ht,hfn,htn,hfn',htn',gR5,G3,G4,hst,hwS]
  have hrm : r1∈rs:=List.mem_of_getElem? G8
  refine hR _ _ _ (by omega) ⟨j + 1,rfl,by omega,((s4.trans s5 (by simp)).po hrm),hset.congr fun x y _ _=>hwt x y,⟨rfl,rfl,by simp⟩⟩
 obtain rfl : j=c.arrows.length:=by omega
 rw [List.take_length] at tb
 simp [fillF,pickL,gT4]
 have hls:=tb.ls hrl' (by omega)
 have hrows : ((List.range n).map fun (x : Nat)=>(List.range n).map fun (y : Nat)=>wt c.arrows (x : Int) (y : Int))=c.cg.rows:=by unfold Cg.rows; rw [hcn]; rfl
 have hls4 : Ls S4 (.slice (some ⟨S1.next,0,none⟩) n n) (rs.map (rowv n)) c.cg.rows:=by rw [← hrows]; exact hls
 have hrso : ∀ m∈(rs.map (rowv n)).flatMap ownsOf,S1.next < m∧m < S4.next:=fun m hm=>by
  obtain ⟨v',h1,h2⟩:=List.mem_flatMap.1 hm
  obtain ⟨r,hr,rfl⟩:=List.mem_map.1 h1
  simp [rowv,ownsOf] at h2
  subst h2
  obtain ⟨a1,a2,a3⟩:=hrs _ hr
  omega
 have hfrw : ∀ x∈c.old.take p,0≤x∧x < c.cg.n:=fun x hx=>ok.lt x (List.mem_of_mem_take hx)
 have hww : ∀ x y,0≤wt c.arrows x y∧wt c.arrows x y≤1000:=fun x y=>wt_bd ar1 x y
 generalize hfo : c.old.take p=fo at *
 have hfol : fo.length=p:=hrl
 have hL4 : S4.get (S.next + 2)=_:=(s4.2 _ (by omega) (hrsn _ (by omega))).trans hL3
 have gP4 : MapAt S4 (S.next + 1) [.int .i64] false (fun x : Int=>Value.int .i64 x) (plV c.old):=by
  obtain ⟨es,cc,e1,e2⟩:=gP3
  exact ⟨es,cc,by rw [s4.2 _ (by omega) (hrsn _ (by omega))]; exact e1,e2⟩
 clear hR hA
 have hfx : ∀ m∈ownsOf (Value.slice ra p rcap),m∉[S.next + 3]:=fun m hm hk=>by have:=hvrl m hm; simp at hk; omega
 have hrowT : ∀ (S' : AS) (i : Nat),True:=fun _ _=>trivial
 refine run_loop (fun m a' S'=>∃ i,m=p - i∧i≤p∧Same S4 S' [S.next + 3]∧S'.next=S4.next ∧
  S'.get (S.next + 3)=some (.row [.int .i64 n,va,vo,.int .i64 p,.slice none 0 0,.map (some (S.next + 1)),.slice ra p rcap,.int .i64 (offR (wt c.arrows) [] (fo.take i)),.slice (some ⟨S1.next,0,none⟩) n n,.map (some (S.next + 2))] 128 true true) ∧
  Has a' 152 [(1,ptr S.next),(3,ptr (S.next + 3)),(90,.slice ra p rcap),(91,.int .i64 p),(92,.int .i64 i)]) _ ⟨0,rfl,by omega,.refl _ _,rfl,gT4,⟨rfl,rfl,by simp [vi]⟩⟩ ?_
 rintro _ R hR _ S5 ⟨i,rfl,hi,s5,hn5,gT5,hA⟩
 obtain ⟨z,rfl⟩:=hA.lit
 have hfr5 : Is S5 (.slice ra p rcap) fo:=(hfrS.stay0 s04).stays s5 hfx
 have g05 : S5.get S.next=_:=(s5.2 _ (by omega) (by simp)).trans g04
 by_cases hlt : i < p
 ·have hlt' : (i : Int) < p:=by omega
  have hif : i < fo.length:=by omega
  obtain ⟨q,o,cells,e,wr,ex,h1,h2,h3,h4,h5⟩:=hfr5.at hif
  obtain ⟨vs',k1,k2,k3⟩:=hfr5.slc (lo:=none) (hi:=some (.int .i64 i)) (i:=0) (j:=i) (.inl ⟨rfl,rfl⟩) (.inr rfl) (by omega) (by omega)
  rw [List.drop_zero] at k2
  have hil : (fo.take i).length=i:=by simp; omega
  obtain ⟨sa,scap,rfl⟩:=k2.shape
  rw [hil] at k1 k2 k3
  have hwS:=wrapS (show i < 9223372036854775807 by omega)
  simp [fillF,pickL,hlt,hlt',h1,h2,h5,gT5,k1]
  have hxb:=hfrw fo[i] (List.getElem_mem hif)
  have hb0:=offR_bd hww (fo.take i) [] (by simp; omega)
  rw [hil] at hb0
  have e1 : fo.take (i + 1)=fo.take i ++ [fo[i]]:=List.take_succ_eq_append_getElem hif
  have e2:=offR_snoc (wt c.arrows) (fo.take i) fo[i]
  have hB1 : ∀ j,0≤isum (((fo.take i).map (wt c.arrows fo[i])).take j)∧isum (((fo.take i).map (wt c.arrows fo[i])).take j)≤24000:=fun j=>by
   have:=isum_bd (l:=((fo.take i).map (wt c.arrows fo[i])).take j) fun y hy=>by
    obtain ⟨z,_,rfl⟩:=List.mem_map.1 (List.mem_of_mem_take hy)
    exact hww fo[i] z
   have : (((fo.take i).map (wt c.arrows fo[i])).take j).length≤24:=by rw [List.length_take,List.length_map,hil]; omega
   omega
  refine run_loop (fun m a' S'=>∃ j,m=i - j∧j≤i∧Same S4 S' [S.next + 3]∧S'.next=S4.next ∧
   S'.get (S.next + 3)=some (.row [.int .i64 n,va,vo,.int .i64 p,.slice none 0 0,.map (some (S.next + 1)),.slice ra p rcap,.int .i64 (offR (wt c.arrows) [] (fo.take i) + isum (((fo.take i).map (wt c.arrows fo[i])).take j)),.slice (some ⟨S1.next,0,none⟩) n n,.map (some (S.next + 2))] 128 true true) ∧
   Has a' 152 [(1,ptr S.next),(3,ptr (S.next + 3)),(10,.int .i64 fo[i]),(90,.slice ra p rcap),(91,.int .i64 p),(92,.int .i64 i),(102,.slice sa i scap),(103,.int .i64 i),(104,.int .i64 j)]) _ ⟨0,rfl,by omega,s5,hn5,by simpa [isum] using gT5,⟨rfl,rfl,by simp [vi]⟩⟩ ?_
  clear hA gT5
  rintro _ R2 hR2 _ S6 ⟨j,rfl,hj,s6,hn6,gT6,hA⟩
  obtain ⟨z,rfl⟩:=hA.lit
  by_cases hjl : j < i
  ·have hjl' : (j : Int) < i:=by omega
   have k26 : Is S6 (.slice sa i scap) (fo.take i):=by
    have hk0 : Is S (.slice sa i scap) (fo.take i):=by
     have:=k2.back (S:=S4) (S':=S5)
     exact ((k2.stays (S':=S5) (.refl S5 []) (by simp)) |> fun hh=>by
      refine ⟨hh.small,?_⟩
      rcases hh.c with h | ⟨p',o',cap',cells',e',wr',ex',e0,a1,a2,a3,a4,a5,a6⟩
      ·exact .inl h
      ·have hp' : p' < S.next:=hvrl p' (k3 p' (by rw [e0]; simp [ownsOf]))
       refine .inr ⟨p',o',cap',cells',e',wr',ex',e0,a1,?_,hp',a4,a5,a6⟩
       rw [← s04.2 p' hp' (by simp),← s5.2 p' (by omega) (by simp; omega)]; exact a2)
    exact (hk0.stay0 s04).stays s6 (fun m hm hk=>by have:=hvrl m (k3 m hm); simp at hk; omega)
   obtain ⟨q',o',cells',e',wr',ex',b1',b2',b3',b4',b5'⟩:=k26.at (i:=j) (by omega)
   have hjf : (fo.take i)[j]'(by omega)=fo[j]:=by simp
   rw [hjf] at b5'
   have hyb:=hfrw fo[j] (List.getElem_mem (by omega))
   have hls6 : Ls S6 (.slice (some ⟨S1.next,0,none⟩) n n) (rs.map (rowv n)) c.cg.rows:=hls4.sb (SB.of0 s6 (Nat.le_refl _)) (fun m hm=>by simp [ownsOf] at hm; simp; omega) (fun m hm=>by have:=hrso m hm; simp; omega)
   obtain ⟨p1,o1,cs1,te1,w1,x1,bb,bc,p2,o2,cs2,te2,w2,x2,c1,c2,c3,c4,c5,c6,c7,c8⟩:=paid_at' hls6 hxb hyb
   rw [hcn] at c3 c4
   have hwj:=hww fo[i] fo[j]
   have hb1:=hB1 j
   have hcw : c.cg.w fo[i] fo[j]=wt c.arrows fo[i] fo[j]:=rfl
   rw [hcw] at c6
   have hwSj:=wrapS (show j < 9223372036854775807 by omega)
   have htk:=isum_take ((fo.take i).map (wt c.arrows fo[i])) (i:=j) (by rw [List.length_map,hil]; exact hjl)
   have hel : ((fo.take i).map (wt c.arrows fo[i]))[j]'(by rw [List.length_map,hil]; exact hjl)=wt c.arrows fo[i] fo[j]:=by simp
   rw [hel] at htk
   have hs : IntKind.i64.wrap (offR (wt c.arrows) [] (fo.take i) + isum (((fo.take i).map (wt c.arrows fo[i])).take j) + wt c.arrows fo[i] fo[j])=offR (wt c.arrows) [] (fo.take i) + isum (((fo.take i).map (wt c.arrows fo[i])).take (j + 1)):=by
    rw [htk,wrap64 (by omega) (by omega)]; omega
   generalize hacc : offR (wt c.arrows) [] (fo.take i) + isum (((fo.take i).map (wt c.arrows fo[i])).take j)=acc at *
   generalize hacc' : offR (wt c.arrows) [] (fo.take i) + isum (((fo.take i).map (wt c.arrows fo[i])).take (j + 1))=acc' at *
   simp [fillF,pickL,hjl,hjl',b1',b2',b5',gT6,c1,c2,c3,c4,c5,c6,hs,rowStore,okc,splice,hwSj]
   refine hR2 _ _ _ (by omega) ⟨j + 1,rfl,by omega,s6.po (by simp),by simpa using hn6,by rw [AS.get_put_self,hacc'],⟨rfl,rfl,by simp⟩⟩
  obtain rfl : j=i:=by omega
  have hfin : offR (wt c.arrows) [] (fo.take j) + isum (((fo.take j).map (wt c.arrows fo[j])).take j)=offR (wt c.arrows) [] (fo.take (j + 1)):=by
   have e3 : ((fo.take j).map (wt c.arrows fo[j])).take j=(fo.take j).map (wt c.arrows fo[j]):=List.take_of_length_le (by rw [List.length_map,hil]; exact Nat.le_refl _)
   rw [e3,e1,e2]
  rw [hfin] at gT6
  simp [fillF,pickL,hwS]
  exact hR _ _ _ (by omega) ⟨j + 1,rfl,by omega,s6,hn6,gT6,⟨rfl,rfl,by simp⟩⟩
 obtain rfl : i=p:=by omega
 rw [List.take_of_length_le (Nat.le_of_eq hfol)] at gT5
 simp [fillF,pickL,g05]
 clear hR hA
 have hcgf : ∀ k,(((List.range k).map fun (x : Nat)=>(x : Int)).filter fun x=>decide (x∉fo)).length≤k:=fun k=>by
  have:=List.length_filter_le (fun x=>decide (x∉fo)) ((List.range k).map fun (x : Nat)=>(x : Int))
  simpa using this
 have hsn : ∀ k : Nat,(((List.range (k + 1)).map fun (x : Nat)=>(x : Int)).filter fun x=>decide (x∉fo))=(((List.range k).map fun (x : Nat)=>(x : Int)).filter fun x=>decide (x∉fo)) ++ if (k : Int)∈fo then [] else [(k : Int)]:=fun k=>by
  rw [List.range_succ,List.map_append,List.filter_append]
  by_cases hk : (k : Int)∈fo <;> simp [hk]
 have s5':=s5
 refine run_loop (fun m a' S'=>∃ (k : Nat) (vf : Value),m=n - k∧k≤n∧Same S5 S' [S.next + 3]∧Ow S' vf (((List.range k).map fun (x : Nat)=>(x : Int)).filter fun x=>decide (x∉fo))∧(∀ m∈ownsOf vf,S5.next≤m) ∧
  S'.get (S.next + 3)=some (.row [.int .i64 n,va,vo,.int .i64 i,vf,.map (some (S.next + 1)),.slice ra i rcap,.int .i64 (offR (wt c.arrows) [] fo),.slice (some ⟨S1.next,0,none⟩) n n,.map (some (S.next + 2))] 128 true true) ∧
  Has a' 152 [(1,ptr S.next),(3,ptr (S.next + 3)),(129,.int .i64 n),(130,.int .i64 k)]) _ ⟨0,.slice none 0 0,rfl,by omega,.refl _ _,Ow.nil,by simp [ownsOf],gT5,⟨rfl,rfl,by simp⟩⟩ ?_
 clear gT5
 rintro _ R hR _ S6 ⟨k,vf,rfl,hk,s6,how,hvo,gT6,hA⟩
 obtain ⟨z,rfl⟩:=hA.lit
 have hn6:=s6.1
 have s46 : Same S4 S6 [S.next + 3]:=s5.trans s6 (fun m hm _=>hm)
 have hfr6 : Is S6 (.slice ra i rcap) fo:=(hfrS.stay0 s04).stays s46 hfx
 by_cases hlt : k < n
 ·have hlt' : (k : Int) < n:=by omega
  have hwS:=wrapS (show k < 9223372036854775807 by omega)
  simp [fillF,pickL,hlt,hlt',gT6]
  refine contains_ok hfr6 ?_
  have hk1:=hsn k
  by_cases hin : (k : Int)∈fo
  ·rw [if_pos hin,List.append_nil] at hk1
   simp [hin,hwS]
   exact hR _ _ _ (by omega) ⟨k + 1,vf,rfl,by omega,s6,by rw [hk1]; exact how,hvo,gT6,⟨rfl,rfl,by simp⟩⟩
  ·rw [if_neg hin] at hk1
   simp [hin,gT6,placeIn,splice]
   obtain ⟨T',a',f1,f2,f3,f4,f5⟩:=how.app (T:=(S6.bump 2).put S6.next (.row [.int .i64 (k : Int)] 3 true true)) (y:=.slice (some ⟨S6.next,0,none⟩) 1 1) (m:=[(k : Int)]) (fr:=S6.next + 1) (by have:=hcgf k; simp only [List.length_singleton]; omega)
    (by repeat' first | exact Same.refl _ _ | apply Same.bu | (refine Same.pn ?_ (by first | omega | (simp; omega)))) (Is.one (wr:=true) (ex:=true) (by simp) (by simp)) (by simp) (by omega)
   simp only [List.length_cons,List.length_nil,Nat.zero_add] at f1 f2 f5
   have gT7 : T'.get (S.next + 3)=_:=(f3.2 _ (by omega) (fun hm=>by have:=hvo _ hm; omega)).trans gT6
   simp [f1,gT7,rowStore,okc,splice,hwS]
   have hfo' : ∀ m∈ownsOf (Value.slice a' ((((List.range k).map fun (x : Nat)=>(x : Int)).filter fun x=>decide (x∉fo)).length + 1) ((((List.range k).map fun (x : Nat)=>(x : Int)).filter fun x=>decide (x∉fo)).length + 1)),S5.next≤m:=fun m hm=>by
    rcases f5 m hm with h | h
    ·exact hvo m h
    ·omega
   refine hR _ _ _ (by omega) ⟨k + 1,_,rfl,by omega,?_,?_,hfo',by rw [AS.get_put_self]; simp,⟨rfl,rfl,by simp⟩⟩
   ·exact (s6.trans f3 (fun m hm hl=>by have:=hvo m hm; omega)).po (by simp)
   ·rw [hk1]
    exact f2.stays (same_put T' _ _) (fun m hm hk=>by have:=hfo' m hm; simp at hk; omega)
 obtain rfl : n=k:=by omega
 simp [fillF,pickL]
 have s06 : Same S S6 []:=s04.trans s46 (fun m hm hl=>by simp at hm; omega)
 have hfrt : c.cg.front=fo:=by rw [← hfo]; show c.old.take c.passed.toNat=c.old.take i; rw [show c.passed.toNat=i from hcp]
 have hfree : c.cg.free=(((List.range n).map fun (x : Nat)=>(x : Int)).filter fun x=>decide (x∉fo)):=by unfold Cg.free; rw [hfrt,hcn]
 have hL6 : S6.get (S.next + 2)=some (.map [] 0):=(s46.2 _ (by omega) (by simp)).trans hL4
 have hown:=h.old.cs.lt
 refine hq S6 ⟨va,vo,vf,.slice ra i rcap,.slice (some ⟨S1.next,0,none⟩) n n,rs.map (rowv n),S.next + 1,S.next + 2,S.next + 3,S6.next⟩ s06 ?_ ?_ rfl rfl (by simp only; omega) (by simp only; omega) ?_
 ·refine ⟨?_,h.old.stay0 s06,by rw [hfree]; exact how.is,by rw [hfrt]; exact hfr6,?_,hls4.sb (SB.of0 s46 (Nat.le_refl _)) (fun m hm=>by simp [ownsOf] at hm; simp; omega) (fun m hm=>by have:=hrso m hm; simp; omega),⟨by simp only; omega,by simp only; omega,by simp only; omega,Nat.le_refl _⟩,⟨by simp,by simp⟩,?_,?_,?_,?_,?_⟩
  ·rw [gT6]
   unfold TkV.row
   rw [hcn,hcp]
   have hb : c.cg.goal.base=offR (wt c.arrows) [] fo:=by show offR c.cg.w [] c.cg.front=_; rw [hfrt]; rfl
   rw [hb]
  ·obtain ⟨es,cc,e1,e2⟩:=gP4
   exact ⟨es,cc,(s46.2 (S.next + 1) (by omega) (by simp)).trans e1,e2⟩
  ·intro m hm; have:=hown m hm; simp only [List.mem_singleton]; omega
  ·intro m hm
   have h1:=hvo m hm
   have h2:=how.owns_lt m hm
   simp only [List.mem_singleton]; omega
  ·intro m hm; have:=hvrl m hm; simp only [List.mem_singleton]; omega
  ·intro m hm; simp [ownsOf] at hm; simp only [List.mem_singleton]; omega
  ·intro m hm; have:=hrso m hm; simp only [List.mem_singleton]; omega
 ·exact ⟨fun _=>none,⟨[],0,hL6,Fnd.nil⟩,fun s v' _ hv=>by cases hv⟩
 ·intro m hm
  rcases hm with hm | hm | hm | hm | hm | hm | hm
  ·right; simp only at hm; omega
  ·right; simp only at hm; omega
  ·exact .inl hm
  ·right; have:=hvo m hm; omega
  ·exact .inl (hvrf m hm)
  ·right; simp [ownsOf] at hm; omega
  ·right; have:=hrso m hm; omega
end Go.Gx.Z
