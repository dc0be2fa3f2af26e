/-
  The best orders, one by one: lists and maps that are handed on.
-/
import Derived.Test.YtnhaainnhmmbfaaGreatPp
import Derived.Test.YtnhaainnhmmbfaaGreatPn
set_option linter.all false
set_option linter.deprecated false
namespace Go.Gx.Z
open Go.Gx Go.Proofs
set_option maxRecDepth 100000
set_option maxHeartbeats 4000000
theorem Oc.app1 {T : AS} {v : Value} {l : List Int} (h : Oc T v l) {fr y : Nat} {x : Int} {w e : Bool} (hl : l.length < 1000) (hy : T.get y=some (.row [.int .i64 x] 3 w e)) (hfr : fr < T.next) :
  ∃ T' a cap,appV T fr 3 1 8 v (.slice (some ⟨y,0,none⟩) 1 1)=some (.slice a (l.length + 1) cap,T')∧Oc T' (.slice a (l.length + 1) cap) (l ++ [x])∧Same T T' (fr :: ownsOf v)∧T'.next=T.next∧∀ m∈ownsOf (.slice a (l.length + 1) cap),m=fr∨m∈ownsOf v:=by
 have hs : srcCells T 1 (.slice (some ⟨y,0,none⟩) 1 1)=some (1,[.int .i64 x]):=by simp [srcCells,hy]
 rcases h with ⟨rfl,rfl⟩ | ⟨p,cap,rest,ex,rfl,h1,h2,h3,h4,h5⟩
 ·refine ⟨T.put fr (.row [.int .i64 x] 3 true false),some ⟨fr,0,none⟩,1,?_,.inr ⟨fr,1,[],false,rfl,rfl,rfl,by rw [AS.get_put_self]; rfl,hfr,by omega⟩,(same_put T fr _).mono (by simp),rfl,fun m hm=>.inl (by simpa [ownsOf] using hm)⟩
  unfold appV
  rw [hs]
  simp [vs]
 ·cases rest with
  | nil=>
   have hc : cap=l.length:=by simpa using h1.symm
   subst hc
   simp only [List.append_nil] at h3
   have hd : ((ints l).drop (0 + 0)).take (l.length * 1)=ints l:=by
    rw [List.drop_zero,Nat.mul_one,List.take_of_length_le (by simp)]
   cases ex with
   | true=>
    refine ⟨T.put fr (.row (ints (l ++ [x])) 3 true false),some ⟨fr,0,none⟩,l.length + 1,?_,.inr ⟨fr,l.length + 1,[],false,by simp,by simp,rfl,by rw [AS.get_put_self]; simp,hfr,by omega⟩,(same_put T fr _).mono (by simp),rfl,fun m hm=>.inl (by simpa [ownsOf] using hm)⟩
    unfold appV
    rw [hs]
    simp only []
    rw [if_neg (by omega),if_pos ⟨by omega,by omega,by omega⟩,h3]
    simp only [Nat.zero_add,Nat.mul_one,ints_len,Nat.le_refl,if_true,List.drop_zero,List.take_of_length_le (show (ints l).length≤l.length by simp)]
    simp [vs,ints]
   | false=>
    refine ⟨(T.put p .dead).put fr (.row (ints (l ++ [x])) 3 true false),some ⟨fr,0,none⟩,l.length + 1,?_,.inr ⟨fr,l.length + 1,[],false,by simp,by simp,rfl,by rw [AS.get_put_self]; simp,by simpa using hfr,by omega⟩,?_,rfl,fun m hm=>.inl (by simpa [ownsOf] using hm)⟩
    ·unfold appV
     rw [hs]
     simp only []
     rw [if_neg (by omega),if_pos ⟨by omega,by omega,by omega⟩,h3]
     simp only [Nat.zero_add,Nat.mul_one,ints_len,Nat.le_refl,if_true,List.drop_zero,List.take_of_length_le (show (ints l).length≤l.length by simp)]
     simp [vs,ints,okc]
    ·exact ((Same.refl _ _).po (by simp [ownsOf])).po (by simp)
  | cons r0 rest=>
   simp only [List.length_cons] at h1
   have hst : rowStore (ints l ++ r0 :: rest) (0 + l.length * 1) [.int .i64 x]=some (ints (l ++ [x]) ++ rest):=by
    unfold rowStore
    rw [if_pos ⟨by simp,rfl⟩]
    have:=splice_app (A:=ints l) (B:=[r0]) (C:=[.int .i64 x]) (D:=rest) rfl
    simp only [ints_len,List.singleton_append] at this
    rw [Nat.zero_add,Nat.mul_one,this]
    simp [ints]
   refine ⟨T.put p (.row (ints (l ++ [x]) ++ rest) 3 true ex),some ⟨p,0,none⟩,cap,?_,.inr ⟨p,cap,rest,ex,by simp,by simp; omega,by simpa [List.all_cons] using (by rw [List.all_cons,Bool.and_eq_true] at h2; exact h2.2 : rest.all okc=true),by rw [AS.get_put_self],by simpa using h4,h5⟩,(same_put T p _).mono (by simp [ownsOf]),rfl,fun m hm=>.inr (by simpa [ownsOf] using hm)⟩
   unfold appV
   rw [hs]
   simp only []
   rw [if_pos (by omega),h3]
   simp only [hst]
   simp
theorem len_free {c : Cg} (h : CgOk c) : c.front.length + c.free.length=c.n:=by
 have h1 : (((List.range c.n).map fun (x : Nat)=>(x : Int)).filter fun x=>decide (x∈c.front)).Perm c.front:=by
  have hnd : ((List.range c.n).map fun (x : Nat)=>(x : Int)).Nodup:=List.pairwise_map.2 (List.Pairwise.imp (fun h e=>h (Int.ofNat.inj e)) (List.nodup_range (n:=c.n)))
  refine (List.perm_ext_iff_of_nodup (hnd.sublist List.filter_sublist) (front_nodup h)).2 fun x=>?_
  rw [List.mem_filter,decide_eq_true_eq,List.mem_map]
  constructor
  ·exact fun g=>g.2
  ·intro g
   have:=h.lt x (List.mem_of_mem_take g)
   exact ⟨⟨x.toNat,by simp; omega,by omega⟩,g⟩
 have h2:=h1.length_eq
 have h3 : ∀ l : List Int,(l.filter fun x=>decide (x∈c.front)).length + (l.filter fun x=>decide (x∉c.front)).length=l.length:=fun l=>by
  induction l with
  | nil=>rfl
  | cons a l ih=>
   simp only [List.filter_cons,List.length_cons]
   by_cases ha : a∈c.front <;> simp [ha] <;> simp at ih <;> omega
 have h4:=h3 ((List.range c.n).map fun (x : Nat)=>(x : Int))
 rw [h2,List.length_map,List.length_range] at h4
 exact h4
theorem order_len (c : Cg) (q : List Nat) : (c.order q).length=c.front.length + q.length:=by simp [Cg.order]
theorem order_snoc (c : Cg) (q : List Nat) (i : Nat) : c.order (q ++ [i])=c.order q ++ [c.tk.at' i]:=by simp [Cg.order]
abbrev enc (p : St × Cost) : (Int × Int) × Value:=(((p.1.1 : Int),p.1.2),cV p.2)
abbrev key2 : Int × Int→Value:=fun x=>Value.agg #[.int .i64 x.1,.int .i64 x.2]
def AtL (c : Cg) (q : List Nat) (L : List (St × Cost)) : Prop:=∀ s d,(s,d)∈L↔c.goal.At q s d

structure FV where
 v : TkV
 l : Nat
 ct : Nat
 cy : Nat
 cT : Nat
 cf : Nat
 B : Nat
structure FE (S : AS) (x : FV) (c : Cg) : Prop where
 t : TkAt S x.v c
 le : LeastAt S x.v.lm c
 gt : S.get x.ct=some (.row [ptr x.v.d] 81 true true)
 gy : S.get x.cy=some (.row [.func (.yield x.l) #[] #[]] 135 true true)
 gT : S.get x.cT=some (.row [.int .i64 c.goal.total.1,.int .i64 c.goal.total.2] 79 true true)
 gf : S.get x.cf=some (.row [.func (.func 74) #[] #[ptr x.ct,ptr x.cy,ptr x.cT,ptr x.cf]] 136 true true)
 lt : x.ct < x.B∧x.cy < x.B∧x.cT < x.B∧x.cf < x.B∧x.v.B≤x.B∧x.B≤S.next
 ne : x.ct≠x.v.lm∧x.cy≠x.v.lm∧x.cT≠x.v.lm∧x.cf≠x.v.lm
theorem FE.keep {S S' : AS} {x : FV} {c : Cg} (h : FE S x c) (hs : SB x.B S S' [x.v.lm]) (hl : LeastAt S' x.v.lm c) : FE S' x c:=by
 obtain ⟨l1,l2,l3,l4,l5,l6⟩:=h.lt
 obtain ⟨n1,n2,n3,n4⟩:=h.ne
 exact ⟨h.t.sb (hs.le l5),hl,by rw [hs.2 _ l1 (by simpa using n1)]; exact h.gt,by rw [hs.2 _ l2 (by simpa using n2)]; exact h.gy,by rw [hs.2 _ l3 (by simpa using n3)]; exact h.gT,
  by rw [hs.2 _ l4 (by simpa using n4)]; exact h.gf,⟨l1,l2,l3,l4,l5,Nat.le_trans l6 hs.1⟩,h.ne⟩
structure Cl (x : FV) (c : Cg) (ords : List (List Int)) (fpc : List Nat) (I : Nat→AS→Prop) (D : AS→Prop) : Prop where
 fe : ∀ n S,I n S→FE S x c
 mv : ∀ n S S' fo,I n S→Same S S' (x.v.lm :: fo)→(∀ m∈fo,x.B≤m∧∃ ds,S.get m=some (.defd ds))→LeastAt S' x.v.lm c→I n S'
 dm : ∀ S S' fo,D S→Same S S' fo→(∀ m∈fo,x.B≤m∧∃ ds,S.get m=some (.defd ds))→D S'
 fp : ∀ m∈fpc,m < x.B
 rd : ∀ n q w S (P : En→AS→Prop),ords[n]?=some q→I n S→Oc S w q→(∀ m∈ownsOf w,x.B≤m)→(∀ S',I (n + 1) S'→Same S S' fpc→P (.ret (.bool true)) S')→(∀ S',D S'→Same S S' fpc→P (.ret (.bool false)) S')→CallRd G x.l [w] S P
def dsOf (ns : List Nat) : List Deferred:=ns.map fun n=>{ target:=.collected n,args:=#[] }
theorem drain_ok : ∀ (ns : List Nat) (S : AS),ns.Nodup→(∀ n∈ns,S.get n=some (.defd (some [])))→∃ S',drain (dsOf ns) S=some S'∧Same S S' ns∧S'.next=S.next
 | [],S,_,_=>⟨S,rfl,.refl _ _,rfl⟩
 | n :: ns,S,hn,h=>by
  rw [List.nodup_cons] at hn
  obtain ⟨S',h1,h2,h3⟩:=drain_ok ns (S.put n (.defd none)) hn.2 (fun m hm=>by rw [AS.get_put_ne _ _ (by rintro rfl; exact hn.1 hm)]; exact h m (by simp [hm]))
  refine ⟨S',?_,((same_put S n _).mono (by simp)).trans h2 (fun m hm _=>by simp [hm]),h3⟩
  show drain ({ target:=.collected n,args:=#[] } :: dsOf ns) S=some S'
  rw [drain_cons (h n (by simp))]; exact h1
def NS (c : Cg) (j : Nat) (done N : List (St × Cost)) : Prop:=∀ s' d',(s',d')∈N↔∃ s d cc,(s,d)∈done∧IsStep c.tk s j s' cc∧d'=cadd d cc∧cadd d' (c.tk.rest s')=c.goal.total
def FollowOK (x : FV) (c : Cg) (ords : List (List Int)) (fpc : List Nat) (I : Nat→AS→Prop) (D : AS→Prop) (k : Nat) (q : List Nat) : Prop:=
 ∀ (n : Nat) (S : AS) (Q : En→AS→Prop) (ov : Value) (am : Nat) (L : List (St × Cost)),I n S→Is S ov (c.order q)→(∀ m∈ownsOf ov,x.B≤m)→MapL S am key2 (L.map enc)→x.B≤am→am < S.next→AtL c q L→(∃ p,p∈L) →
  (∀ j o,((c.goal.bests k q).map c.order)[j]?=some o→ords[n + j]?=some o) →
  (∀ S',I (n + (c.goal.bests k q).length) S'→Same S S' (x.v.lm :: fpc)→Q (.ret (.bool true)) S')→(∀ S',D S'→Same S S' (x.v.lm :: fpc)→Q (.ret (.bool false)) S') →
  Call G 74 [ov,.map (some am),ptr x.ct,ptr x.cy,ptr x.cT,ptr x.cf] S Q
section
variable {x : FV} {c : Cg} {ords : List (List Int)} {fpc : List Nat} {I : Nat→AS→Prop} {D : AS→Prop}
theorem follow_zero (hC : Cl x c ords fpc I D) (ok : CgOk c) (sm : CgSm c) {q : List Nat} (hl : q.length=c.tk.f) : FollowOK x c ords fpc I D 0 q:=by
 intro n S Q ov am L hI hov hovB hM hamB ham hA ⟨⟨s0,d0⟩,hp⟩ hord hq hD
 have fe:=hC.fe n S hI
 have hb:=bests_zero (g:=c.goal) hl ((hA s0 d0).1 hp)
 rw [hb] at hord hq
 obtain ⟨oa,ocap,rfl⟩:=hov.shape
 have hlen : (c.order q).length=c.n:=by rw [order_len,hl]; exact len_free ok
 have hln : (c.order q).length≤24:=by rw [hlen]; exact sm.n
 refine call_run' (G:=G) rfl (ext_none (by decide)) ?_
 have hlen1 : ((c.order q).length=c.n)=True:=eq_true hlen
 have hlen2 : (((c.order q).length : Int)=c.n)=True:=eq_true (by omega)
 simp [fe.gt,fe.t.row,TkV.row,hlen1,hlen2,fe.gy]
 refine clone_ok hov (by omega) fun S1 ca cc hs1 hoc how=>?_
 have hlm:=fe.t.lt
 have hxl:=fe.lt
 have hn1:=hs1.1
 have hI1:=hC.mv n S S1 [] hI (hs1.mono (by simp)) (by simp) (fe.le.stay0 hs1 (by omega))
 have fe1:=hC.fe n S1 hI1
 simp [fe1.gy]
 refine hC.rd n (c.order q) _ S1 _ ?_ hI1 hoc (fun m hm=>by have:=how m hm; omega) (fun S2 hI2 hs2=>?_) (fun S2 hD2 hs2=>?_)
 ·have:=hord 0 (c.order q) (by simp)
  simpa using this
 ·have hk:=hovB
  have fe2:=hC.fe _ S2 hI2
  simp [fe2.gy,hlen1]
  refine hq S2 hI2 ?_
  exact (hs1.mono (by simp) : Same S S1 (x.v.lm :: fpc)).trans hs2 (fun m hm _=>by simp [hm])
 ·simp
  refine hD S2 hD2 ?_
  exact (hs1.mono (by simp) : Same S S1 (x.v.lm :: fpc)).trans hs2 (fun m hm _=>by simp [hm])
theorem follow_succ (hC : Cl x c ords fpc I D) (ok : CgOk c) (sm : CgSm c) {k : Nat} {q : List Nat} (hq : Good c.tk.f q) (hl : q.length + (k + 1)=c.tk.f) (IH : ∀ i,i < c.tk.f→Good c.tk.f (q ++ [i])→FollowOK x c ords fpc I D k (q ++ [i])) : FollowOK x c ords fpc I D (k + 1) q:=by
 intro n S Q ov am L hI hov hovB hM hamB ham hA hne hord hQ hD
 have fe:=hC.fe n S hI
 obtain ⟨oa,ocap,hovs⟩:=hov.shape
 have hll:=order_len c q
 have hlf:=len_free ok
 have hff : c.tk.f=c.free.length:=rfl
 have hlen : ¬ (c.order q).length=c.n:=by omega
 have hlen' : ¬ ((c.order q).length : Int)=c.n:=by omega
 obtain ⟨fa,fcap,hvf⟩:=fe.t.free.shape
 refine call_run' (G:=G) rfl (ext_none (by decide)) ?_
 rw [hovs]
 simp [fe.gt,fe.t.row,TkV.row,hlen,hlen',hvf]
 rw [← hovs]
 refine run_loop (fun m a' S'=>∃ j,m=c.free.length - j∧j≤c.free.length∧I (n + ((List.range j).flatMap fun i=>if i∈q then [] else c.goal.bests k (q ++ [i])).length) S'∧Same S S' (x.v.lm :: fpc)∧∃ ns : List Nat,ns.Nodup∧(∀ m∈ns,S'.get m=some (.defd (some []))∧S.next≤m∧m < S'.next)∧Has a' 104 [(0,ov),(1,.map (some am)),(2,ptr x.ct),(3,ptr x.cy),(4,ptr x.cT),(5,ptr x.cf),(34,.slice fa c.free.length fcap),(35,.int .i64 c.free.length),(36,.int .i64 j)] (dsOf ns)) _ ⟨0,rfl,by omega,by simpa using hI,.refl _ _,[],by simp,by simp,⟨rfl,rfl,by simp [vi,hvf]⟩⟩ ?_
 rintro _ R hR _ S1 ⟨j,rfl,hj,hI1,hs1,ns,hns,hnd,hA'⟩
 obtain ⟨z,rfl⟩:=hA'.lit
 have hxl:=fe.lt
 have hvl:=fe.t.lt
 have hfp : ∀ m∈x.v.lm :: fpc,m < x.B∨m=x.v.lm:=fun m hm=>by
  rcases List.mem_cons.1 hm with h | h
  ·exact .inr h
  ·exact .inl (hC.fp m h)
 have hn1:=hs1.1
 by_cases hlt : j < c.free.length
 ·have fe1:=hC.fe _ S1 hI1
  have hov1 : Is S1 ov (c.order q):=hov.stays hs1 (fun m hm hk=>by have:=hovB m hm; have:=hfp m hk; omega)
  have hM1 : MapL S1 am key2 (L.map enc):=hM.stays (hs1.2 am ham (fun hk=>by have:=hfp am hk; omega))
  have hfr:=fe1.t.free
  rw [hvf] at hfr
  obtain ⟨p,o,cells,e,wr,ex,h1,h2,h3,h4,h5⟩:=hfr.at hlt
  rw [free_get hlt] at h5
  have hsf:=sm.f
  have hwS:=wrapS (show j < 9223372036854775807 by omega)
  simp [fillF,pickL,hlt,h1,h2,h5,rowStore,okc,splice,Nat.add_assoc]
  generalize hS2 : AS.bump (AS.put (AS.put (AS.put (AS.bump (AS.put (AS.put (AS.bump S1 1) _ _) _ _) 2) _ _) _ _) _ _) 1=S2
  have hs2 : Same S1 S2 []:=by
   rw [← hS2]
   exact ((((((((Same.refl _ _).bu).pn (by omega)).pn (by omega)).bu).pn (by omega)).pn (by omega)).pn (by omega)).bu
  have g9 : S2.get S1.next=some (.row [.int .i64 j] 3 true true):=by rw [← hS2]; simp
  have g11 : S2.get (S1.next + 2)=some (.row [.map (some (S1.next + 1))] 92 true true):=by rw [← hS2]; simp
  have gm : S2.get (S1.next + 1)=some (.map [] 0):=by rw [← hS2]; simp
  have hn2 : S2.next=S1.next + 4:=by rw [← hS2]; simp
  clear hS2
  have hM2 : MapL S2 am key2 (L.map enc):=hM1.stays (hs2.2 am (by omega) (by simp))
  refine rng_run hM2 (by omega) rfl fun S3 hIt hs3 hn3=>?_
  simp
  have hs13 : Same S1 S3 []:=hs2.trans hs3 (fun m hm hl=>by simp at hm; omega)
  refine run_loop (fun m a' S'=>∃ (done rem N : List (St × Cost)) (ns : List Nat),m=rem.length∧L.Perm (done ++ rem)∧Same S1 S' [x.v.lm]∧S1.next + 4≤S'.next∧LeastAt S' x.v.lm c∧ItAt S' (S1.next + 3) am key2 (rem.map enc)∧MapL S' (S1.next + 1) key2 (N.map enc)∧NS c j done N ∧
   S'.get S1.next=some (.row [.int .i64 j] 3 true true)∧S'.get (S1.next + 2)=some (.row [.map (some (S1.next + 1))] 92 true true)∧ns.Nodup∧(∀ m∈ns,S'.get m=some (.defd (some []))∧S.next≤m∧m < S'.next) ∧
   Has a' 104 [(0,ov),(1,.map (some am)),(2,ptr x.ct),(3,ptr x.cy),(4,ptr x.cT),(5,ptr x.cf),(9,ptr S1.next),(10,.int .i64 (c.tk.at' j)),(11,ptr (S1.next + 2)),(34,.slice fa c.free.length fcap),(35,.int .i64 c.free.length),(36,.int .i64 j),(43,ptr (S1.next + 3))] (dsOf ns)) _ ⟨[],L,[],ns,rfl,by simp,hs13.mono (by simp),by omega,fe1.le.stay0 hs13 (by omega),hIt,⟨[],0,by rw [hs3.2 _ (by omega) (by simp)]; exact gm,.nil⟩,fun s' d'=>by simp,by rw [hs3.2 _ (by omega) (by simp)]; exact g9,by rw [hs3.2 _ (by omega) (by simp)]; exact g11,hns,fun m hm=>?_,⟨rfl,rfl,by simp⟩⟩ ?_
  ·obtain ⟨d1,d2,d3⟩:=hnd m hm
   exact ⟨by rw [hs13.2 _ d3 (by simp)]; exact d1,d2,by omega⟩
  rintro _ R2 hR2 _ S4 ⟨done,rem,N,ns2,rfl,hperm,hs4,hn4,hL4,hIt4,hM4,hNS,k9,k11,hns2,hnd2,hA4⟩
  obtain ⟨z2,rfl⟩:=hA4.lit
  simp [fillF,pickL]
  refine nxtm_run hIt4 rfl (by omega) (fun he=>?_) (fun i hi S5 hcur hs5 hn5=>?_)
  ·have hre : rem=[]:=by simpa using he
   subst hre
   simp
   have hdone : ∀ p,p∈done↔p∈L:=fun p=>by rw [hperm.mem_iff]; simp
   have hAt : AtL c (q ++ [j]) N:=fun s' d'=>by
    rw [hNS s' d',at_snoc]
    constructor
    ·rintro ⟨s,d,cc,h1,h2⟩; exact ⟨s,d,cc,(hA s d).1 ((hdone _).1 h1),h2⟩
    ·rintro ⟨s,d,cc,h1,h2⟩; exact ⟨s,d,cc,(hdone _).2 ((hA s d).2 h1),h2⟩
   have hrf:=range_flat (fun i=>if i∈q then [] else c.goal.bests k (q ++ [i])) j
   have hI4 : I (n + ((List.range j).flatMap fun i=>if i∈q then [] else c.goal.bests k (q ++ [i])).length) S4:=hC.mv _ S1 S4 [] hI1 (hs4.mono (by simp)) (by simp) hL4
   have fe4:=hC.fe _ S4 hI4
   have hb4 : Same S4 (S4.bump 2) []:=.bu (.refl _ _)
   have hne_m : ∀ m∈ns2,m≠x.v.lm:=fun m hm=>by
    have h:=(hnd2 m hm).1
    obtain ⟨fm,⟨es'',cc'',e4,_⟩,_⟩:=hL4
    intro e
    rw [e,e4] at h; cases h
   have hM4':=hM4
   obtain ⟨es,cc,me1,me2⟩:=hM4'
   have hel : es.length=N.length:=by have:=congrArg List.length me2.kv; simpa using this
   by_cases hN : N=[]
   ·have hel0 : es.length=0:=by rw [hel,hN]; rfl
    simp [k11,me1,hel0,undef]
    have hnx:=bests_next (g:=c.goal) (i:=j) hq hlt hl (fun s d h=>by have:=(hAt s d).2 h; rw [hN] at this; simp at this)
    have hI4b:=hC.mv _ S4 (S4.bump 2) [] hI4 (hb4.mono (by simp)) (by simp) (hL4.stay0 hb4 (by omega))
    simp only [hnx,List.append_nil] at hrf
    simp [hwS]
    refine hR _ _ _ (by omega) ⟨j + 1,rfl,by omega,by rw [hrf]; exact hI4b,?_,ns2,hns2,fun m hm=>⟨by rw [AS.get_bump]; exact (hnd2 m hm).1,(hnd2 m hm).2.1,by have:=(hnd2 m hm).2.2; simp; omega⟩,⟨rfl,rfl,by simp⟩⟩
    exact (hs1.trans hs4 (fun m hm _=>by simp at hm; simp [hm])).trans hb4 (by simp)
   ·have hpos : 0 < N.length:=List.length_pos_iff.2 hN
    have hel1 : 0 < es.length:=by omega
    have hel2 : (0 : Int) < es.length:=by omega
    obtain ⟨⟨s0,d0⟩,hsd0⟩:=List.exists_mem_of_ne_nil N hN
    have hgood:=at_good ((hAt s0 d0).1 hsd0)
    have hjq : j∉q:=fun h=>by
     have:=hgood.nd
     rw [List.nodup_append] at this
     exact this.2.2 j h j (by simp) rfl
    rw [if_neg hjq] at hrf
    have hov4 : Is S4 ov (c.order q):=hov1.stays hs4 (fun m hm hk=>by have:=hovB m hm; simp at hk; omega)
    simp [k11,me1,hel1,hel2,undef,fe4.gf,placeIn,splice]
    refine clone_ok (hov4.stay0 hb4) (by have:=sm.n; omega) fun S5 ca cc5 hs5 hoc5 how5=>?_
    have hn5:=hs5.1
    simp at hn5
    have hs45:=hb4.tr0 hs5
    have w11 : S5.get (S1.next + 2)=_:=(hs45.2 _ (by omega) (by simp)).trans k11
    have wm : S5.get (S1.next + 1)=_:=(hs45.2 _ (by omega) (by simp)).trans me1
    have hL5:=hL4.stay0 hs45 (by omega)
    have hI5:=hC.mv _ S4 S5 [] hI4 (hs45.mono (by simp)) (by simp) hL5
    have fe5:=hC.fe _ S5 hI5
    simp [w11,wm,hel1,hel2,undef,fe5.gf,placeIn,splice]
    have hol : (c.order q).length < 1000:=by have:=sm.n; omega
    have hcown : ∀ m∈ownsOf (Value.slice ca (c.order q).length cc5),S4.next + 2≤m:=fun m hm=>by have:=how5 m hm; simpa using this
    have hT5 : Same S5 (S5.put S4.next (AObj.row [Value.int IntKind.i64 (c.tk.at' j)] 3 true true)) [S4.next]:=.po (.refl _ _) (by simp)
    obtain ⟨U,ua,uc,f1,f2,f3,f4,f5⟩:=(hoc5.stays hT5 (fun m hm hk=>by have:=hcown m hm; simp at hk; omega)).app1 (fr:=S4.next + 1) (y:=S4.next) (x:=c.tk.at' j) hol (AS.get_put_self _ _ _) (by simp; omega)
    simp at f4
    have hs4U : Same S4 U []:=(hs45.trans hT5 (fun m hm hl=>by simp at hm; omega)).trans f3 (fun m hm hl=>by
     rcases List.mem_cons.1 hm with h | h
     ·omega
     ·have:=hcown m h; omega)
    have hLU:=hL4.stay0 hs4U (by omega)
    have hIU:=hC.mv _ S4 U [] hI4 (hs4U.mono (by simp)) (by simp) hLU
    have feU:=hC.fe _ U hIU
    have u11 : U.get (S1.next + 2)=_:=(hs4U.2 _ (by omega) (by simp)).trans k11
    have um : U.get (S1.next + 1)=_:=(hs4U.2 _ (by omega) (by simp)).trans me1
    have hMU : MapL U (S1.next + 1) key2 (N.map enc):=hM4.stays (hs4U.2 _ (by omega) (by simp))
    have hovU : Is U (.slice ua ((c.order q).length + 1) uc) (c.order (q ++ [j])):=by rw [order_snoc]; exact f2.is
    have hovUB : ∀ m∈ownsOf (Value.slice ua ((c.order q).length + 1) uc),x.B≤m:=fun m hm=>by
     rcases f5 m hm with h | h
     ·omega
     ·have:=hcown m h; omega
    simp [f1,u11,um,hel1,hel2,undef,feU.gf,calleeOf]
    have hord2 : ∀ jj o,((c.goal.bests k (q ++ [j])).map c.order)[jj]?=some o→ords[(n + ((List.range j).flatMap fun i=>if i∈q then [] else c.goal.bests k (q ++ [i])).length) + jj]?=some o:=by
     intro jj o ho
     have hsp : ∃ r,c.goal.bests (k + 1) q=(List.range j).flatMap (fun i=>if i∈q then [] else c.goal.bests k (q ++ [i])) ++ (c.goal.bests k (q ++ [j]) ++ r):=by
      rw [bests_succ]
      have hT : c.goal.T.f=c.tk.f:=rfl
      have h1 : List.range c.tk.f=List.range j ++ (j :: (List.range c.tk.f).drop (j + 1)):=by
       conv=>lhs; rw [← List.take_append_drop j (List.range c.tk.f)]
       rw [List.take_range,Nat.min_eq_left (by omega),List.drop_eq_getElem_cons (by simp; omega),List.getElem_range]
      rw [hT,h1,List.flatMap_append,List.flatMap_cons,if_neg hjq]
      exact ⟨_,rfl⟩
     obtain ⟨r,hsp⟩:=hsp
     have:=hord (((List.range j).flatMap (fun i=>if i∈q then [] else c.goal.bests k (q ++ [i]))).length + jj) o (by
      rw [hsp,List.map_append,List.getElem?_append_right (by simp),List.map_append,List.length_map,Nat.add_sub_cancel_left,List.getElem?_append_left (List.getElem?_eq_some_iff.1 ho).1]
      exact ho)
     rw [Nat.add_assoc]
     exact this
    refine IH j hlt hgood _ U _ _ (S1.next + 1) N hIU hovU hovUB hMU (by omega) (by omega) hAt ⟨_,hsd0⟩ hord2 (fun S7 hI7 hs7=>?_) (fun S7 hD7 hs7=>?_)
    ·have hn7:=hs7.1
     have fe7:=hC.fe _ S7 hI7
     have y11 : S7.get (S1.next + 2)=_:=(hs7.2 _ (by omega) (fun hk=>by have:=hfp _ hk; omega)).trans u11
     have ym : S7.get (S1.next + 1)=_:=(hs7.2 _ (by omega) (fun hk=>by have:=hfp _ hk; omega)).trans um
     simp [y11,ym,hel1,hel2,undef,fe7.gf,hwS]
     refine hR _ _ _ (by omega) ⟨j + 1,rfl,by omega,by rw [hrf,List.length_append,← Nat.add_assoc]; exact hI7,?_,ns2,hns2,fun m hm=>?_,⟨rfl,rfl,by simp⟩⟩
     ·exact ((hs1.trans hs4 (fun m hm _=>by simp at hm; simp [hm])).trans hs4U (by simp)).trans hs7 (fun m hm _=>hm)
     ·obtain ⟨a1,a2,a3⟩:=hnd2 m hm
      refine ⟨?_,a2,by omega⟩
      rw [hs7.2 m (by omega) (fun hk=>by have:=hfp _ hk; have:=hne_m m hm; omega),hs4U.2 m a3 (by simp)]; exact a1
    ·have hn7:=hs7.1
     have y11 : S7.get (S1.next + 2)=_:=(hs7.2 _ (by omega) (fun hk=>by have:=hfp _ hk; omega)).trans u11
     have ym : S7.get (S1.next + 1)=_:=(hs7.2 _ (by omega) (fun hk=>by have:=hfp _ hk; omega)).trans um
     simp [y11,ym,hel1,hel2,undef]
     have hdf : ∀ m∈ns2,S7.get m=some (.defd (some [])):=fun m hm=>by
      obtain ⟨a1,a2,a3⟩:=hnd2 m hm
      rw [hs7.2 m (by omega) (fun hk=>by have:=hfp _ hk; have:=hne_m m hm; omega),hs4U.2 m a3 (by simp)]; exact a1
     obtain ⟨S8,d1,d2,d3⟩:=drain_ok ns2 S7 hns2 hdf
     rw [d1]
     simp
     refine hD S8 (hC.dm S7 S8 ns2 hD7 d2 fun m hm=>⟨by have:=(hnd2 m hm).2.1; omega,_,hdf m hm⟩) ?_
     exact (((hs1.trans hs4 (fun m hm _=>by simp at hm; simp [hm])).trans hs4U (by simp)).trans hs7 (fun m hm _=>hm)).trans d2 (fun m hm hl=>by have:=(hnd2 m hm).2.1; omega)
  ·have hi' : i < rem.length:=by simpa using hi
   simp only [List.getElem_map] at hcur ⊢
   obtain ⟨⟨s,d⟩,hsd⟩ : ∃ p,rem[i]=p:=⟨_,rfl⟩
   rw [hsd] at hcur ⊢
   have hmem : (s,d)∈L:=hperm.mem_iff.2 (by simp [← hsd])
   obtain ⟨pc,hpath,hpd,_⟩:=(hA s d).1 hmem
   have hslt : s.1 < 2 ^ c.free.length:=path_lt q (0,c.goal.last0) pc s hpath (Nat.two_pow_pos _)
   have hpb:=path_bd sm q (0,c.goal.last0) pc s hpath
   have hbb:=base_bd sm
   have hdb : 0≤d.1∧d.1≤2000000∧0≤d.2∧d.2≤24:=by
    rw [hpd]; unfold cadd; simp only; omega
   simp
   refine entry_run hcur rfl ?_
   have hne_m : ∀ m∈ns2,m≠S1.next + 3∧m≠S1.next + 1∧m≠x.v.lm:=fun m hm=>by
    have h:=(hnd2 m hm).1
    obtain ⟨es,cc,seen,e1,e2,_⟩:=hIt4
    obtain ⟨es',cc',e3,_⟩:=hM4
    obtain ⟨fm,⟨es'',cc'',e4,_⟩,_⟩:=hL4
    refine ⟨fun e=>?_,fun e=>?_,fun e=>?_⟩
    ·rw [e,e2] at h; cases h
    ·rw [e,e3] at h; cases h
    ·rw [e,e4] at h; cases h
   simp [rowStore,okc,splice,Nat.add_assoc]
   generalize hS6 : AS.put (AS.put (AS.put (AS.put (AS.bump S5 2) _ _) _ _) _ _) _ _=S6
   have hs6 : Same S5 S6 []:=by
    rw [← hS6]
    exact (((((Same.refl _ _).bu).pn (by omega)).pn (by omega)).pn (by omega)).pn (by omega)
   have g12 : S6.get S5.next=some (.row [.int .i64 s.1,.int .i64 s.2] 89 true true):=by rw [← hS6]; simp
   have g13 : S6.get (S5.next + 1)=some (.row [.int .i64 d.1,.int .i64 d.2] 79 true true):=by rw [← hS6]; simp
   have hn6 : S6.next=S5.next + 2:=by rw [← hS6]; simp
   clear hS6
   have hs15 : Same S1 S5 [x.v.lm]:=hs4.trans hs5 (fun m hm hl=>by simp at hm; omega)
   have hs16 : Same S1 S6 [x.v.lm]:=hs15.trans hs6 (by simp)
   have hL5 : LeastAt S5 x.v.lm c:=hL4.stays (hs5.2 _ (by omega) (by simp; omega))
   have hL6 : LeastAt S6 x.v.lm c:=hL5.stay0 hs6 (by omega)
   have fe6 : FE S6 x c:=fe1.keep (SB.of0 hs16 (by omega)) hL6
   have k96 : S6.get S1.next=some (.row [.int .i64 j] 3 true true):=by rw [hs6.2 _ (by omega) (by simp),hs5.2 _ (by omega) (by simp)]; exact k9
   have k116 : S6.get (S1.next + 2)=some (.row [.map (some (S1.next + 1))] 92 true true):=by rw [hs6.2 _ (by omega) (by simp),hs5.2 _ (by omega) (by simp)]; exact k11
   have hM6 : MapL S6 (S1.next + 1) key2 (N.map enc):=(hM4.stays (hs5.2 _ (by omega) (by simp))).stays (hs6.2 _ (by omega) (by simp))
   simp [fe6.gt,g12]
   refine steps98_ok (s:=s) fun S7 hs7 hn7 kk1 kk2=>?_
   simp
   refine run_range rfl ?_
   simp
   generalize hS8 : ((S7.bump 2).put S7.next (.defd (some []))).put (S7.next + 1) _=S8
   obtain ⟨lo,hlo⟩ : ∃ lo,S8.get (S7.next + 1)=some lo:=by rw [← hS8]; exact ⟨_,AS.get_put_self _ _ _⟩
   have hlo':=hlo
   rw [← hS8,AS.get_put_self] at hlo'
   have hlo2:=Option.some.inj hlo'
   clear hlo'
   have gd : S8.get S7.next=some (.defd (some [])):=by rw [← hS8,AS.get_put_ne _ _ (by omega),AS.get_put_self]
   have hn8 : S8.next=S7.next + 2:=by rw [← hS8]; simp
   have hs78 : Same S7 S8 []:=by rw [← hS8]; exact (((Same.refl _ _).bu).pn (by omega)).pn (by omega)
   have hs68 : Same S6 S8 []:=hs7.tr0 hs78
   clear hS8
   have hL8:=hL6.stay0 hs68 (by omega)
   have fe8 : FE S8 x c:=fe6.keep (SB.of0 (hs68.mono (by simp)) (by omega)) hL8
   have hM8 : MapL S8 (S1.next + 1) key2 (N.map enc):=hM6.stays (hs68.2 _ (by omega) (by simp))
   have k98 : S8.get S1.next=_:=(hs68.2 _ (by omega) (by simp)).trans k96
   have k118 : S8.get (S1.next + 2)=_:=(hs68.2 _ (by omega) (by simp)).trans k116
   have g128 : S8.get S5.next=_:=(hs68.2 _ (by omega) (by simp)).trans g12
   have g138 : S8.get (S5.next + 1)=_:=(hs68.2 _ (by omega) (by simp)).trans g13
   simp [calleeOf]
   refine stepsF_ok (v:=x.v) sm hslt [x.v.lm,S7.next + 1,S1.next + 1] (fun m hm=>by simp at hm; omega)
    (fun dn S'=>Same S8 S' [x.v.lm,S7.next + 1,S1.next + 1]∧LeastAt S' x.v.lm c∧S'.get (S7.next + 1)=some lo∧∃ N' : List (St × Cost),MapL S' (S1.next + 1) key2 (N'.map enc)∧∀ s' d',(s',d')∈N'↔(s',d')∈N∨∃ cc,(j,s',cc)∈dn∧d'=cadd d cc∧cadd d' (c.tk.rest s')=c.goal.total) (fun _=>False) ?_ ?_ ?_ ?_ ?_
   ·exact ⟨.refl _ _,hL8,hlo,N,hM8,fun s' d'=>by simp⟩
   ·rintro dn S' ⟨q1,q2,q3,q4⟩
    refine ⟨q1.1,(fe8.keep ⟨q1.1,fun m hm hn=>q1.2 m (by omega) (fun hk=>by simp at hk hn; omega)⟩ q2).t,?_,?_⟩
    ·rw [q1.2 _ (by omega) (by simp; omega),hs78.2 _ (by omega) (by simp)]; exact kk1
    ·rw [q1.2 _ (by omega) (by simp; omega),hs78.2 _ (by omega) (by simp)]; exact kk2
   ·rintro dn S' S'' ⟨q1,q2,q3,N',q4,q5⟩ hs'
    have hn':=q1.1
    exact ⟨q1.trans hs' (by simp),q2.stay0 hs' (by omega),by rw [hs'.2 _ (by omega) (by simp)]; exact q3,N',q4.stays (hs'.2 _ (by omega) (by simp)),q5⟩
   ·rintro dn y rest S' P hst ⟨q1,q2,q3,N',q4,q5⟩ hP _
    have hx:=(mem_steps (i:=y.1) (to:=y.2.1) (c:=y.2.2)).1 (by rw [hst]; simp)
    obtain ⟨i',⟨t1,t2⟩,e1,e2⟩:=y
    rw [← hlo2] at q3
    refine callRd' q3 rfl ?_
    have hn':=q1.1
    have hSB : SB x.B S8 S' [x.v.lm]:=⟨q1.1,fun m hm hn=>q1.2 m (by omega) (fun hk=>by simp at hk hn; omega)⟩
    simp
    rw [AS.get_put_ne _ _ (by omega),AS.get_put_ne _ _ (by omega),AS.get_bump,q3,kra_ready]
    generalize hU0 : AS.put (AS.put (AS.put (AS.bump S' 1) _ _) _ _) _ _=U0
    have j0 : U0.get S'.next=some (.row [.int .i64 i',.int .i64 t1,.int .i64 t2,.int .i64 e1,.int .i64 e2] 101 true true):=by rw [← hU0,AS.get_put_ne _ _ (by omega),AS.get_put_self]
    have hu0 : Same S' U0 [S7.next + 1]:=by
     rw [← hU0]
     exact ((((Same.refl _ _).bu).pn (by omega)).pn (by omega)).po (by simp)
    have hnu0 : U0.next=S'.next + 1:=by rw [← hU0]; simp
    obtain ⟨lb,hlb,hlb2,hlb3⟩ : ∃ lb,U0.get (S7.next + 1)=some lb∧(∀ (P : En→AS→Prop) (U : AS),KRd (S7.next + 1) P .norm (some lb) U=P (.ret (.bool true)) (U.put (S7.next + 1) lo))∧True:=by
     rw [← hU0,AS.get_put_self]
     exact ⟨_,rfl,fun P U=>by rw [← hlo2]; rfl,trivial⟩
    clear hU0
    have hL0 : LeastAt U0 x.v.lm c:=q2.stays (by rw [hu0.2 _ (by omega) (by simp; omega)])
    have feU : FE U0 x c:=fe8.keep ⟨Nat.le_trans hSB.1 hu0.1,fun m hm hn=>by rw [hu0.2 m (by omega) (by simp; omega),hSB.2 m hm hn]⟩ hL0
    have u9 : U0.get S1.next=_:=(hu0.2 _ (by omega) (by simp; omega)).trans ((q1.2 _ (by omega) (by simp; omega)).trans k98)
    have u11 : U0.get (S1.next + 2)=_:=(hu0.2 _ (by omega) (by simp; omega)).trans ((q1.2 _ (by omega) (by simp; omega)).trans k118)
    have u13 : U0.get (S5.next + 1)=_:=(hu0.2 _ (by omega) (by simp; omega)).trans ((q1.2 _ (by omega) (by simp; omega)).trans g138)
    have uM : MapL U0 (S1.next + 1) key2 (N'.map enc):=q4.stays (hu0.2 _ (by omega) (by simp; omega))
    have fin : ∀ (U : AS) (N2 : List (St × Cost)),Same U0 U [x.v.lm,S1.next + 1]→LeastAt U x.v.lm c→MapL U (S1.next + 1) key2 (N2.map enc)→(∀ s' d',(s',d')∈N2↔(s',d')∈N'∨∃ cc,(j,s',cc)=(i',(t1,t2),(e1,e2))∧d'=cadd d cc∧cadd d' (c.tk.rest s')=c.goal.total)→KRd (S7.next + 1) P .norm (U.get (S7.next + 1)) U:=by
     intro U N2 w1 w2 w3 w4
     rw [w1.2 _ (by omega) (by simp; omega),hlb,hlb2 P U]
     have hs' : Same S' (U.put (S7.next + 1) lo) [x.v.lm,S7.next + 1,S1.next + 1]:=((hu0.mono (by simp) : Same S' U0 [x.v.lm,S7.next + 1,S1.next + 1]).trans w1 (fun m hm _=>by simp at hm ⊢; omega)).po (by simp)
     refine hP _ ⟨q1.trans hs' (fun m hm _=>hm),w2.stays (by rw [AS.get_put_ne _ _ (by omega)]),AS.get_put_self _ _ _,N2,w3.stays (by rw [AS.get_put_ne _ _ (by omega)]),fun s' d'=>?_⟩ hs'
     rw [w4,q5]
     constructor
     ·rintro ((h | ⟨cc,h1,h2⟩) | ⟨cc,h1,h2⟩)
      ·exact .inl h
      ·exact .inr ⟨cc,by simp [h1],h2⟩
      ·exact .inr ⟨cc,by rw [h1]; simp,h2⟩
     ·rintro (h | ⟨cc,h1,h2⟩)
      ·exact .inl (.inl h)
      ·rcases List.mem_append.1 h1 with h1 | h1
       ·exact .inl (.inr ⟨cc,h1,h2⟩)
       ·exact .inr ⟨cc,by simpa using h1,h2⟩
    by_cases hij : i'=j
    ·subst hij
     simp [j0,u9,u13]
     have hsb:=step_bd sm hx
     simp only at hx hsb
     refine add_ok (c:=d) (d:=(e1,e2)) (by unfold Bd; omega) (by unfold Bd; simp only; omega) fun U1 hu1=>?_
     have hnu1:=hu1.1
     simp at hnu1
     replace hu1 : Same U0 U1 []:=(Same.bu (.refl _ _)).tr0 hu1
     have hm1 : ∀ m,m < U0.next→U1.get m=U0.get m:=fun m hm=>hu1.2 m hm (by simp)
     have ne1 : ¬ S1.next + 2=U0.next:=by omega
     have ne2 : ¬ S'.next=U0.next:=by omega
     have hd'b : Bd (cadd d (e1,e2)):=by unfold Bd cadd; simp only; omega
     have hd'2 : ∃ cc,cc=(e1,e2)∧cadd d (e1,e2)=cadd d cc:=⟨_,rfl,rfl⟩
     obtain ⟨cc,hcc,hdd⟩:=hd'2
     generalize hd' : cadd d (e1,e2)=d' at *
     simp [-lookE_map,rowStore,okc,splice,hm1 _ (show S1.next + 2 < U0.next by omega),u11,hm1 _ (show S'.next < U0.next by omega),j0,ne1,ne2]
     generalize hU2 : AS.bump (AS.put (AS.put U1 _ _) _ _) 1=U2
     have hu2 : Same U1 U2 [U0.next]:=by rw [← hU2]; exact (((Same.refl _ _).po (by simp)).po (by simp)).bu
     have v15 : U2.get U0.next=some (.row [.int .i64 d'.1,.int .i64 d'.2] 79 true true):=by rw [← hU2,AS.get_bump,AS.get_put_self]
     have hnu2 : U2.next=U1.next + 1:=by rw [← hU2]; simp
     clear hU2
     have hu02 : Same U0 U2 []:=hu1.trans hu2 (fun m hm hl=>by simp at hm; omega)
     have hL2:=hL0.stay0 hu02 (by omega)
     have fe2 : FE U2 x c:=feU.keep (SB.of0 (hu02.mono (by simp)) (by have:=feU.lt; omega)) hL2
     have hM2' : MapL U2 (S1.next + 1) key2 (N'.map enc):=uM.stays (hu02.2 _ (by omega) (by simp))
     have w11 : U2.get (S1.next + 2)=_:=(hu02.2 _ (by omega) (by simp)).trans u11
     have wj0 : U2.get S'.next=_:=(hu02.2 _ (by omega) (by simp)).trans j0
     have hlook:=(hM2'.at keyInt2).look keyInt2 ((t1 : Int),t2) (.agg #[.int .i64 0,.int .i64 0]) true
     simp only [if_true] at hlook
     rw [hlook]
     simp only [runT_ret]
     generalize hlk : lkp (N'.map enc) ((t1 : Int),t2)=was at *
     have hwas : ∀ w,was=some w→∃ b,w=cV b∧((t1,t2),b)∈N':=fun w hw=>by
      obtain ⟨es,cc',f1,f2⟩:=hM2'
      rw [hw] at hlk
      have:=(lkp_some f2.nd).1 hlk
      obtain ⟨⟨⟨a1,a2⟩,b⟩,g1,g2⟩:=List.mem_map.1 this
      simp only [enc,Prod.mk.injEq] at g2
      obtain ⟨⟨g3,g4⟩,g5⟩:=g2
      have : a1=t1:=by omega
      subst this
      subst g4
      exact ⟨b,g5.symm,g1⟩
     obtain ⟨wv,hwv,hwv2⟩ : ∃ b : Cost,was.getD (.agg #[.int .i64 0,.int .i64 0])=cV b∧(was.isSome=true→((t1,t2),b)∈N'):=by
      cases hw : was with
      | none=>exact ⟨(0,0),rfl,by simp⟩
      | some w=>
       obtain ⟨b,rfl,hb⟩:=hwas w hw
       exact ⟨b,rfl,fun _=>hb⟩
     obtain ⟨wb,hwb⟩ : ∃ wb,was.isSome=wb:=⟨_,rfl⟩
     rw [hwv,hwb]
     rw [hwb] at hwv2
     simp [rowStore,okc,splice]
     generalize hU3 : AS.put (AS.put U2 U1.next _) U1.next _=U3
     have hu3 : Same U2 U3 [U1.next]:=by rw [← hU3]; exact ((Same.refl _ _).po (by simp)).po (by simp)
     have r16 : U3.get U1.next=some (.row [.int .i64 wv.1,.int .i64 wv.2] 79 true true):=by rw [← hU3,AS.get_put_self]
     have hnu3 : U3.next=U2.next:=by rw [← hU3]; rfl
     clear hU3
     have hu03 : Same U0 U3 []:=hu02.trans hu3 (fun m hm hl=>by simp at hm; omega)
     have r15 : U3.get U0.next=_:=(hu3.2 _ (by omega) (by simp; omega)).trans v15
     have r11 : U3.get (S1.next + 2)=_:=(hu3.2 _ (by omega) (by simp; omega)).trans w11
     have rj0 : U3.get S'.next=_:=(hu3.2 _ (by omega) (by simp; omega)).trans wj0
     have hL3:=hL0.stay0 hu03 (by omega)
     have fe3 : FE U3 x c:=feU.keep (SB.of0 (hu03.mono (by simp)) (by have:=feU.lt; omega)) hL3
     simp [r15,rj0,fe3.gt,fe3.gT]
     refine rest_ok sm _ (t1,t2) (Nat.le_refl _) (hx.set_lt hslt) U3 _ fe3.t fe3.le fun U4 hu4 hL4'=>?_
     have hnu4:=hu4.1
     have s15 : U4.get U0.next=_:=(hu4.2 _ (by omega) (by simp; omega)).trans r15
     have s16 : U4.get U1.next=_:=(hu4.2 _ (by omega) (by simp; omega)).trans r16
     have s11 : U4.get (S1.next + 2)=_:=(hu4.2 _ (by omega) (by simp; omega)).trans r11
     have sj0 : U4.get S'.next=_:=(hu4.2 _ (by omega) (by simp; omega)).trans rj0
     have fe4 : FE U4 x c:=fe3.keep (SB.of0 hu4 (by have:=fe3.lt; omega)) hL4'
     have hrb:=rest_bd sm (t1,t2)
     simp [s15,sj0,fe4.gt,fe4.gT]
     refine add_ok hd'b (by unfold Bd; omega) fun U5 hu5=>?_
     have hnu5:=hu5.1
     have y15 : U5.get U0.next=_:=(hu5.2 _ (by omega) (by simp)).trans s15
     have y16 : U5.get U1.next=_:=(hu5.2 _ (by omega) (by simp)).trans s16
     have y11 : U5.get (S1.next + 2)=_:=(hu5.2 _ (by omega) (by simp)).trans s11
     have yj0 : U5.get S'.next=_:=(hu5.2 _ (by omega) (by simp)).trans sj0
     have hL5':=hL4'.stay0 hu5 (by omega)
     have fe5 : FE U5 x c:=fe4.keep (SB.of0 (hu5.mono (by simp)) (by have:=fe4.lt; omega)) hL5'
     have hu05 : Same U0 U5 [x.v.lm]:=((hu03.mono (by simp) : Same U0 U3 [x.v.lm]).trans hu4 (fun m h _=>h)).trans hu5 (by simp)
     have hM5 : MapL U5 (S1.next + 1) key2 (N'.map enc):=uM.stays (hu05.2 _ (by omega) (by simp; omega))
     have hveq : veq [.int .i64,.int .i64] true (cV (cadd d' (c.tk.rest (t1,t2)))) (.agg #[.int .i64 c.goal.total.1,.int .i64 c.goal.total.2])=some (decide (cadd d' (c.tk.rest (t1,t2))=c.goal.total)):=keyInt2.eq (cadd d' (c.tk.rest (t1,t2))) c.goal.total
     by_cases het : cadd d' (c.tk.rest (t1,t2))=c.goal.total
     ·rw [decide_eq_true het] at hveq
      simp [y15,yj0,fe5.gt,fe5.gT,hveq,undef]
      cases wb with
      | true=>
       have hin:=hwv2 rfl
       have htot : cadd wv (c.tk.rest (t1,t2))=c.goal.total:=by
        rcases (q5 _ _).1 hin with h | ⟨_,_,_,h⟩
        ·obtain ⟨_,_,_,_,_,_,h⟩:=(hNS _ _).1 h; exact h
        ·exact h
       have hwd : wv=d':=cadd_cancel (htot.trans het.symm)
       subst hwd
       simp [y15,y16,yj0,undef]
       refine less_ok (c:=wv) (d:=wv) fun U6 hu6=>?_
       have hirr : clt wv wv=false:=clt_not.2 (cle_refl wv)
       have hnu6:=hu6.1
       have zj0 : U6.get S'.next=_:=(hu6.2 _ (by omega) (by simp)).trans yj0
       have z15 : U6.get U0.next=_:=(hu6.2 _ (by omega) (by simp)).trans y15
       have z16 : U6.get U1.next=_:=(hu6.2 _ (by omega) (by simp)).trans y16
       simp [hirr,zj0,z15,z16,undef]
       refine fin U6 N' ((hu05.trans hu6 (by simp)).mono (by simp)) (hL5'.stay0 hu6 (by omega)) (hM5.stays (hu6.2 _ (by omega) (by simp))) fun s' e'=>⟨.inl,?_⟩
       rintro (h | ⟨cc',h1,h2,h3⟩)
       ·exact h
       ·simp only [Prod.mk.injEq] at h1
        obtain ⟨_,rfl,rfl⟩:=h1
        rw [hd'] at h2
        subst h2
        exact hin
      | false=>
       obtain ⟨ob,hms,hM6'⟩:=hM5.mset keyInt2 ((t1 : Int),t2) (cV d')
       simp only at hms
       simp [y15,y16,y11,yj0,undef,-msetE_map,hms]
       have hnone : lkp (N'.map enc) ((t1 : Int),t2)=none:=by rw [hlk]; simpa using hwb
       rw [aset_new hnone] at hM6'
       have hM7 : MapL (U5.put (S1.next + 1) ob) (S1.next + 1) key2 ((N' ++ [((t1,t2),d')]).map enc):=by simpa using hM6'
       refine fin _ (N' ++ [((t1,t2),d')]) ((hu05.mono (by simp)).po (by simp)) (hL5'.stays (by rw [AS.get_put_ne _ _ (by omega)])) hM7 fun s' e'=>?_
       rw [List.mem_append]
       constructor
       ·rintro (h | h)
        ·exact .inl h
        ·simp only [List.mem_singleton,Prod.mk.injEq] at h
         obtain ⟨rfl,rfl⟩:=h
         exact .inr ⟨(e1,e2),rfl,hd'.symm,het⟩
       ·rintro (h | ⟨cc',h1,h2,h3⟩)
        ·exact .inl h
        ·simp only [Prod.mk.injEq] at h1
         obtain ⟨_,rfl,rfl⟩:=h1
         rw [hd'] at h2
         subst h2
         exact .inr (by simp)
     ·rw [decide_eq_false het] at hveq
      simp [y15,yj0,fe5.gt,fe5.gT,hveq,undef]
      refine fin U5 N' (hu05.mono (by simp)) hL5' hM5 fun s' e'=>⟨.inl,?_⟩
      rintro (h | ⟨cc',h1,h2,h3⟩)
      ·exact h
      ·simp only [Prod.mk.injEq] at h1
       obtain ⟨_,rfl,rfl⟩:=h1
       rw [hd'] at h2
       subst h2
       exact absurd h3 het
    ·have hij' : ¬ (i' : Int)=(j : Int):=by omega
     simp [j0,u9,hij,hij']
     refine fin U0 N' (.refl _ _) hL0 uM fun s' d'=>⟨.inl,?_⟩
     rintro (h | ⟨cc,h1,_⟩)
     ·exact h
     ·simp only [Prod.mk.injEq] at h1
      exact absurd h1.1.symm hij
   ·rintro S' (⟨q1,q2,q3,N',q4,q5⟩ | hf)
    ·rw [← hlo2] at q3
     have hn':=q1.1
     simp only [krg_ret,q3,kre_ready]
     generalize hS9 : AS.put S' (S7.next + 1) _=S9
     have hs9 : Same S8 S9 [x.v.lm,S7.next + 1,S1.next + 1]:=by rw [← hS9]; exact q1.po (by simp)
     have hn9 : S9.next=S'.next:=by rw [← hS9]; rfl
     have hL9 : LeastAt S9 x.v.lm c:=q2.stays (by rw [← hS9,AS.get_put_ne _ _ (by omega)])
     have hM9 : MapL S9 (S1.next + 1) key2 (N'.map enc):=q4.stays (by rw [← hS9,AS.get_put_ne _ _ (by omega)])
     clear hS9
     have hs59 : Same S5 S9 [x.v.lm,S7.next + 1,S1.next + 1]:=(hs6.tr0 hs68 |>.mono (by simp) : Same S5 S8 [x.v.lm,S7.next + 1,S1.next + 1]).trans hs9 (fun m hm _=>hm)
     simp
     refine hR2 _ _ _ (by rw [List.length_eraseIdx_of_lt hi']; omega) ⟨done ++ [(s,d)],rem.eraseIdx i,N',S7.next :: ns2,rfl,?_,?_,by omega,hL9,?_,hM9,?_,?_,?_,?_,?_,⟨rfl,rfl,by simp⟩⟩
     ·refine hperm.trans ?_
      have:=(perm_pick hi').append_left done
      rw [hsd] at this
      refine this.trans ?_
      simp
     ·exact hs15.trans hs59 (fun m hm hl=>by simp at hm ⊢; omega)
     ·have:=hcur.1.stays (S':=S9) (hs59.2 am (by omega) (by simp; omega)) (hs59.2 _ (by omega) (by simp; omega))
      rw [← map_erase] at this
      exact this
     ·intro s' d'
      rw [q5]
      constructor
      ·rintro (h | ⟨cc,h1,h2,h3⟩)
       ·obtain ⟨a,b,cc,g1,g2,g3,g4⟩:=(hNS s' d').1 h
        exact ⟨a,b,cc,by simp [g1],g2,g3,g4⟩
       ·exact ⟨s,d,cc,by simp,mem_steps.1 h1,h2,h3⟩
      ·rintro ⟨a,b,cc,g1,g2,g3,g4⟩
       rcases List.mem_append.1 g1 with g1 | g1
       ·exact .inl ((hNS s' d').2 ⟨a,b,cc,g1,g2,g3,g4⟩)
       ·simp only [List.mem_singleton,Prod.mk.injEq] at g1
        obtain ⟨rfl,rfl⟩:=g1
        exact .inr ⟨cc,mem_steps.2 g2,g3,g4⟩
     ·rw [hs9.2 _ (by omega) (by simp; omega)]; exact k98
     ·rw [hs9.2 _ (by omega) (by simp; omega)]; exact k118
     ·rw [List.nodup_cons]
      exact ⟨fun hm=>by have:=(hnd2 _ hm).2.2; omega,hns2⟩
     ·intro m hm
      rcases List.mem_cons.1 hm with rfl | hm
      ·exact ⟨by rw [hs9.2 _ (by omega) (by simp; omega)]; exact gd,by omega,by omega⟩
      ·obtain ⟨u1,u2,u3⟩:=hnd2 m hm
       have u4:=hne_m m hm
       refine ⟨?_,u2,by omega⟩
       rw [hs59.2 _ (by omega) (by simp; omega),hs5.2 _ (by omega) (by simp; omega)]; exact u1
    ·exact hf.elim
 ·obtain rfl : j=c.free.length:=by omega
  simp [fillF,pickL]
  obtain ⟨S2,e1,e2,e3⟩:=drain_ok ns S1 hns fun m hm=>(hnd m hm).1
  rw [e1]
  simp
  have fe1:=hC.fe _ S1 hI1
  refine hQ S2 ?_ (hs1.trans e2 (fun m hm hl=>by have:=(hnd m hm).2.1; omega))
  rw [bests_succ]
  exact hC.mv _ S1 S2 ns hI1 (e2.mono (fun m hm _=>by simp [hm])) (fun m hm=>⟨by have:=(hnd m hm).2.1; omega,_,(hnd m hm).1⟩) (fe1.le.stays (e2.2 _ (by omega) (fun hm=>by have:=(hnd _ hm).2.1; omega)))
theorem follow_all (hC : Cl x c ords fpc I D) (ok : CgOk c) (sm : CgSm c) : ∀ (k : Nat) (q : List Nat),Good c.tk.f q→q.length + k=c.tk.f→FollowOK x c ords fpc I D k q
 | 0,q,_,hl=>follow_zero hC ok sm hl
 | k + 1,q,hq,hl=>follow_succ hC ok sm hq hl fun i hi hg=>follow_all hC ok sm k (q ++ [i]) hg (by simp; omega)
end
end Go.Gx.Z
