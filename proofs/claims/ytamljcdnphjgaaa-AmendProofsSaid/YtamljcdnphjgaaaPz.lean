/-
  Least costs from the start on, by relaxing (no program in sight).
-/
import Derived.Test.YtamljcdnphjgaaaPk
import Derived.Test.YtamljcdnphjgaaaPr
import Derived.Test.YtamljcdnphjgaaaPq
import Derived.Test.YtamljcdnphjgaaaPu
set_option linter.all false
set_option linter.deprecated false
set_option linter.unusedSimpArgs false
set_option linter.unusedVariables false
namespace Go.Gx.A
set_option linter.all false
abbrev Bnd:=Int × Int × Int × Int
def Tk.rstepAt (T : Tk) (s : St) (i : Nat) : List Sp:=
 if s.1.testBit i=true then [] else
  match T.place (T.at' i) with
  | none=>[(i,(s.1 ||| 2 ^ i,s.2),(T.behind (T.at' i) s.1,0))]
  | some p=>(i,(s.1 ||| 2 ^ i,s.2),(T.behind (T.at' i) s.1,1)) :: (if s.2 < p then [(i,(s.1 ||| 2 ^ i,p),(T.behind (T.at' i) s.1,0))] else [])
def Tk.rsteps (T : Tk) (s : St) : List Sp:=(List.range T.f).flatMap (T.rstepAt s)
theorem mem_rsteps {T : Tk} {s : St} {x : Sp} : x ∈ T.rsteps s ↔ x ∈ T.steps s:=by
 unfold Tk.rsteps Tk.steps
 rw [List.mem_flatMap,List.mem_flatMap]
 refine exists_congr fun i=>and_congr Iff.rfl ?_
 unfold Tk.rstepAt Tk.stepAt
 split
 ·exact Iff.rfl
 ·cases T.place (T.at' i) with
  | none=>exact Iff.rfl
  | some p=>
   by_cases h : s.2 < p
   ·simp only [h,if_true,List.cons_append,List.nil_append,List.mem_cons,List.not_mem_nil,or_false]
    exact Or.comm
   ·simp only [h,if_false,List.nil_append]
end Go.Gx.A
namespace Go.Gx.A
open Go.Gx Go.Proofs
set_option maxRecDepth 100000
set_option linter.all false
set_option maxHeartbeats 2000000
abbrev Q4:=Int × Int × Int × Int
def q4C (q : Q4) : List Value:=[.int .i64 q.1,.int .i64 q.2.1,.int .i64 q.2.2.1,.int .i64 q.2.2.2]
theorem q4_uni (l : List Q4) : Uni 4 (l.map q4C):=fun x hx=>by
 obtain ⟨a,_,rfl⟩:=List.mem_map.1 hx
 rfl
theorem q4_ok (l : List Q4) : (l.map q4C).flatten.all okc=true:=by
 induction l with
 | nil=>rfl
 | cons a l ih=>simp only [List.map_cons,List.flatten_cons,List.all_append,ih,Bool.and_true]; rfl
theorem q4_flen : ∀ (l : List Q4),(l.map q4C).flatten.length=l.length * 4
 | []=>rfl
 | a :: l=>by
  have:=q4_flen l
  simp only [List.map_cons,List.flatten_cons,List.length_append,List.length_cons]
  rw [this]
  simp [q4C]
  omega
def Qs (S : AS) (t : TypeId) (v : Value) (l : List Q4) : Prop:=SlAt S t v (l.map q4C)
theorem Qs.nil {S : AS} {t : TypeId} : Qs S t (.slice none 0 0) []:=.inl ⟨rfl,rfl⟩
theorem Qs.stays {S S' : AS} {t : TypeId} {v : Value} {l : List Q4} (h : Qs S t v l) {fp : List Nat} (hs : Same S S' fp) (hd : ∀ m ∈ ownsOf v,m ∉ fp) : Qs S' t v l:=SlAt.stays h hs hd
theorem Qs.stay0 {S S' : AS} {t : TypeId} {v : Value} {l : List Q4} (h : Qs S t v l) (hs : Same S S' []) : Qs S' t v l:=h.stays hs (by simp)
theorem Qs.app1 {S T : AS} {t : TypeId} {v : Value} {l : List Q4} (h : Qs S t v l) (hT : Same S T []) {p fr : Nat} {a : Q4} {wr ex : Bool} (hp : T.get p=some (.row (q4C a) t wr ex)) (hfr : fr < T.next) (hfS : S.next ≤ fr) (hb : l.length ≤ 100000) :
  ∃ T',appV T fr t 4 32 v (.slice (some ⟨p,0,none⟩) 1 1)=some (.slice (some ⟨fr,0,none⟩) (l.length + 1) (l.length + 1),T')∧Qs T' t (.slice (some ⟨fr,0,none⟩) (l.length + 1) (l.length + 1)) (l ++ [a])∧Same S T' (ownsOf v)∧T'.next=T.next:=by
 have hsl : SlAt T t v (l.map q4C):=SlAt.stays h hT (by simp)
 have hy : srcCells T 4 (.slice (some ⟨p,0,none⟩) 1 1)=some (([a].map q4C).length,([a].map q4C).flatten):=by
  unfold srcCells
  simp only [hp]
  simp [q4C]
 obtain ⟨T0,a1,a2,a3⟩:=appV_new (fr:=fr) (bytes:=32) hsl (q4_uni l) (by omega) (by simp) (q4_uni [a]) hy (by simp; omega) (by omega) (q4_ok [a])
 simp only [List.length_map,List.length_singleton] at a1
 refine ⟨_,a1,.inr ⟨fr,false,by simp,?_,by simp only [AS.next_put,a2]; exact hfr⟩,?_,by simp only [AS.next_put]; exact a2⟩
 ·rw [AS.get_put_self]; simp
 ·refine ⟨by simp only [AS.next_put,a2]; exact hT.1,fun q hq hn=>?_⟩
  rw [AS.get_put_ne _ _ (by omega),a3 q hn,hT.2 q hq (by simp)]
theorem Qs.ps {S : AS} {t : TypeId} {v : Value} {l : List Q4} (h : Qs S t v l) (hl : l.length ≤ 100000) : Ps S 4 v (l.map q4C):=by
 rcases h with ⟨rfl,hn⟩ | ⟨p,ex,rfl,h2,h3⟩
 ·have : l=[]:=List.map_eq_nil_iff.1 hn
  subst this
  exact ⟨⟨none,0,rfl⟩,rfl,q4_uni [],by simp [ownsOf]⟩
 ·refine ⟨⟨_,_,rfl⟩,?_,q4_uni l,by simpa [ownsOf] using h3⟩
  have hf:=q4_flen l
  unfold srcCells
  simp only [h2,List.length_map]
  by_cases h0 : l.length * 4=0
  ·rw [if_pos h0]
   have : l=[]:=List.length_eq_zero_iff.1 (by omega)
   subst this
   rfl
  ·rw [if_neg h0,if_pos (by omega),List.drop_zero,← hf,List.take_length]
theorem q4_at {S : AS} {v : Value} {l : List Q4} (h : Ps S 4 v (l.map q4C)) {i : Nat} (hi : i < l.length) :
  ∃ p o cells e wr ex,(∀ (S' : AS) (j : IntKind),idxE S' 4 none (.int j i) v=.ret (.pointer (some ⟨p,o,none⟩),S'))∧S.get p=some (.row cells e wr ex)∧p < S.next∧p ∈ ownsOf v∧rowLoad cells o (some 4)=some (.agg (q4C l[i]).toArray) ∧
   cells[o]?=some (.int .i64 l[i].1)∧cells[o + 1]?=some (.int .i64 l[i].2.1)∧cells[o + 2]?=some (.int .i64 l[i].2.2.1)∧cells[o + 3]?=some (.int .i64 l[i].2.2.2):=by
 obtain ⟨p,o,cells,e,wr,ex,h1,h2,h3,h4,h5,h6⟩:=Ps.idx (S':=S) h (by omega) (j:=.i64) (i:=i) (l:=q4C l[i]) (by simp [hi])
 refine ⟨p,o,cells,e,wr,ex,fun S' j=>?_,h2,h3,h4,h6,by simpa [q4C] using h5 0 (by omega),by simpa [q4C] using h5 1 (by omega),by simpa [q4C] using h5 2 (by omega),by simpa [q4C] using h5 3 (by omega)⟩
 obtain ⟨a,cap,rfl⟩:=h.shape
 match a with
 | none=>simp [idxE] at h1
 | some ⟨b,q,some s⟩=>simp [idxE] at h1
 | some ⟨b,q,none⟩=>
  simp [hi] at h1 ⊢
  exact h1
def freeN (c : Cg) (j : Nat) : List Int:=((List.range j).map fun (x : Nat)=>(x : Int)).filter fun x=>decide (x ∉ c.front)
theorem freeN_succ (c : Cg) (j : Nat) : freeN c (j + 1)=if (j : Int) ∈ c.front then freeN c j else freeN c j ++ [(j : Int)]:=by
 unfold freeN
 rw [List.range_succ,List.map_append,List.filter_append]
 by_cases h : (j : Int) ∈ c.front
 ·simp [h]
 ·simp [h]
theorem freeN_len (c : Cg) (j : Nat) : (freeN c j).length ≤ j:=by
 unfold freeN
 have:=List.length_filter_le (fun x=>decide (x ∉ c.front)) ((List.range j).map fun (x : Nat)=>(x : Int))
 simpa using this
def memb (c : Cg) (set j : Nat) : List Int:=c.front ++ ((List.range j).filter fun k=>set.testBit k).map c.tk.at'
theorem memb_succ (c : Cg) (set j : Nat) : memb c set (j + 1)=if set.testBit j=true then memb c set j ++ [c.tk.at' j] else memb c set j:=by
 unfold memb
 rw [List.range_succ,List.filter_append,List.map_append,← List.append_assoc]
 cases h : set.testBit j with
 | true=>simp only [List.filter_cons,List.filter_nil,h,if_true,List.map_cons,List.map_nil]
 | false=>simp only [List.filter_cons,List.filter_nil,h,if_false,List.map_nil,List.append_nil,Bool.false_eq_true]
theorem memb_len (c : Cg) (set j : Nat) : (memb c set j).length ≤ c.front.length + j:=by
 unfold memb
 have:=List.length_filter_le (fun k=>set.testBit k) (List.range j)
 simp at this ⊢
 exact this
theorem isum_filter (p : Nat→Bool) (g : Nat→Int) : ∀ l : List Nat,isum ((l.filter p).map g)=isum (l.map fun k=>if p k=true then g k else 0)
 | []=>rfl
 | a :: l=>by
  have ih:=isum_filter p g l
  by_cases h : p a=true
  ·rw [List.filter_cons,if_pos h]
   simp only [List.map_cons,isum,ih,h,if_true]
  ·rw [List.filter_cons,if_neg h]
   simp only [List.map_cons,isum,ih,h,if_false,Int.zero_add]
   simp
theorem memb_behind (c : Cg) (x : Int) (set : Nat) : isum ((memb c set c.tk.f).map (c.w x))=c.tk.behind x set:=by
 unfold memb Tk.behind
 rw [List.map_append,isum_append,List.map_map]
 have:=isum_filter (fun k=>set.testBit k) (c.w x ∘ c.tk.at') (List.range c.tk.f)
 rw [this]
 rfl
theorem rfree_ok {S : AS} {va vo : Value} {c : Chg} (h : ChgAt S va vo c) (ok : ChgOk c) {Q : En→AS→Prop}
  (hq : ∀ S' a n,Same S S' []→n=c.cg.free.length→Ow S' (.slice a n n) c.cg.free→(∀ m ∈ ownsOf (.slice a n n),S.next ≤ m)→Q (.ret (.slice a n n)) S') : Call G 100 [c.val va vo] S Q:=by
 obtain ⟨oa,ocap,hov⟩:=h.old.shape
 obtain ⟨n,hn⟩ : ∃ n : Nat,c.n=n:=⟨c.n.toNat,by have:=ok.n0; omega⟩
 obtain ⟨p,hp⟩ : ∃ p : Nat,c.passed=p:=⟨c.passed.toNat,by have:=ok.p0; omega⟩
 have hpl : p ≤ c.old.length:=by have:=ok.p1; omega
 have hcn : c.cg.n=n:=by show c.n.toNat=n; omega
 have hfr : c.cg.front=c.old.take p:=by show c.old.take c.passed.toNat=_; rw [hp]; rfl
 have hfree : c.cg.free=freeN c.cg n:=by unfold Cg.free freeN; rw [hcn]
 have h24:=ok.n1
 refine call_run' (G:=G) rfl (ext_none (by decide)) ?_
 simp [Chg.val,hn,hp]
 generalize hS1 : AS.put (AS.bump S 1) _ _=S1
 have s1 : Same S S1 []:=by rw [← hS1]; exact ((Same.refl _ _).bu).pn (by omega)
 have g0 : S1.get S.next=some (.row [.int .i64 n,va,vo,.int .i64 p] 27 true true):=by rw [← hS1]; simp
 have hn1 : S1.next=S.next + 1:=by rw [← hS1]; simp
 clear hS1
 refine run_loop (fun m a' S'=>∃ j ov k,m=n - j∧j ≤ n∧Same S S' []∧S.next < S'.next∧S'.get S.next=some (.row [.int .i64 n,va,vo,.int .i64 p] 27 true true)∧k=(freeN c.cg j).length∧Ow S' (.slice ov k k) (freeN c.cg j)∧(∀ m ∈ ownsOf (.slice ov k k),S.next < m) ∧
  Has a' 27 [(1,ptr S.next),(3,.slice ov k k),(4,.int .i64 j)]) _ ⟨0,none,0,rfl,by omega,s1,by omega,g0,rfl,Ow.nil,by simp [ownsOf],⟨rfl,rfl,by simp⟩⟩ ?_
 rintro _ R hR _ S2 ⟨j,ov,k,rfl,hj,s2,hn2,g2,rfl,how,hown,hA⟩
 obtain ⟨x,rfl⟩:=hA.lit
 by_cases hlt : j < n
 ·have hlt' : (j : Int) < n:=by omega
  have hwS:=wrapS (show j < 9223372036854775807 by omega)
  obtain ⟨v',k1,k2,k3⟩:=(h.old.stay0 s2).slc (lo:=none) (hi:=some (.int .i64 p)) (i:=0) (j:=p) (.inl ⟨rfl,rfl⟩) (.inr rfl) (by omega) hpl
  rw [List.drop_zero,← hfr] at k2
  have hfl:=freeN_len c.cg j
  have hsu:=freeN_succ c.cg j
  simp [fillF,pickL,hlt,hlt',g2,k1]
  refine has_ok k2 ?_
  by_cases hc : (j : Int) ∈ c.cg.front
  ·rw [if_pos hc] at hsu
   simp [hc,hwS]
   exact hR _ _ _ (by omega) ⟨j + 1,ov,_,rfl,by omega,s2,hn2,g2,by rw [hsu],by rw [hsu]; exact how,hown,⟨rfl,rfl,by simp⟩⟩
  ·rw [if_neg hc] at hsu
   have hsW : Same S2 ((S2.bump 2).put S2.next (.row [.int .i64 (j : Int)] 3 true true)) []:=((Same.refl _ _).bu).pn (by omega)
   obtain ⟨T2,a2,q1,q2,q3,q4,q5⟩:=how.app (T:=(S2.bump 2).put S2.next (.row [.int .i64 (j : Int)] 3 true true)) (y:=.slice (some ⟨S2.next,0,none⟩) 1 1) (m:=[(j : Int)]) (fr:=S2.next + 1) (by simp; omega) hsW (Is.one (by rw [AS.get_put_self]) (by simp)) (by simp) (by omega)
   simp at q1 q2 q4 q5
   have s5 : Same S T2 []:=s2.trans q3 (fun m hm hl=>by have:=hown m hm; omega)
   have g5 : T2.get S.next=some (.row [.int .i64 n,va,vo,.int .i64 p] 27 true true):=(q3.2 _ hn2 (fun hk=>by have:=hown _ hk; omega)).trans g2
   simp [hc,placeIn,splice,q1,hwS]
   exact hR _ _ _ (by omega) ⟨j + 1,a2,(freeN c.cg j).length + 1,rfl,by omega,s5,by omega,g5,by rw [hsu]; simp,by rw [hsu]; exact q2,fun m hm=>by
    rcases q5 m hm with h | h
    ·exact hown m h
    ·omega,⟨rfl,rfl,by simp⟩⟩
 ·have hlt' : ¬ (j : Int) < n:=by omega
  obtain rfl : j=n:=by omega
  simp [fillF,pickL,g2]
  rw [← hfree] at how hown ⊢
  exact hq _ _ _ s2 rfl how (fun m hm=>by have:=hown m hm; omega)
theorem members_ok {S : AS} {va vo vf : Value} {c : Chg} (h : ChgAt S va vo c) (ok : ChgOk c) (hf : Is S vf c.cg.free) {set : Nat} (hset : set < 2 ^ c.cg.free.length) {Q : En→AS→Prop}
  (hq : ∀ S' v,Same S S' []→Is S' v (memb c.cg set c.cg.tk.f)→(∀ m ∈ ownsOf v,S.next ≤ m)→Q (.ret v) S') : Call G 146 [c.val va vo,vf,.int .i64 set] S Q:=by
 have sm:=ok.cgSm
 obtain ⟨oa,ocap,hov⟩:=h.old.shape
 obtain ⟨fa,fcap,hvf⟩:=hf.shape
 subst hvf
 obtain ⟨n,hn⟩ : ∃ n : Nat,c.n=n:=⟨c.n.toNat,by have:=ok.n0; omega⟩
 obtain ⟨p,hp⟩ : ∃ p : Nat,c.passed=p:=⟨c.passed.toNat,by have:=ok.p0; omega⟩
 have hpl : p ≤ c.old.length:=by have:=ok.p1; omega
 have hfr : c.cg.front=c.old.take p:=by show c.old.take c.passed.toNat=_; rw [hp]; rfl
 have hfl : c.cg.front.length ≤ 24:=by
  have:=sm.ol
  have e : c.cg.old=c.old:=rfl
  rw [e] at this
  rw [hfr,List.length_take]; omega
 have hf24:=sm.f
 have hs24 : set < 2 ^ 24:=Nat.lt_of_lt_of_le hset (Nat.pow_le_pow_right (by omega) sm.f)
 have htf : c.cg.tk.f=c.cg.free.length:=rfl
 refine call_run' (G:=G) rfl (ext_none (by decide)) ?_
 have s0 : Same S (((S.bump 1).put S.next (AObj.row [Value.int IntKind.i64 n,va,vo,Value.int IntKind.i64 p] 27 true true)).bump 2) []:=(((Same.refl _ _).bu).pn (by omega)).bu
 have s0' : Same S ((((S.bump 1).put S.next (AObj.row [Value.int IntKind.i64 n,va,vo,Value.int IntKind.i64 p] 27 true true)).bump 2).put (S.next + 1) (.row [] 3 true true)) []:=s0.pn (by omega)
 obtain ⟨v',k1,k2,k3⟩:=(h.old.stay0 s0').slc (lo:=none) (hi:=some (.int .i64 p)) (i:=0) (j:=p) (.inl ⟨rfl,rfl⟩) (.inr rfl) (by omega) hpl
 rw [List.drop_zero,← hfr] at k2
 obtain ⟨T',ca,cc,f1,f2,f3,f4,f5⟩:=app0 (T:=(((S.bump 1).put S.next (AObj.row [Value.int IntKind.i64 n,va,vo,Value.int IntKind.i64 p] 27 true true)).bump 2).put (S.next + 1) (.row [] 3 true true)) (p:=S.next + 1) (fr:=S.next + 2) k2 (by omega) (by simp) (by simp) (by simp)
 have sT : Same S T' []:=s0'.trans f3 (fun m hm hl=>by simp at hm; omega)
 have gT : T'.get S.next=some (.row [.int .i64 n,va,vo,.int .i64 p] 27 true true):=(f3.2 _ (by simp; omega) (by simp)).trans (by simp)
 simp at f4
 simp [Chg.val,hn,hp,placeIn,k1,f1]
 refine run_loop (fun m a' S'=>∃ j ov k cap,m=c.cg.free.length - j∧j ≤ c.cg.free.length∧Same S S' []∧S.next + 3 ≤ S'.next∧k=(memb c.cg set j).length∧Oc S' (.slice ov k cap) (memb c.cg set j)∧(∀ m ∈ ownsOf (.slice ov k cap),S.next < m) ∧
  Has a' 35 [(1,.slice fa c.cg.free.length fcap),(2,.int .i64 set),(7,.slice ov k cap),(8,.int .i64 j)]) _ ⟨0,ca,c.cg.front.length,cc,rfl,by omega,sT,by omega,by simp [memb],by simpa [memb] using f2,fun m hm=>by have:=f5 m hm; omega,⟨rfl,rfl,by simp⟩⟩ ?_
 rintro _ R hR _ S2 ⟨j,ov,k,cap,rfl,hj,s2,hn2,rfl,how,hown,hA⟩
 obtain ⟨x,rfl⟩:=hA.lit
 have hml:=memb_len c.cg set j
 by_cases hlt : j < c.cg.free.length
 ·have hlt' : (j : Int) < c.cg.free.length:=by omega
  have hwS:=wrapS (show j < 9223372036854775807 by omega)
  obtain ⟨q,o,cells,e,wr,ex,h1,h2,h3,h4,h5⟩:=(hf.stay0 s2).at hlt
  rw [free_get hlt] at h5
  obtain ⟨y,hsh,han⟩:=bits_ok (x:=set) (k:=j) (by omega) (by omega)
  have hsu:=memb_succ c.cg set j
  cases hb : set.testBit j with
  | true=>
   rw [hb] at han hsu
   simp only [if_true] at han hsu
   have hsW : Same S2 ((S2.bump 2).put S2.next (.row [.int .i64 (c.cg.tk.at' j)] 3 true true)) []:=((Same.refl _ _).bu).pn (by omega)
   have how':=how.stay0 hsW
   obtain ⟨T2,a2,cap2,q1,q2,q3,q4,q5⟩:=how'.app1 (fr:=S2.next + 1) (y:=S2.next) (x:=c.cg.tk.at' j) (by omega) (AS.get_put_self _ _ _) (by simp)
   simp at q4
   have s5 : Same S T2 []:=(s2.tr0 hsW).trans q3 (fun m hm hl=>by
    rcases List.mem_cons.1 hm with h' | h'
    ·omega
    ·have:=hown m h'; omega)
   simp [fillF,pickL,hlt,hlt',hsh,han,h1,h2,h5,placeIn,splice,q1,hwS]
   exact hR _ _ _ (by omega) ⟨j + 1,a2,(memb c.cg set j).length + 1,cap2,rfl,by omega,s5,by omega,by rw [hsu]; simp,by rw [hsu]; exact q2,fun m hm=>by
    rcases q5 m hm with h | h
    ·omega
    ·exact hown m h,⟨rfl,rfl,by simp⟩⟩
  | false=>
   rw [hb] at han hsu
   simp only [Bool.false_eq_true,if_false] at han hsu
   simp [fillF,pickL,hlt,hlt',hsh,han,hwS]
   exact hR _ _ _ (by omega) ⟨j + 1,ov,_,cap,rfl,by omega,s2,by omega,by rw [hsu],by rw [hsu]; exact how,hown,⟨rfl,rfl,by simp⟩⟩
 ·have hlt' : ¬ (j : Int) < c.cg.free.length:=by omega
  obtain rfl : j=c.cg.free.length:=by omega
  simp [fillF,pickL]
  exact hq _ _ s2 how.is (fun m hm=>by have:=hown m hm; omega)
end Go.Gx.A
namespace Go.Gx.A
open Go.Gx Go.Proofs
set_option maxRecDepth 100000
set_option linter.all false
set_option maxHeartbeats 2000000
def sp4 (x : Sp) : Q4:=((x.2.1.1 : Int),x.2.1.2,x.2.2.1,x.2.2.2)
theorem rstep_len (T : Tk) (s : St) (i : Nat) : (T.rstepAt s i).length ≤ 2:=by
 unfold Tk.rstepAt
 split
 ·simp
 ·split
  ·simp
  ·split <;> simp
theorem rsteps_len (T : Tk) (s : St) : ∀ j,((List.range j).flatMap (T.rstepAt s)).length ≤ 2 * j
 | 0=>by simp
 | j + 1=>by
  have h1:=rsteps_len T s j
  have h2:=rstep_len T s j
  rw [List.range_succ,List.flatMap_append,List.length_append]
  simp only [List.flatMap_cons,List.flatMap_nil,List.append_nil]
  omega
theorem place_ix (c : Cg) (x : Int) : c.tk.place x=if ixI c.old x < 0 then none else some (ixI c.old x):=by
 show (c.old.idxOf? x).map (fun (i : Nat)=>(i : Int))=_
 unfold ixI
 cases c.old.idxOf? x with
 | none=>rfl
 | some i=>
  simp only [Option.map_some]
  rw [if_neg (by omega)]
theorem rsteps_ok {S : AS} {va vo vf : Value} {c : Chg} (h : ChgAt S va vo c) (ok : ChgOk c) (hf : Is S vf c.cg.free) {set : Nat} (hset : set < 2 ^ c.cg.free.length) {last : Int} {Q : En→AS→Prop}
  (hq : ∀ S' a n,Same S S' []→n=((c.cg.tk.rsteps (set,last)).map sp4).length→Qs S' 158 (.slice a n n) ((c.cg.tk.rsteps (set,last)).map sp4)→(∀ m ∈ ownsOf (.slice a n n),S.next ≤ m)→Q (.ret (.slice a n n)) S') : Call G 114 [c.val va vo,vf,.int .i64 set,.int .i64 last] S Q:=by
 have sm:=ok.cgSm
 obtain ⟨oa,ocap,hov⟩:=h.old.shape
 obtain ⟨fa,fcap,hvf⟩:=hf.shape
 have hf24:=sm.f
 have hs24 : set < 2 ^ 24:=Nat.lt_of_lt_of_le hset (Nat.pow_le_pow_right (by omega) sm.f)
 have htf : c.cg.tk.f=c.cg.free.length:=rfl
 have hw : ∀ x y,0 ≤ wt c.arrows x y∧wt c.arrows x y ≤ 1000:=fun x y=>wt_bd (arrsOk_none ok.ar).1 x y
 have hml:=memb_len c.cg set c.cg.tk.f
 have hfl : c.cg.front.length ≤ 24:=by
  have:=sm.ol
  unfold Cg.front; rw [List.length_take]; omega
 refine call_run' (G:=G) rfl (ext_none (by decide)) ?_
 subst hvf
 simp [Chg.val]
 generalize hS1 : AS.put (AS.bump S 1) _ _=S1
 have s1 : Same S S1 []:=by rw [← hS1]; exact ((Same.refl _ _).bu).pn (by omega)
 have g1 : S1.get S.next=some (.row [.int .i64 c.n,va,vo,.int .i64 c.passed] 27 true true):=by rw [← hS1]; simp
 have hn1 : S1.next=S.next + 1:=by rw [← hS1]; simp
 clear hS1
 show Call G 146 [c.val va vo,_,_] _ _
 refine members_ok (h.stay0 s1) ok (hf.stay0 s1) hset fun S2 mv hs2 hmv hmo=>?_
 have s2:=s1.tr0 hs2
 have hn2:=hs2.1
 have g2 : S2.get S.next=_:=(hs2.2 _ (by omega) (by simp)).trans g1
 simp
 refine run_loop (fun m a' S'=>∃ j ov k,m=c.cg.free.length - j∧j ≤ c.cg.free.length∧Same S2 S' []∧S'.get S.next=some (.row [.int .i64 c.n,va,vo,.int .i64 c.passed] 27 true true)∧k=(((List.range j).flatMap (c.cg.tk.rstepAt (set,last))).map sp4).length∧Qs S' 158 (.slice ov k k) (((List.range j).flatMap (c.cg.tk.rstepAt (set,last))).map sp4)∧(∀ m ∈ ownsOf (.slice ov k k),S2.next ≤ m) ∧
  Has a' 76 [(1,.slice fa c.cg.free.length fcap),(2,.int .i64 set),(3,.int .i64 last),(4,ptr S.next),(9,mv),(10,.slice ov k k),(11,.int .i64 j)]) _ ⟨0,none,0,rfl,by omega,.refl _ _,g2,rfl,Qs.nil,by simp [ownsOf],⟨rfl,rfl,by simp⟩⟩ ?_
 rintro _ R hR _ S3 ⟨j,ov,k,rfl,hj,s3,g3,hkl,hqs,hown,hA⟩
 obtain ⟨x,rfl⟩:=hA.lit
 have hrl:=rsteps_len c.cg.tk (set,last) j
 have hrf:=range_flat (c.cg.tk.rstepAt (set,last)) j
 have hn3:=s3.1
 by_cases hlt : j < c.cg.free.length
 ·have hlt' : (j : Int) < c.cg.free.length:=by omega
  have hwS:=wrapS (show j < 9223372036854775807 by omega)
  have hf3:=(hf.stay0 s2).stay0 s3
  obtain ⟨q,o,cells,e,wr,ex,h1,h2,h3,h4,h5⟩:=hf3.at hlt
  rw [free_get hlt] at h5
  obtain ⟨y,hsh,han⟩:=bits_ok (x:=set) (k:=j) (by omega) (by omega)
  have hp2 : 2 ^ j < 2 ^ 62:=Nat.pow_lt_pow_right (by omega) (by omega)
  have hor:=or_ok' (x:=set) (y:=2 ^ j) (by omega) hp2
  have hshl:=shl_ok (k:=j) (by omega)
  have hkl' : k ≤ 48:=by rw [hkl,List.length_map]; omega
  cases hb : set.testBit j with
  | true=>
   rw [hb] at han
   simp only [if_true] at han
   have hst : c.cg.tk.rstepAt (set,last) j=[]:=by unfold Tk.rstepAt; rw [if_pos hb]
   rw [hst,List.append_nil] at hrf
   simp [fillF,pickL,hlt,hlt',hsh,han,hwS]
   exact hR _ _ _ (by omega) ⟨j + 1,ov,k,rfl,by omega,s3,g3,by rw [hrf]; exact hkl,by rw [hrf]; exact hqs,hown,⟨rfl,rfl,by simp⟩⟩
  | false=>
   rw [hb] at han
   simp only [Bool.false_eq_true,if_false] at han
   have hbh:=memb_behind c.cg (c.cg.tk.at' j) set
   have hpx:=place_ix c.cg (c.cg.tk.at' j)
   have hsv : c.cg.tk.rstepAt (set,last) j=match c.cg.tk.place (c.cg.tk.at' j) with
    | none=>[(j,(set ||| 2 ^ j,last),(c.cg.tk.behind (c.cg.tk.at' j) set,0))]
    | some p=>(j,(set ||| 2 ^ j,last),(c.cg.tk.behind (c.cg.tk.at' j) set,1)) :: (if last < p then [(j,(set ||| 2 ^ j,p),(c.cg.tk.behind (c.cg.tk.at' j) set,0))] else []):=by
    unfold Tk.rstepAt
    rw [if_neg (by rw [hb]; exact Bool.false_ne_true)]
    all_goals rfl
   generalize hm' : (set ||| 2 ^ j)=m' at *
   generalize hp' : 2 ^ j=p2 at *
   generalize hb' : c.cg.tk.behind (c.cg.tk.at' j) set=bh at *
   generalize hx' : c.cg.tk.at' j=xj at *
   have hmv3:=hmv.stay0 s3
   simp [fillF,pickL,hlt,hlt',hsh,han,hshl,hor,g3,h1,h2,h5]
   refine rbehind_ok ((h.arrows.stay0 s2).stay0 s3) hmv3 hw (by omega) fun S4 hs4=>?_
   have hn4:=hs4.1
   have s4:=s3.tr0 hs4
   have g4 : S4.get S.next=_:=(hs4.2 _ (by omega) (by simp)).trans g3
   have h24 : S4.get q=_:=(hs4.2 _ h3 (by simp)).trans h2
   have hbh2 : isum ((memb c.cg set c.cg.tk.f).map (wt c.arrows xj))=bh:=hbh
   rw [hbh2]
   simp [g4,h1,h24,h5]
   refine rindex_ok ((h.old.stay0 s2).stay0 s4) ?_
   have hqs4:=hqs.stay0 hs4
   have hge:=ixI_ge c.old xj
   have e0 : c.cg.old=c.old:=rfl
   rw [e0] at hpx
   simp [g4,h1,h24,h5]
   by_cases hix : ixI c.old xj < 0
   ·rw [if_pos hix] at hpx
    rw [hpx] at hsv
    simp only at hsv
    have hsW : Same S4 ((S4.bump 2).put S4.next (.row (q4C ((m' : Int),last,bh,0)) 158 true true)) []:=((Same.refl _ _).bu).pn (by omega)
    obtain ⟨T2,q1,q2,q3,q4⟩:=hqs4.app1 (T:=(S4.bump 2).put S4.next (.row (q4C ((m' : Int),last,bh,0)) 158 true true)) hsW (p:=S4.next) (fr:=S4.next + 1) (AS.get_put_self _ _ _) (by simp) (by omega) (by rw [← hkl]; omega)
    rw [← hkl] at q1 q2
    simp at q4
    simp only [q4C] at q1
    have s5 : Same S2 T2 []:=s4.trans q3 (fun m hm hl=>by have:=hown m hm; omega)
    have g5 : T2.get S.next=_:=(q3.2 _ (by omega) (fun hk=>by have:=hown _ hk; omega)).trans g4
    simp [hix,placeIn,splice,q1,hwS]
    refine hR _ _ _ (by omega) ⟨j + 1,some ⟨S4.next + 1,0,none⟩,k + 1,rfl,by omega,s5,g5,by rw [hrf,hsv,List.map_append,List.length_append,← hkl]; rfl,by rw [hrf,hsv,List.map_append]; exact q2,fun m hm=>by simp [ownsOf] at hm; omega,⟨rfl,rfl,by simp⟩⟩
   ·rw [if_neg hix] at hpx
    rw [hpx] at hsv
    simp only at hsv
    generalize hpi : ixI c.old xj=pi at *
    have hsW : Same S4 ((S4.bump 2).put S4.next (.row (q4C ((m' : Int),last,bh,1)) 158 true true)) []:=((Same.refl _ _).bu).pn (by omega)
    obtain ⟨T2,q1,q2,q3,q4⟩:=hqs4.app1 (T:=(S4.bump 2).put S4.next (.row (q4C ((m' : Int),last,bh,1)) 158 true true)) hsW (p:=S4.next) (fr:=S4.next + 1) (AS.get_put_self _ _ _) (by simp) (by omega) (by rw [← hkl]; omega)
    rw [← hkl] at q1 q2
    simp at q4
    simp only [q4C] at q1
    have s5 : Same S2 T2 []:=s4.trans q3 (fun m hm hl=>by have:=hown m hm; omega)
    have g5 : T2.get S.next=_:=(q3.2 _ (by omega) (fun hk=>by have:=hown _ hk; omega)).trans g4
    by_cases hlp : last < pi
    ·rw [if_pos hlp] at hsv
     have hsV : Same T2 ((T2.bump 2).put T2.next (.row (q4C ((m' : Int),pi,bh,0)) 158 true true)) []:=((Same.refl _ _).bu).pn (by omega)
     have hl1 : ((((List.range j).flatMap (c.cg.tk.rstepAt (set,last))).map sp4) ++ [((m' : Int),last,bh,1)]).length=k + 1:=by rw [List.length_append,← hkl]; rfl
     obtain ⟨T3,r1,r2,r3,r4⟩:=q2.app1 (T:=(T2.bump 2).put T2.next (.row (q4C ((m' : Int),pi,bh,0)) 158 true true)) hsV (p:=T2.next) (fr:=T2.next + 1) (AS.get_put_self _ _ _) (by simp) (by omega) (by rw [hl1]; omega)
     rw [hl1] at r1 r2
     simp at r4
     simp only [q4C] at r1
     have s6 : Same S2 T3 []:=s5.trans r3 (fun m hm hl=>by simp [ownsOf] at hm; omega)
     have g6 : T3.get S.next=_:=(r3.2 _ (by omega) (fun hk=>by simp [ownsOf] at hk; omega)).trans g5
     simp [hix,hlp,placeIn,splice,q1,r1,hwS]
     refine hR _ _ _ (by omega) ⟨j + 1,some ⟨T2.next + 1,0,none⟩,k + 2,rfl,by omega,s6,g6,by rw [hrf,hsv,List.map_append,List.length_append,← hkl]; rfl,by rw [hrf,hsv,List.map_append]; rw [List.append_assoc] at r2; exact r2,fun m hm=>by simp [ownsOf] at hm; omega,⟨rfl,rfl,by simp⟩⟩
    ·rw [if_neg hlp] at hsv
     simp [hix,hlp,placeIn,splice,q1,hwS]
     refine hR _ _ _ (by omega) ⟨j + 1,some ⟨S4.next + 1,0,none⟩,k + 1,rfl,by omega,s5,g5,by rw [hrf,hsv,List.map_append,List.length_append,← hkl]; rfl,by rw [hrf,hsv,List.map_append]; exact q2,fun m hm=>by simp [ownsOf] at hm; omega,⟨rfl,rfl,by simp⟩⟩
 ·have hlt' : ¬ (j : Int) < c.cg.free.length:=by omega
  obtain rfl : j=c.cg.free.length:=by omega
  simp [fillF,pickL]
  exact hq _ _ _ (s2.tr0 s3) hkl hqs (fun m hm=>by have:=hown m hm; have:=s2.1; omega)
end Go.Gx.A
namespace Go.Gx.A
open Go.Gx Go.Proofs
set_option maxRecDepth 100000
set_option linter.all false
set_option maxHeartbeats 4000000
def celV : Option Cost→List Value
 | none=>[.bool false,.int .i64 0,.int .i64 0]
 | some c=>[.bool true,.int .i64 c.1,.int .i64 c.2]
def celL (w : Nat) (f : Nat→Option Cost) : List (List Value):=(List.range w).map fun k=>celV (f k)
def celR (w : Nat) (f : Nat→Option Cost) : List Value:=(celL w f).flatten
structure Tc (S : AS) (v : Value) (rs : List Nat) (w : Nat) (M : Nat→Nat→Option Cost) : Prop where
 sl : SlAt S 142 v (rs.map fun r=>[rowv w r])
 rows : ∀ (i r : Nat),rs[i]?=some r→S.get r=some (.row (celR w (M i)) 141 true true)∧r < S.next∧r ∉ ownsOf v
 nd : rs.Nodup
theorem Tc.at {S : AS} {v : Value} {rs : List Nat} {w : Nat} {M : Nat→Nat→Option Cost} (h : Tc S v rs w M) {i : Nat} (hi : i < rs.length) :
  ∃ p ex r,(∀ (S' : AS) (j : IntKind),idxE S' 1 none (.int j i) v=.ret (.pointer (some ⟨p,i,none⟩),S'))∧S.get p=some (.row (rs.map (rowv w)) 142 true ex)∧(rs.map (rowv w))[i]?=some (.slice (some ⟨r,0,none⟩) w w) ∧
   S.get r=some (.row (celR w (M i)) 141 true true)∧r < S.next∧p < S.next∧r ≠ p∧rs[i]?=some r∧p ∈ ownsOf v∧r ∈ rs:=by
 have hl : (rs.map fun r=>[rowv w r]).length=rs.length:=by simp
 obtain ⟨p,ex,h1,h2,h3,h4⟩:=h.sl.idx (S':=S) (k:=1) (i:=i) (j:=.i64) (by rw [hl]; exact hi)
 obtain ⟨g1,g2,g3⟩:=h.rows i rs[i] (List.getElem?_eq_getElem hi)
 refine ⟨p,ex,rs[i],fun S' j=>?_,by rw [h2,flat1],by simp [hi,rowv],g1,g2,h3,fun e=>g3 (e ▸ h4),List.getElem?_eq_getElem hi,h4,List.getElem_mem hi⟩
 rcases h.sl with ⟨rfl,hn⟩ | ⟨p',ex',rfl,h5,h6⟩
 ·simp at hn; subst hn; simp at hi
 ·simp [ownsOf] at h4
  subst h4
  simp [hi]
theorem Tc.stays {S S' : AS} {v : Value} {rs : List Nat} {w : Nat} {M : Nat→Nat→Option Cost} (h : Tc S v rs w M) {fp : List Nat} (hs : Same S S' fp) (hd : ∀ m ∈ ownsOf v,m ∉ fp) (hr : ∀ m ∈ rs,m ∉ fp) : Tc S' v rs w M:=by
 refine ⟨h.sl.stays hs hd,fun i r hi=>?_,h.nd⟩
 obtain ⟨g1,g2,g3⟩:=h.rows i r hi
 exact ⟨by rw [hs.2 r g2 (hr r (List.mem_of_getElem? hi))]; exact g1,Nat.lt_of_lt_of_le g2 hs.1,g3⟩
end Go.Gx.A
