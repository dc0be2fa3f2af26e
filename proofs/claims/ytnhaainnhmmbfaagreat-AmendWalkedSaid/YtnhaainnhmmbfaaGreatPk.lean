/-
  Kept guests of two lists (no program in sight): a longest common list, always with the first place that will do.
-/
import Derived.Test.YtnhaainnhmmbfaaGreatGf
set_option linter.all false
set_option linter.deprecated false
namespace Go.Gx.Z
abbrev Pl:=Option Nat × Int
def L : List Pl→Nat→Nat
 | [],_=>0
 | (none,_) :: r,a=>L r a
 | (some b,_) :: r,a=>if a≤b then max (L r a) (1 + L r (b + 1)) else L r a
def keptG : List Pl→Nat→List Int
 | [],_=>[]
 | (none,_) :: r,a=>keptG r a
 | (some b,x) :: r,a=>if a≤b∧1 + L r (b + 1)=L ((some b,x) :: r) a then x :: keptG r (b + 1) else keptG r a
theorem L_anti : ∀ (r : List Pl) {a c : Nat},a≤c→L r c≤L r a
 | [],_,_,_=>Nat.le_refl _
 | (none,_) :: r,a,c,h=>L_anti r h
 | (some b,_) :: r,a,c,h=>by
  simp only [L]
  have:=L_anti r h
  split <;> split <;> omega
theorem L_le : ∀ (r : List Pl) (a : Nat),L r a≤r.length
 | [],_=>Nat.le_refl _
 | (none,_) :: r,a=>by simp only [L,List.length_cons]; have:=L_le r a; omega
 | (some b,_) :: r,a=>by
  simp only [L,List.length_cons]
  have:=L_le r a
  have:=L_le r (b + 1)
  split <;> omega
theorem keptG_len : ∀ (r : List Pl) (a : Nat),(keptG r a).length=L r a
 | [],_=>rfl
 | (none,_) :: r,a=>keptG_len r a
 | (some b,x) :: r,a=>by
  simp only [keptG]
  split
  ·rename_i h
   rw [← h.2,List.length_cons,keptG_len r (b + 1)]; omega
  ·rename_i h
   rw [keptG_len r a]
   simp only [L] at h ⊢
   by_cases hb : a≤b
   ·simp only [hb,if_true,true_and] at h ⊢; omega
   ·simp [hb]
theorem L_end : ∀ (r : List Pl) (n : Nat),(∀ b x,(some b,x)∈r→b < n)→L r n=0
 | [],_,_=>rfl
 | (none,_) :: r,n,h=>L_end r n fun b x hx=>h b x (List.mem_cons_of_mem _ hx)
 | (some b,y) :: r,n,h=>by
  have:=h b y List.mem_cons_self
  simp only [L]
  rw [if_neg (by omega)]
  exact L_end r n fun b x hx=>h b x (List.mem_cons_of_mem _ hx)
theorem L_step (b : Option Nat) (x : Int) (r : List Pl) (k : Nat) : L ((b,x) :: r) k=max (max (L r k) (L ((b,x) :: r) (k + 1))) (if b=some k then 1 + L r (k + 1) else 0):=by
 have h1 : L r (k + 1)≤L r k:=L_anti r (Nat.le_add_right k 1)
 cases b with
 | none=>
  simp only [L,reduceCtorEq,if_false]
  omega
 | some b=>
  simp only [L,Option.some.injEq]
  have h2 : L r (b + 1)≤L r b:=L_anti r (Nat.le_add_right b 1)
  by_cases h : b=k
  ·subst h
   rw [if_pos (Nat.le_refl _),if_neg (by omega),if_pos rfl]
   omega
  ·by_cases hk : k≤b
   ·rw [if_pos hk,if_pos (by omega),if_neg h]
    omega
   ·rw [if_neg hk,if_neg (by omega),if_neg h]
    omega
def lgHead : Pl→List Pl→Nat
 | (none,_),_=>0
 | (some b,_),r=>1 + L r (b + 1)
def lg : List Pl→List Nat
 | []=>[]
 | p :: r=>lgHead p r :: lg r
theorem lg_get : ∀ (r : List Pl) (i : Nat) (p : Pl),r[i]?=some p→(lg r)[i]?=some (lgHead p (r.drop (i + 1)))
 | [],i,p,h=>by simp at h
 | q :: r,0,p,h=>by simp at h; subst h; simp [lg]
 | q :: r,i + 1,p,h=>by
  simp only [List.getElem?_cons_succ] at h
  simp only [lg,List.getElem?_cons_succ,List.drop_succ_cons]
  exact lg_get r i p h
def mx (a : Nat) : List Pl→Nat
 | []=>0
 | (none,_) :: r=>mx a r
 | (some b,x) :: r=>if a≤b then max (lgHead (some b,x) r) (mx a r) else mx a r
def places (old order : List Int) : List Pl:=old.map fun x=>(order.idxOf? x,x)
def kept (old order : List Int) : List Int:=keptG (places old order) 0
def movedN (old order : List Int) : Int:=((old.filter fun x=>decide (x∈order)).length : Int) - L (places old order) 0
theorem kept_len (old order : List Int) : (kept old order).length=L (places old order) 0:=keptG_len _ _
theorem idxOf_some {l : List Int} {x : Int} {i : Nat} (h : l.idxOf? x=some i) : l[i]?=some x∧∀ j,j < i→l[j]?≠some x:=by
 rw [List.idxOf?,List.findIdx?_eq_some_iff_getElem] at h
 obtain ⟨h1,h2,h3⟩:=h
 refine ⟨by rw [List.getElem?_eq_getElem h1]; simpa using h2,fun j hj e=>?_⟩
 have:=h3 j hj
 rw [List.getElem?_eq_getElem (by omega)] at e
 simp at e this
 exact this e
theorem idxOf_none {l : List Int} {x : Int} : l.idxOf? x=none↔x∉l:=by
 rw [List.idxOf?,List.findIdx?_eq_none_iff]
 simp
 constructor
 ·intro h hx; exact h x hx rfl
 ·intro h y hy e; subst e; exact h hy

abbrev Cost:=Int × Int
def cadd (a b : Cost) : Cost:=(a.1 + b.1,a.2 + b.2)
def clt (a b : Cost) : Bool:=decide (a.1 < b.1∨a.1=b.1∧a.2 < b.2)
def cle (a b : Cost) : Prop:=a.1 < b.1∨a.1=b.1∧a.2≤b.2
theorem clt_iff {a b : Cost} : clt a b=true↔(a.1 < b.1∨a.1=b.1∧a.2 < b.2):=by simp [clt]
theorem clt_not {a b : Cost} : clt a b=false↔cle b a:=by
 unfold clt cle; rw [decide_eq_false_iff_not]; omega
theorem cle_refl (a : Cost) : cle a a:=by unfold cle; omega
theorem cle_trans {a b c : Cost} (h : cle a b) (k : cle b c) : cle a c:=by unfold cle at *; omega
theorem cle_anti {a b : Cost} (h : cle a b) (k : cle b a) : a=b:=by
 unfold cle at *
 obtain ⟨a1,a2⟩:=a
 obtain ⟨b1,b2⟩:=b
 simp only at h k
 rw [Prod.mk.injEq]; omega
theorem cadd_mono {a b : Cost} (c : Cost) (h : cle a b) : cle (cadd c a) (cadd c b):=by unfold cle cadd at *; simp only; omega
theorem cadd_assoc (a b c : Cost) : cadd (cadd a b) c=cadd a (cadd b c):=by simp [cadd,Int.add_assoc]
theorem cadd_zero (a : Cost) : cadd a (0,0)=a:=by simp [cadd]
theorem zero_cadd (a : Cost) : cadd (0,0) a=a:=by simp [cadd]
def leastO : Option Cost→List Cost→Option Cost
 | b,[]=>b
 | none,c :: r=>leastO (some c) r
 | some b,c :: r=>leastO (some (if clt c b then c else b)) r
theorem leastO_some : ∀ (l : List Cost) (b : Cost),∃ m,leastO (some b) l=some m∧(m=b∨m∈l)∧cle m b∧∀ c∈l,cle m c
 | [],b=>⟨b,rfl,.inl rfl,cle_refl b,by simp⟩
 | c :: r,b=>by
  obtain ⟨m,h1,h2,h3,h4⟩:=leastO_some r (if clt c b then c else b)
  refine ⟨m,h1,?_,?_,?_⟩
  ·rcases h2 with h2 | h2
   ·rw [h2]; split
    ·exact .inr (by simp)
    ·exact .inl rfl
   ·exact .inr (by simp [h2])
  ·by_cases hc : clt c b=true
   ·rw [if_pos hc] at h3
    refine cle_trans h3 ?_
    have:=clt_iff.1 hc
    unfold cle; omega
   ·rw [if_neg hc] at h3; exact h3
  ·intro d hd
   rcases List.mem_cons.1 hd with rfl | hd
   ·by_cases hc : clt d b=true
    ·rw [if_pos hc] at h3; exact h3
    ·rw [if_neg hc] at h3
     exact cle_trans h3 (clt_not.1 (by simpa using hc))
   ·exact h4 d hd
theorem leastO_none {l : List Cost} (h : l≠[]) : ∃ m,leastO none l=some m∧m∈l∧∀ c∈l,cle m c:=by
 cases l with
 | nil=>exact absurd rfl h
 | cons c r=>
  obtain ⟨m,h1,h2,h3,h4⟩:=leastO_some r c
  refine ⟨m,h1,?_,fun d hd=>?_⟩
  ·rcases h2 with rfl | h2
   ·simp
   ·simp [h2]
  ·rcases List.mem_cons.1 hd with rfl | hd
   ·exact h3
   ·exact h4 d hd
def isum : List Int→Int
 | []=>0
 | x :: r=>x + isum r
theorem isum_append : ∀ (l m : List Int),isum (l ++ m)=isum l + isum m
 | [],m=>by simp [isum]
 | x :: l,m=>by simp only [List.cons_append,isum,isum_append l m]; omega
theorem isum_one {l : List Nat} (hn : l.Nodup) {p q : Nat→Int} {i : Nat} (hi : i∈l) (h : ∀ j,j≠i→q j=p j) : isum (l.map q)=isum (l.map p) + (q i - p i):=by
 induction l with
 | nil=>simp at hi
 | cons a l ih=>
  simp only [List.nodup_cons] at hn
  simp only [List.map_cons,isum]
  rcases List.mem_cons.1 hi with rfl | hi
  ·have : l.map q=l.map p:=List.map_congr_left fun j hj=>h j (fun e=>hn.1 (e ▸ hj))
   rw [this]; omega
  ·have ha : a≠i:=fun e=>hn.1 (e ▸ hi)
   rw [ih hn.2 hi,h a ha]; omega
theorem bit_or (set i j : Nat) : (set ||| 2 ^ i).testBit j=(set.testBit j || decide (i=j)):=by
 rw [Nat.testBit_or,Nat.testBit_two_pow]
def cnt (f set : Nat) : Nat:=(List.range f).countP fun i=>!set.testBit i
theorem countP_one {l : List Nat} (hn : l.Nodup) {p q : Nat→Bool} {i : Nat} (hi : i∈l) (hp : p i=true) (hq : q i=false) (h : ∀ j,j≠i→q j=p j) : l.countP q + 1=l.countP p:=by
 induction l with
 | nil=>simp at hi
 | cons a l ih=>
  simp only [List.nodup_cons] at hn
  rw [List.countP_cons,List.countP_cons]
  rcases List.mem_cons.1 hi with rfl | hi
  ·have : l.countP q=l.countP p:=List.countP_congr fun j hj=>by rw [h j (fun e=>hn.1 (e ▸ hj))]
   rw [this,hp,hq]; simp
  ·have ha : a≠i:=fun e=>hn.1 (e ▸ hi)
   rw [h a ha]
   have:=ih hn.2 hi
   omega
theorem cnt_or {f set i : Nat} (hi : i < f) (hb : set.testBit i=false) : cnt f (set ||| 2 ^ i) + 1=cnt f set:=by
 refine countP_one List.nodup_range (by simpa using hi) (by simp only [hb,Bool.not_false]) (by simp only [bit_or,decide_true,Bool.or_true,Bool.not_true]) fun j hj=>?_
 simp only [bit_or,decide_eq_false (Ne.symm hj),Bool.or_false]
theorem cnt_pos {f set : Nat} (h : cnt f set≠0) : ∃ i,i < f∧set.testBit i=false:=by
 have : 0 < (List.range f).countP fun i=>!set.testBit i:=Nat.pos_of_ne_zero h
 rw [List.countP_pos_iff] at this
 obtain ⟨i,h1,h2⟩:=this
 exact ⟨i,by simpa using h1,by simpa only [Bool.not_eq_true'] using h2⟩
theorem cnt_zero {f set : Nat} (h : cnt f set=0) {i : Nat} (hi : i < f) : set.testBit i=true:=by
 have:=List.countP_eq_zero.1 h i (by simpa using hi)
 cases hb : set.testBit i with
 | true=>rfl
 | false=>rw [hb] at this; simp at this
theorem cnt_full {f set : Nat} (hs : set < 2 ^ f) : cnt f set=0↔set=2 ^ f - 1:=by
 constructor
 ·intro h
  refine Nat.eq_of_testBit_eq fun i=>?_
  rw [Nat.testBit_two_pow_sub_one]
  by_cases hi : i < f
  ·rw [cnt_zero h hi]; simp [hi]
  ·have : set.testBit i=false:=Nat.testBit_lt_two_pow (Nat.lt_of_lt_of_le hs (Nat.pow_le_pow_right (by omega) (by omega)))
   rw [this]; simp [hi]
 ·rintro rfl
  refine List.countP_eq_zero.2 fun i hi=>?_
  rw [Nat.testBit_two_pow_sub_one]
  simp at hi
  simp [hi]
theorem cnt_start (f : Nat) : cnt f 0=f:=by
 unfold cnt
 have : (List.range f).countP (fun i=>!Nat.testBit 0 i)=(List.range f).length:=by
  rw [List.countP_eq_length]
  intro i _
  rw [Nat.zero_testBit]; rfl
 rw [this,List.length_range]
structure Tk where
 free : List Int
 front : List Int
 place : Int→Option Int
 w : Int→Int→Int
abbrev St:=Nat × Int
abbrev Sp:=Nat × St × Cost
namespace Tk
def f (T : Tk) : Nat:=T.free.length
def at' (T : Tk) (i : Nat) : Int:=T.free.getD i 0
def behind (T : Tk) (x : Int) (set : Nat) : Int:=isum (T.front.map (T.w x)) + isum ((List.range T.f).map fun k=>if set.testBit k=true then T.w x (T.at' k) else 0)
def stepAt (T : Tk) (s : St) (i : Nat) : List Sp:=
 if s.1.testBit i=true then [] else
  match T.place (T.at' i) with
  | none=>[(i,(s.1 ||| 2 ^ i,s.2),(T.behind (T.at' i) s.1,0))]
  | some p=>(if s.2 < p then [(i,(s.1 ||| 2 ^ i,p),(T.behind (T.at' i) s.1,0))] else []) ++ [(i,(s.1 ||| 2 ^ i,s.2),(T.behind (T.at' i) s.1,1))]
def steps (T : Tk) (s : St) : List Sp:=(List.range T.f).flatMap (T.stepAt s)
end Tk
def StepTo (T : Tk) (s : St) (i : Nat) (to : St) (c : Cost) : Option Int→Prop
 | none=>to.2=s.2∧c.2=0
 | some p=>(s.2 < p∧to.2=p∧c.2=0)∨(to.2=s.2∧c.2=1)
structure IsStep (T : Tk) (s : St) (i : Nat) (to : St) (c : Cost) : Prop where
 lt : i < T.f
 bit : s.1.testBit i=false
 set : to.1=s.1 ||| 2 ^ i
 off : c.1=T.behind (T.at' i) s.1
 to' : StepTo T s i to c (T.place (T.at' i))
theorem mem_steps {T : Tk} {s : St} {i : Nat} {to : St} {c : Cost} : (i,to,c)∈T.steps s↔IsStep T s i to c:=by
 obtain ⟨t1,t2⟩:=to
 obtain ⟨c1,c2⟩:=c
 unfold Tk.steps
 rw [List.mem_flatMap]
 constructor
 ·rintro ⟨j,hj,hm⟩
  unfold Tk.stepAt at hm
  by_cases hb : s.1.testBit j=true
  ·rw [if_pos hb] at hm; simp at hm
  ·rw [if_neg hb] at hm
   have hb' : s.1.testBit j=false:=by simpa using hb
   cases hp : T.place (T.at' j) with
   | none=>
    rw [hp] at hm
    simp only [List.mem_singleton,Prod.mk.injEq] at hm
    obtain ⟨rfl,⟨rfl,rfl⟩,rfl,rfl⟩:=hm
    exact ⟨by simpa using hj,hb',rfl,rfl,by rw [hp]; exact ⟨rfl,rfl⟩⟩
   | some p=>
    rw [hp] at hm
    simp only [List.mem_append,List.mem_singleton,Prod.mk.injEq] at hm
    rcases hm with hm | hm
    ·by_cases hl : s.2 < p
     ·rw [if_pos hl] at hm
      simp only [List.mem_singleton,Prod.mk.injEq] at hm
      obtain ⟨rfl,⟨rfl,rfl⟩,rfl,rfl⟩:=hm
      exact ⟨by simpa using hj,hb',rfl,rfl,by rw [hp]; exact .inl ⟨hl,rfl,rfl⟩⟩
     ·rw [if_neg hl] at hm; simp at hm
    ·obtain ⟨rfl,⟨rfl,rfl⟩,rfl,rfl⟩:=hm
     exact ⟨by simpa using hj,hb',rfl,rfl,by rw [hp]; exact .inr ⟨rfl,rfl⟩⟩
 ·rintro ⟨h1,h2,h3,h4,h5⟩
  refine ⟨i,by simpa using h1,?_⟩
  unfold Tk.stepAt
  rw [if_neg (by simp [h2])]
  simp only at h3 h4
  subst h3; subst h4
  cases hp : T.place (T.at' i) with
  | none=>
   rw [hp] at h5
   obtain ⟨h5,h6⟩:=h5
   simp only at h5 h6
   subst h5; subst h6; simp
  | some p=>
   rw [hp] at h5
   rcases h5 with ⟨h5,h6,h7⟩ | ⟨h5,h6⟩
   ·simp only at h6 h7
    subst h6; subst h7
    simp [h5]
   ·simp only at h5 h6
    subst h5; subst h6; simp
theorem IsStep.cnt {T : Tk} {s : St} {i : Nat} {to : St} {c : Cost} (h : IsStep T s i to c) : cnt T.f to.1 + 1=cnt T.f s.1:=by rw [h.set]; exact cnt_or h.lt h.bit
theorem IsStep.set_lt {T : Tk} {s : St} {i : Nat} {to : St} {c : Cost} (h : IsStep T s i to c) (hs : s.1 < 2 ^ T.f) : to.1 < 2 ^ T.f:=by
 rw [h.set]; exact Nat.or_lt_two_pow hs (Nat.pow_lt_pow_right (by omega) h.lt)
def restF (T : Tk) : Nat→St→Cost
 | 0,_=>(0,0)
 | k + 1,s=>(leastO none ((T.steps s).map fun x=>cadd x.2.2 (restF T k x.2.1))).getD (0,0)
def Tk.rest (T : Tk) (s : St) : Cost:=restF T (cnt T.f s.1) s
theorem rest_full {T : Tk} {s : St} (h : cnt T.f s.1=0) : T.rest s=(0,0):=by unfold Tk.rest; rw [h]; rfl
theorem steps_ne {T : Tk} {s : St} (h : cnt T.f s.1≠0) : T.steps s≠[]:=by
 obtain ⟨i,h1,h2⟩:=cnt_pos h
 have : ∃ to c,IsStep T s i to c:=by
  cases hp : T.place (T.at' i) with
  | none=>exact ⟨(s.1 ||| 2 ^ i,s.2),(T.behind (T.at' i) s.1,0),h1,h2,rfl,rfl,by rw [hp]; exact ⟨rfl,rfl⟩⟩
  | some p=>exact ⟨(s.1 ||| 2 ^ i,s.2),(T.behind (T.at' i) s.1,1),h1,h2,rfl,rfl,by rw [hp]; exact .inr ⟨rfl,rfl⟩⟩
 obtain ⟨to,c,h⟩:=this
 exact List.ne_nil_of_mem (mem_steps.2 h)
theorem rest_eq {T : Tk} {s : St} (h : cnt T.f s.1≠0) : leastO none ((T.steps s).map fun x=>cadd x.2.2 (T.rest x.2.1))=some (T.rest s):=by
 have hm : (T.steps s).map (fun x=>cadd x.2.2 (T.rest x.2.1))=(T.steps s).map fun x=>cadd x.2.2 (restF T (cnt T.f s.1 - 1) x.2.1):=by
  refine List.map_congr_left fun x hx=>?_
  have:=(mem_steps (i:=x.1) (to:=x.2.1) (c:=x.2.2)).1 hx
  unfold Tk.rest
  have hc:=this.cnt
  have : cnt T.f x.2.1.1=cnt T.f s.1 - 1:=by omega
  rw [this]
 rw [hm]
 obtain ⟨m,h1,_⟩:=leastO_none (l:=(T.steps s).map fun x=>cadd x.2.2 (restF T (cnt T.f s.1 - 1) x.2.1)) (by simpa using steps_ne h)
 have : T.rest s=m:=by
  unfold Tk.rest
  obtain ⟨k,hk⟩ : ∃ k,cnt T.f s.1=k + 1:=⟨cnt T.f s.1 - 1,by omega⟩
  rw [hk] at h1 ⊢
  simp only [Nat.add_sub_cancel] at h1
  simp only [restF,h1,Option.getD_some]
 rw [h1,this]
def Path (T : Tk) : St→List Nat→Cost→St→Prop
 | s,[],c,s'=>c=(0,0)∧s'=s
 | s,i :: q,c,s'=>∃ to d e,IsStep T s i to d∧Path T to q e s'∧c=cadd d e
theorem path_append {T : Tk} : ∀ (q r : List Nat) (s : St) (c : Cost) (s' : St),Path T s (q ++ r) c s'↔∃ m d e,Path T s q d m∧Path T m r e s'∧c=cadd d e
 | [],r,s,c,s'=>by
  constructor
  ·intro h; exact ⟨s,(0,0),c,⟨rfl,rfl⟩,h,(zero_cadd c).symm⟩
  ·rintro ⟨m,d,e,⟨rfl,rfl⟩,h,rfl⟩; rw [zero_cadd]; exact h
 | i :: q,r,s,c,s'=>by
  simp only [List.cons_append,Path]
  constructor
  ·rintro ⟨to,d,e,h1,h2,rfl⟩
   obtain ⟨m,d',e',h3,h4,rfl⟩:=(path_append q r to e s').1 h2
   exact ⟨m,cadd d d',e',⟨to,d,d',h1,h3,rfl⟩,h4,(cadd_assoc _ _ _).symm⟩
  ·rintro ⟨m,d,e,⟨to,d',e',h1,h2,rfl⟩,h4,rfl⟩
   exact ⟨to,d',cadd e' e,h1,(path_append q r to _ s').2 ⟨m,e',e,h2,h4,rfl⟩,cadd_assoc _ _ _⟩
theorem path_cnt {T : Tk} : ∀ (q : List Nat) (s : St) (c : Cost) (s' : St),Path T s q c s'→cnt T.f s'.1 + q.length=cnt T.f s.1
 | [],s,c,s',⟨_,h⟩=>by subst h; rfl
 | i :: q,s,c,s',⟨to,d,e,h1,h2,_⟩=>by
  have:=path_cnt q to e s' h2
  have:=h1.cnt
  simp only [List.length_cons]; omega
theorem rest_step {T : Tk} {s : St} {i : Nat} {to : St} {c : Cost} (h : IsStep T s i to c) : cle (T.rest s) (cadd c (T.rest to)):=by
 have hc:=h.cnt
 have he:=rest_eq (T:=T) (s:=s) (by omega)
 obtain ⟨m,h1,h2,h3⟩:=leastO_none (l:=(T.steps s).map fun x=>cadd x.2.2 (T.rest x.2.1)) (by simpa using steps_ne (T:=T) (s:=s) (by omega))
 rw [h1] at he
 cases he
 exact h3 _ (List.mem_map.2 ⟨(i,to,c),mem_steps.2 h,rfl⟩)
theorem rest_le {T : Tk} : ∀ (q : List Nat) (s : St) (c : Cost) (s' : St),Path T s q c s'→cnt T.f s'.1=0→cle (T.rest s) c
 | [],s,c,s',⟨h1,h2⟩,h=>by subst h2; rw [rest_full h,h1]; exact cle_refl _
 | i :: q,s,c,s',⟨to,d,e,h1,h2,h3⟩,h=>by
  rw [h3]
  exact cle_trans (rest_step h1) (cadd_mono d (rest_le q to e s' h2 h))
theorem rest_ex {T : Tk} : ∀ (k : Nat) (s : St),cnt T.f s.1=k→∃ q s',Path T s q (T.rest s) s'∧cnt T.f s'.1=0
 | 0,s,h=>⟨[],s,⟨rest_full h,rfl⟩,h⟩
 | k + 1,s,h=>by
  have he:=rest_eq (T:=T) (s:=s) (by omega)
  obtain ⟨m,h1,h2,h3⟩:=leastO_none (l:=(T.steps s).map fun x=>cadd x.2.2 (T.rest x.2.1)) (by simpa using steps_ne (T:=T) (s:=s) (by omega))
  rw [h1] at he
  cases he
  obtain ⟨⟨i,to,c⟩,hx,hm⟩:=List.mem_map.1 h2
  have hs:=mem_steps.1 hx
  obtain ⟨q,s',g1,g2⟩:=rest_ex (T:=T) k to (by have:=hs.cnt; omega)
  exact ⟨i :: q,s',⟨to,c,T.rest to,hs,g1,hm.symm⟩,g2⟩
def Vd (T : Tk) : Nat→List Nat→Prop
 | _,[]=>True
 | set,i :: q=>i < T.f∧set.testBit i=false∧Vd T (set ||| 2 ^ i) q
def offQ (T : Tk) : Nat→List Nat→Int
 | _,[]=>0
 | set,i :: q=>T.behind (T.at' i) set + offQ T (set ||| 2 ^ i) q
def movS (p : Option Int) (last : Int) (g : Int→Int) : Int:=match p with
 | none=>g last
 | some p=>if last < p then min (g p) (1 + g last) else 1 + g last
def movQ (T : Tk) : Int→List Nat→Int
 | _,[]=>0
 | last,i :: q=>movS (T.place (T.at' i)) last fun l=>movQ T l q
theorem path_cost {T : Tk} : ∀ (q : List Nat) (s : St) (c : Cost) (s' : St),Path T s q c s'→Vd T s.1 q∧c.1=offQ T s.1 q∧movQ T s.2 q≤c.2
 | [],s,c,s',⟨h1,h2⟩=>by subst h1; exact ⟨trivial,rfl,Int.le_refl _⟩
 | i :: q,s,c,s',⟨to,d,e,h1,h2,h3⟩=>by
  obtain ⟨g1,g2,g3⟩:=path_cost q to e s' h2
  have h4:=h1.off
  have h6:=h1.to'
  rw [h1.set] at g1 g2
  subst h3
  refine ⟨⟨h1.lt,h1.bit,g1⟩,?_,?_⟩
  ·simp only [cadd,offQ,g2,h4]
  ·simp only [movQ,movS,cadd]
   cases hp : T.place (T.at' i) with
   | none=>
    rw [hp] at h6
    simp only [StepTo] at h6
    rw [h6.1] at g3
    simp only; omega
   | some p=>
    rw [hp] at h6
    simp only [StepTo] at h6
    rcases h6 with ⟨k1,k2,k3⟩ | ⟨k1,k2⟩
    ·rw [k2] at g3
     simp only [if_pos k1]; omega
    ·rw [k1] at g3
     simp only
     split <;> omega
theorem path_ex {T : Tk} : ∀ (q : List Nat) (s : St),Vd T s.1 q→∃ s',Path T s q (offQ T s.1 q,movQ T s.2 q) s'
 | [],s,_=>⟨s,rfl,rfl⟩
 | i :: q,s,⟨h1,h2,h3⟩=>by
  have key : ∀ (l : Int) (m : Int),StepTo T s i (s.1 ||| 2 ^ i,l) (T.behind (T.at' i) s.1,m) (T.place (T.at' i))→m + movQ T l q=movQ T s.2 (i :: q)→∃ s',Path T s (i :: q) (offQ T s.1 (i :: q),movQ T s.2 (i :: q)) s':=by
   intro l m hs hm
   obtain ⟨s',hp⟩:=path_ex q (s.1 ||| 2 ^ i,l) h3
   exact ⟨s',(s.1 ||| 2 ^ i,l),(T.behind (T.at' i) s.1,m),_,⟨h1,h2,rfl,rfl,hs⟩,hp,by simp only [cadd,offQ,hm]⟩
  cases hp : T.place (T.at' i) with
  | none=>
   refine key s.2 0 (by rw [hp]; exact ⟨rfl,rfl⟩) ?_
   simp [movQ,movS,hp]
  | some p=>
   by_cases hl : s.2 < p
   ·by_cases hm : movQ T p q≤1 + movQ T s.2 q
    ·refine key p 0 (by rw [hp]; exact .inl ⟨hl,rfl,rfl⟩) ?_
     simp [movQ,movS,hp,hl]; omega
    ·refine key s.2 1 (by rw [hp]; exact .inr ⟨rfl,rfl⟩) ?_
     simp [movQ,movS,hp,hl]; omega
   ·refine key s.2 1 (by rw [hp]; exact .inr ⟨rfl,rfl⟩) ?_
    simp [movQ,movS,hp,hl]
def permsX (f : Nat) : Nat→List Nat→List (List Nat)
 | 0,q=>[q]
 | k + 1,q=>(List.range f).flatMap fun i=>if i∈q then [] else permsX f k (q ++ [i])
structure Good (f : Nat) (q : List Nat) : Prop where
 nd : q.Nodup
 lt : ∀ i∈q,i < f
theorem mem_permsX {f : Nat} : ∀ (k : Nat) (q r : List Nat),Good f q→(r∈permsX f k q↔Good f r∧∃ t,t.length=k∧r=q ++ t)
 | 0,q,r,hq=>by
  simp only [permsX,List.mem_singleton]
  constructor
  ·rintro rfl; exact ⟨hq,[],rfl,by simp⟩
  ·rintro ⟨_,t,ht,rfl⟩
   rw [List.length_eq_zero_iff.1 ht]; simp
 | k + 1,q,r,hq=>by
  simp only [permsX,List.mem_flatMap,List.mem_range]
  constructor
  ·rintro ⟨i,hi,hr⟩
   by_cases hm : i∈q
   ·rw [if_pos hm] at hr; simp at hr
   ·rw [if_neg hm] at hr
    have hg : Good f (q ++ [i]):=⟨by
     rw [List.nodup_append]
     refine ⟨hq.nd,by simp,fun a ha b hb=>?_⟩
     simp at hb; subst hb; rintro rfl; exact hm ha,fun j hj=>by
     rcases List.mem_append.1 hj with h | h
     ·exact hq.lt j h
     ·simp at h; omega⟩
    obtain ⟨h1,t,h2,h3⟩:=(mem_permsX k (q ++ [i]) r hg).1 hr
    exact ⟨h1,i :: t,by simp [h2],by rw [h3]; simp⟩
  ·rintro ⟨hg,t,ht,rfl⟩
   cases t with
   | nil=>simp at ht
   | cons i t=>
    have hi : i∉q:=fun h=>by
     have:=hg.nd
     rw [List.nodup_append] at this
     exact this.2.2 i h i (by simp) rfl
    refine ⟨i,hg.lt i (by simp),?_⟩
    rw [if_neg hi]
    have hg' : Good f (q ++ [i]):=⟨by
     have:=hg.nd
     rw [List.nodup_append] at this ⊢
     refine ⟨this.1,by simp,fun a ha b hb=>?_⟩
     simp at hb; subst hb; rintro rfl; exact hi ha,fun j hj=>hg.lt j (by
      rcases List.mem_append.1 hj with h | h
      ·simp [h]
      ·simp at h; simp [h])⟩
    refine (mem_permsX k (q ++ [i]) _ hg').2 ⟨hg,t,by simpa using ht,by simp⟩
theorem vd_good {T : Tk} : ∀ (q : List Nat) (set : Nat),Vd T set q↔Good T.f q∧∀ i∈q,set.testBit i=false
 | [],set=>by simp [Vd]; exact ⟨by simp,by simp⟩
 | i :: q,set=>by
  simp only [Vd,vd_good q]
  constructor
  ·rintro ⟨h1,h2,⟨h3,h4⟩,h5⟩
   refine ⟨⟨?_,?_⟩,?_⟩
   ·rw [List.nodup_cons]
    refine ⟨fun hi=>?_,h3⟩
    have:=h5 i hi
    rw [bit_or] at this
    simp at this
   ·intro j hj
    rcases List.mem_cons.1 hj with rfl | hj
    ·exact h1
    ·exact h4 j hj
   ·intro j hj
    rcases List.mem_cons.1 hj with rfl | hj
    ·exact h2
    ·have:=h5 j hj
     rw [bit_or] at this
     cases hb : set.testBit j with
     | true=>rw [hb] at this; simp at this
     | false=>rfl
  ·rintro ⟨⟨h1,h2⟩,h3⟩
   rw [List.nodup_cons] at h1
   refine ⟨h2 i (by simp),h3 i (by simp),⟨h1.2,fun j hj=>h2 j (by simp [hj])⟩,fun j hj=>?_⟩
   rw [bit_or,h3 j (by simp [hj])]
   have : i≠j:=fun e=>h1.1 (e ▸ hj)
   simp [this]
structure Goal where
 T : Tk
 last0 : Int
 base : Int
namespace Goal
def total (g : Goal) : Cost:=cadd (g.base,0) (g.T.rest (0,g.last0))
def cost (g : Goal) (q : List Nat) : Cost:=cadd (g.base,0) (offQ g.T 0 q,movQ g.T g.last0 q)
def all (g : Goal) : List (List Nat):=permsX g.T.f g.T.f []
end Goal
theorem good_nil (f : Nat) : Good f []:=⟨by simp,by simp⟩
theorem mem_all {g : Goal} {q : List Nat} : q∈g.all↔Good g.T.f q∧q.length=g.T.f:=by
 unfold Goal.all
 rw [mem_permsX _ _ _ (good_nil _)]
 constructor
 ·rintro ⟨h1,t,h2,rfl⟩; exact ⟨h1,by simpa using h2⟩
 ·rintro ⟨h1,h2⟩; exact ⟨h1,q,h2,by simp⟩
theorem zero_bits (q : List Nat) : ∀ i∈q,Nat.testBit 0 i=false:=fun i _=>Nat.zero_testBit i
theorem reach_le {g : Goal} {q : List Nat} {c : Cost} {s : St} (h : Path g.T (0,g.last0) q c s) : cle g.total (cadd (cadd (g.base,0) c) (g.T.rest s)):=by
 obtain ⟨r,s',h1,h2⟩:=rest_ex _ s rfl
 have h3:=(path_append q r (0,g.last0) (cadd c (g.T.rest s)) s').2 ⟨s,c,_,h,h1,rfl⟩
 have h4:=rest_le _ _ _ _ h3 h2
 unfold Goal.total
 rw [cadd_assoc]
 exact cadd_mono _ h4
theorem total_le {g : Goal} {q : List Nat} (h : q∈g.all) : cle g.total (g.cost q):=by
 obtain ⟨h1,h2⟩:=mem_all.1 h
 obtain ⟨s',hp⟩:=path_ex q (0,g.last0) ((vd_good q 0).2 ⟨h1,zero_bits q⟩)
 have hc:=path_cnt _ _ _ _ hp
 rw [cnt_start] at hc
 have:=reach_le hp
 rw [rest_full (by omega),cadd_zero] at this
 exact this
theorem total_ex (g : Goal) : ∃ q∈g.all,g.cost q=g.total:=by
 obtain ⟨q,s',h1,h2⟩:=rest_ex (T:=g.T) _ (0,g.last0) rfl
 obtain ⟨k1,k2,k3⟩:=path_cost _ _ _ _ h1
 have hc:=path_cnt _ _ _ _ h1
 rw [cnt_start] at hc
 have hm : q∈g.all:=mem_all.2 ⟨((vd_good q 0).1 k1).1,by omega⟩
 refine ⟨q,hm,cle_anti ?_ (total_le hm)⟩
 unfold Goal.cost Goal.total
 refine cadd_mono _ ?_
 simp only at k2 k3
 unfold cle
 simp only; omega
def Goal.bests (g : Goal) (k : Nat) (q : List Nat) : List (List Nat):=(permsX g.T.f k q).filter fun r=>decide (g.cost r=g.total)

theorem L_common : ∀ (a b : List Int) (k : Nat) (l : List Int),b.Nodup→l.Sublist a→l.Sublist (b.drop k)→l.length≤L (places a b) k
 | [],b,k,l,hb,h1,h2=>by simp at h1; subst h1; simp
 | x :: a,b,k,l,hb,h1,h2=>by
  have hpl : places (x :: a) b=(b.idxOf? x,x) :: places a b:=rfl
  rw [hpl]
  cases h1 with
  | cons _ h1=>
   have:=L_common a b k l hb h1 h2
   cases hx : b.idxOf? x with
   | none=>simp only [L]; exact this
   | some q=>simp only [L]; split <;> omega
  | cons_cons _ h1=>
   rename_i l
   have hm : x∈b.drop k:=h2.subset (by simp)
   obtain ⟨j,hj⟩:=List.getElem?_of_mem hm
   rw [List.getElem?_drop] at hj
   have hjl:=(List.getElem?_eq_some_iff.1 hj).1
   have hje:=(List.getElem?_eq_some_iff.1 hj).2
   have hix : b.idxOf? x=some (k + j):=by
    cases hq : b.idxOf? x with
    | none=>exact absurd (List.mem_of_getElem? hj) (idxOf_none.1 hq)
    | some q=>
     obtain ⟨e1,e2⟩:=idxOf_some hq
     have:=(List.getElem?_inj (i:=q) (j:=k + j) (by exact (List.getElem?_eq_some_iff.1 e1).1) hb).1 (by rw [e1,hj])
     rw [this]
   rw [hix]
   simp only [L]
   rw [if_pos (by omega)]
   have h3 : l.Sublist (b.drop (k + j + 1)):=by
    have hd : b.drop k=(b.drop k).take j ++ x :: b.drop (k + j + 1):=by
     rw [show b.drop (k + j + 1)=(b.drop k).drop (j + 1) by rw [List.drop_drop]; congr 1]
     have h4 : (b.drop k)[j]'(by simp; omega)=x:=by simp [hje]
     rw [← h4,← List.drop_eq_getElem_cons,List.take_append_drop]
    rw [hd] at h2
    have hn : ((b.drop k).take j ++ x :: b.drop (k + j + 1)).Nodup:=hd ▸ (hb.sublist (List.drop_sublist _ _))
    rw [List.nodup_append] at hn
    have hx : x∉(b.drop k).take j:=fun h=>hn.2.2 x h x (by simp) rfl
    obtain ⟨l1,l2,e,s1,s2⟩:=List.sublist_append_iff.1 h2
    cases l1 with
    | nil=>
     simp only [List.nil_append] at e
     subst e
     exact List.cons_sublist_cons.1 s2
    | cons y l1=>
     simp only [List.cons_append,List.cons.injEq] at e
     exact absurd (s1.subset (by rw [e.1]; simp)) hx
   have:=L_common a b (k + j + 1) l hb h1 h3
   simp only [List.length_cons]; omega
theorem keptG_sub : ∀ (r : List Pl) (a : Nat),(keptG r a).Sublist (r.map (·.2))
 | [],_=>.slnil
 | (none,_) :: r,a=>(keptG_sub r a).cons _
 | (some b,x) :: r,a=>by
  simp only [keptG,List.map_cons]
  split
  ·exact (keptG_sub r (b + 1)).cons_cons _
  ·exact (keptG_sub r a).cons _
theorem kept_sub1 (old order : List Int) : (kept old order).Sublist old:=by
 have:=keptG_sub (places old order) 0
 have e : (places old order).map (·.2)=old:=by
  unfold places
  rw [List.map_map]
  exact List.map_id' old
 rw [e] at this
 exact this
theorem keptG_sub2 (order : List Int) : ∀ (r : List Pl) (a : Nat),(∀ b x,(some b,x)∈r→order[b]?=some x)→(keptG r a).Sublist (order.drop a)
 | [],_,_=>List.nil_sublist _
 | (none,_) :: r,a,h=>keptG_sub2 order r a fun b x hx=>h b x (List.mem_cons_of_mem _ hx)
 | (some b,x) :: r,a,h=>by
  simp only [keptG]
  split
  ·rename_i hc
   have hb:=h b x List.mem_cons_self
   obtain ⟨h1,h2⟩:=List.getElem?_eq_some_iff.1 hb
   have ih:=keptG_sub2 order r (b + 1) fun b' x' hx=>h b' x' (List.mem_cons_of_mem _ hx)
   have hs : (x :: order.drop (b + 1)).Sublist (order.drop a):=by
    have : x :: order.drop (b + 1)=order.drop b:=by rw [List.drop_eq_getElem_cons h1,h2]
    rw [this]
    have e : order.drop b=(order.drop a).drop (b - a):=by rw [List.drop_drop]; congr 1; omega
    rw [e]
    exact List.drop_sublist _ _
   exact (ih.cons_cons x).trans hs
  ·exact keptG_sub2 order r a fun b' x' hx=>h b' x' (List.mem_cons_of_mem _ hx)
theorem kept_sub2 (old order : List Int) : (kept old order).Sublist order:=by
 have:=keptG_sub2 order (places old order) 0 fun b x h=>by
  unfold places at h
  obtain ⟨y,_,e⟩:=List.mem_map.1 h
  simp only [Prod.mk.injEq] at e
  rw [← e.2]
  exact (idxOf_some e.1).1
 rw [List.drop_zero] at this
 exact this
theorem L_symm {a b : List Int} (ha : a.Nodup) (hb : b.Nodup) : L (places a b) 0=L (places b a) 0:=by
 have h1:=L_common b a 0 (kept a b) ha (kept_sub2 a b) (by rw [List.drop_zero]; exact kept_sub1 a b)
 have h2:=L_common a b 0 (kept b a) hb (kept_sub2 b a) (by rw [List.drop_zero]; exact kept_sub1 b a)
 rw [kept_len] at h1 h2
 omega
theorem L_succ : ∀ (r : List Pl) (a : Nat),L r a≤1 + L r (a + 1)
 | [],_=>by simp [L]
 | (none,_) :: r,a=>L_succ r a
 | (some b,_) :: r,a=>by
  have:=L_succ r a
  simp only [L]
  by_cases h : a≤b
  ·rw [if_pos h]
   by_cases h2 : a + 1≤b
   ·rw [if_pos h2]; omega
   ·have : b=a:=by omega
    subst this
    rw [if_neg h2]; omega
  ·rw [if_neg h,if_neg (by omega)]; exact this
theorem idxOf_nd {l : List Int} (hn : l.Nodup) {i : Nat} (hi : i < l.length) : l.idxOf? l[i]=some i:=by
 cases hq : l.idxOf? l[i] with
 | none=>exact absurd (List.getElem_mem hi) (idxOf_none.1 hq)
 | some q=>
  obtain ⟨e1,e2⟩:=idxOf_some hq
  have:=(List.getElem?_inj (i:=q) (j:=i) (by exact (List.getElem?_eq_some_iff.1 e1).1) hn).1 (by rw [e1,List.getElem?_eq_getElem hi])
  rw [this]
theorem L_front {old : List Int} (hn : old.Nodup) {p : Nat} (hp : p≤old.length) (gs : List Int) : ∀ (k j : Nat),p - j=k→j≤p→L (places ((old.take p).drop j ++ gs) old) j=k + L (places gs old) p
 | 0,j,hk,hj=>by
  obtain rfl : j=p:=by omega
  rw [List.drop_eq_nil_of_le (by simp; omega)]
  simp
 | k + 1,j,hk,hj=>by
  have hjl : j < (old.take p).length:=by simp; omega
  rw [List.drop_eq_getElem_cons hjl,List.cons_append]
  have hix : old.idxOf? ((old.take p)[j])=some j:=by
   rw [List.getElem_take]; exact idxOf_nd hn (by omega)
  have ih:=L_front hn hp gs k (j + 1) (by omega) (by omega)
  show L ((old.idxOf? ((old.take p)[j]),(old.take p)[j]) :: places ((old.take p).drop (j + 1) ++ gs) old) j=_
  rw [hix]
  simp only [L]
  rw [if_pos (Nat.le_refl _),ih]
  have:=L_succ (places ((old.take p).drop (j + 1) ++ gs) old) j
  rw [ih] at this
  omega
def offR (w : Int→Int→Int) : List Int→List Int→Int
 | _,[]=>0
 | ah,x :: r=>isum (ah.map (w x)) + offR w (ah ++ [x]) r
theorem offR_append (w : Int→Int→Int) : ∀ (a b ah : List Int),offR w ah (a ++ b)=offR w ah a + offR w (ah ++ a) b
 | [],b,ah=>by simp [offR]
 | x :: a,b,ah=>by
  simp only [List.cons_append,offR,offR_append w a b]
  simp; omega
theorem offR_offQ {T : Tk} : ∀ (q : List Nat) (set : Nat) (ah : List Int),Vd T set q→(∀ x,isum (ah.map (T.w x))=isum ((List.range T.f).map fun k=>if set.testBit k=true then T.w x (T.at' k) else 0)) →
  offR T.w (T.front ++ ah) (q.map T.at')=offQ T set q
 | [],_,_,_,_=>rfl
 | i :: q,set,ah,⟨h1,h2,h3⟩,h=>by
  simp only [List.map_cons,offR,offQ]
  have ih:=offR_offQ q (set ||| 2 ^ i) (ah ++ [T.at' i]) h3 (fun x=>by
   rw [List.map_append,isum_append,h x]
   have:=isum_one (l:=List.range T.f) List.nodup_range (p:=fun k=>if set.testBit k=true then T.w x (T.at' k) else 0) (q:=fun k=>if (set ||| 2 ^ i).testBit k=true then T.w x (T.at' k) else 0) (i:=i) (by simpa using h1) (fun j hj=>by
    simp only [bit_or,decide_eq_false (Ne.symm hj),Bool.or_false])
   rw [this]
   have e1 : (set ||| 2 ^ i).testBit i=true:=by rw [bit_or]; simp
   simp only [e1,h2,if_true,Bool.false_eq_true,if_false,List.map_cons,List.map_nil,isum]
   omega)
  rw [← List.append_assoc] at ih
  rw [ih]
  unfold Tk.behind
  rw [List.map_append,isum_append,h]
structure Cg where
 n : Nat
 w : Int→Int→Int
 old : List Int
 passed : Nat
namespace Cg
def front (c : Cg) : List Int:=c.old.take c.passed
def free (c : Cg) : List Int:=((List.range c.n).map fun (x : Nat)=>(x : Int)).filter fun x=>decide (x∉c.front)
def tk (c : Cg) : Tk:=⟨c.free,c.front,fun x=>(c.old.idxOf? x).map fun (i : Nat)=>(i : Int),c.w⟩
def goal (c : Cg) : Goal:=⟨c.tk,(c.passed : Int) - 1,offR c.w [] c.front⟩
def order (c : Cg) (q : List Nat) : List Int:=c.front ++ q.map c.tk.at'
def rcost (c : Cg) (o : List Int) : Cost:=(offR c.w [] o,movedN c.old o)
end Cg
structure CgOk (c : Cg) : Prop where
 nd : c.old.Nodup
 lt : ∀ x∈c.old,0≤x∧x < c.n
 ps : c.passed≤c.old.length
theorem free_nodup (c : Cg) : c.free.Nodup:=by
 unfold Cg.free
 refine List.Nodup.sublist List.filter_sublist ?_
 refine List.pairwise_map.2 ?_
 exact List.Pairwise.imp (fun h e=>h (Int.ofNat.inj e)) (List.nodup_range (n:=c.n))
theorem at_mem {c : Cg} {i : Nat} (hi : i < c.tk.f) : c.tk.at' i∈c.free:=by
 unfold Tk.at'
 have hi' : i < c.free.length:=hi
 show c.free.getD i 0∈c.free
 rw [List.getD_eq_getElem?_getD,List.getElem?_eq_getElem hi']
 exact List.getElem_mem hi'
theorem mem_free {c : Cg} {x : Int} : x∈c.free↔0≤x∧x < c.n∧x∉c.front:=by
 unfold Cg.free
 simp only [List.mem_filter,List.mem_map,List.mem_range,decide_eq_true_eq]
 constructor
 ·rintro ⟨⟨a,h1,rfl⟩,h2⟩; exact ⟨by omega,by omega,h2⟩
 ·rintro ⟨h1,h2,h3⟩; exact ⟨⟨x.toNat,by omega,by omega⟩,h3⟩
theorem at_inj {c : Cg} {i j : Nat} (hi : i < c.tk.f) (hj : j < c.tk.f) (h : c.tk.at' i=c.tk.at' j) : i=j:=by
 unfold Tk.at' at h
 have hi' : i < c.free.length:=hi
 have hj' : j < c.free.length:=hj
 change c.free.getD i 0=c.free.getD j 0 at h
 rw [List.getD_eq_getElem?_getD,List.getElem?_eq_getElem hi',List.getD_eq_getElem?_getD,List.getElem?_eq_getElem hj'] at h
 exact (List.getElem_inj (free_nodup c)).1 h
theorem front_nodup {c : Cg} (h : CgOk c) : c.front.Nodup:=h.nd.sublist (List.take_sublist _ _)
theorem order_nodup {c : Cg} (h : CgOk c) {q : List Nat} (hq : Good c.tk.f q) : (c.order q).Nodup:=by
 unfold Cg.order
 rw [List.nodup_append]
 refine ⟨front_nodup h,?_,fun a ha b hb=>?_⟩
 ·have h1:=hq.nd
  have h2:=hq.lt
  clear hq
  induction q with
  | nil=>simp
  | cons i q ih=>
   rw [List.nodup_cons] at h1
   rw [List.map_cons,List.nodup_cons]
   refine ⟨fun hm=>?_,ih h1.2 fun j hj=>h2 j (by simp [hj])⟩
   obtain ⟨j,hj,e⟩:=List.mem_map.1 hm
   have:=at_inj (h2 j (by simp [hj])) (h2 i (by simp)) e
   exact h1.1 (this ▸ hj)
 ·obtain ⟨j,hj,rfl⟩:=List.mem_map.1 hb
  rintro rfl
  exact (mem_free.1 (at_mem (hq.lt j hj))).2.2 ha
theorem full_mem {f : Nat} {q : List Nat} (hq : Good f q) (hl : q.length=f) {i : Nat} (hi : i < f) : i∈q:=by
 have hp : ((List.range f).filter fun j=>decide (j∈q)).Perm q:=(List.perm_ext_iff_of_nodup (List.nodup_range.sublist List.filter_sublist) hq.nd).2 fun j=>by
  rw [List.mem_filter,decide_eq_true_eq,List.mem_range]
  exact ⟨fun h=>h.2,fun h=>⟨hq.lt j h,h⟩⟩
 have h1 : ((List.range f).filter fun j=>decide (j∈q)).length=(List.range f).length:=by rw [hp.length_eq,hl,List.length_range]
 have h2:=List.length_filter_eq_length_iff.1 h1 i (by simpa using hi)
 simpa using h2
theorem order_mem {c : Cg} {q : List Nat} (h : CgOk c) (hq : Good c.tk.f q) (hl : q.length=c.tk.f) {x : Int} : x∈c.order q↔0≤x∧x < c.n:=by
 unfold Cg.order
 rw [List.mem_append]
 constructor
 ·rintro (h1 | h1)
  ·exact h.lt x (List.mem_of_mem_take h1)
  ·obtain ⟨j,hj,rfl⟩:=List.mem_map.1 h1
   have:=mem_free.1 (at_mem (hq.lt j hj))
   exact ⟨this.1,this.2.1⟩
 ·rintro ⟨h1,h2⟩
  by_cases hf : x∈c.front
  ·exact .inl hf
  ·have hm:=mem_free.2 ⟨h1,h2,hf⟩
   obtain ⟨i,hi,e⟩:=List.getElem_of_mem hm
   refine .inr (List.mem_map.2 ⟨i,full_mem hq hl hi,?_⟩)
   show c.free.getD i 0=x
   rw [List.getD_eq_getElem?_getD,List.getElem?_eq_getElem hi]; exact e
theorem movQ_L {c : Cg} : ∀ (q : List Nat) (a : Nat),movQ c.tk ((a : Int) - 1) q=(((q.map c.tk.at').filter fun x=>decide (x∈c.old)).length : Int) - L (places (q.map c.tk.at') c.old) a
 | [],a=>by simp [movQ,places,L]
 | i :: q,a=>by
  have hpl : places ((i :: q).map c.tk.at') c.old=(c.old.idxOf? (c.tk.at' i),c.tk.at' i) :: places (q.map c.tk.at') c.old:=rfl
  rw [hpl]
  simp only [movQ,movS,List.map_cons]
  have hp : c.tk.place (c.tk.at' i)=(c.old.idxOf? (c.tk.at' i)).map fun (i : Nat)=>(i : Int):=rfl
  rw [hp]
  cases hx : c.old.idxOf? (c.tk.at' i) with
  | none=>
   have hm:=idxOf_none.1 hx
   simp only [Option.map_none,L,List.filter_cons,hm,decide_false,Bool.false_eq_true,if_false]
   exact movQ_L q a
  | some b=>
   have hm : c.tk.at' i∈c.old:=List.mem_of_getElem? (idxOf_some hx).1
   simp only [Option.map_some,L,List.filter_cons,hm,decide_true,if_true,List.length_cons]
   have h1:=movQ_L (c:=c) q a
   have h2:=movQ_L (c:=c) q (b + 1)
   have e : ((b + 1 : Nat) : Int) - 1=b:=by omega
   rw [e] at h2
   by_cases hab : a≤b
   ·rw [if_pos (show (a : Int) - 1 < b by omega),if_pos hab,h1,h2]; omega
   ·rw [if_neg (show ¬ (a : Int) - 1 < b by omega),if_neg hab,h1]; omega
theorem order_moved {c : Cg} (h : CgOk c) {q : List Nat} (hq : Good c.tk.f q) (hl : q.length=c.tk.f) : movedN c.old (c.order q)=movQ c.tk ((c.passed : Int) - 1) q:=by
 rw [movQ_L q c.passed]
 unfold movedN
 rw [L_symm h.nd (order_nodup h hq)]
 have h1:=L_front h.nd h.ps (q.map c.tk.at') c.passed 0 (by omega) (by omega)
 rw [List.drop_zero] at h1
 change L (places (c.order q) c.old) 0=_ at h1
 rw [h1]
 have h2 : (c.old.filter fun x=>decide (x∈c.order q))=c.old:=by
  rw [List.filter_eq_self]
  intro x hx
  have:=(order_mem h hq hl).2 (h.lt x hx)
  simpa using this
 rw [h2]
 have h3 : ((q.map c.tk.at').filter fun x=>decide (x∈c.old)).Perm (c.old.drop c.passed):=by
  have hn1 : ((q.map c.tk.at').filter fun x=>decide (x∈c.old)).Nodup:=by
   refine List.Nodup.sublist List.filter_sublist ?_
   have:=order_nodup h hq
   unfold Cg.order at this
   rw [List.nodup_append] at this
   exact this.2.1
  have hn2 : (c.old.drop c.passed).Nodup:=h.nd.sublist (List.drop_sublist _ _)
  refine (List.perm_ext_iff_of_nodup hn1 hn2).2 fun x=>?_
  rw [List.mem_filter,decide_eq_true_eq]
  have hsplit : x∈c.old↔x∈c.front∨x∈c.old.drop c.passed:=by
   conv=>lhs; rw [← List.take_append_drop c.passed c.old]
   rw [List.mem_append]; rfl
  have hdis : ¬ (x∈c.front∧x∈c.old.drop c.passed):=by
   rintro ⟨g1,g2⟩
   have:=h.nd
   rw [← List.take_append_drop c.passed c.old,List.nodup_append] at this
   exact this.2.2 x g1 x g2 rfl
  constructor
  ·rintro ⟨g1,g2⟩
   rcases hsplit.1 g2 with g | g
   ·obtain ⟨j,hj,rfl⟩:=List.mem_map.1 g1
    exact absurd g (mem_free.1 (at_mem (hq.lt j hj))).2.2
   ·exact g
  ·intro g
   have g2:=hsplit.2 (.inr g)
   refine ⟨?_,g2⟩
   have:=(order_mem h hq hl).2 (h.lt x g2)
   unfold Cg.order at this
   rcases List.mem_append.1 this with g3 | g3
   ·exact absurd ⟨g3,g⟩ hdis
   ·exact g3
 have h4:=h3.length_eq
 rw [List.length_drop] at h4
 have:=h.ps
 omega
theorem order_cost {c : Cg} (h : CgOk c) {q : List Nat} (hq : q∈c.goal.all) : c.rcost (c.order q)=c.goal.cost q:=by
 obtain ⟨h1,h2⟩:=mem_all.1 hq
 unfold Cg.rcost Goal.cost
 have hv:=(vd_good (T:=c.tk) q 0).2 ⟨h1,zero_bits q⟩
 have ho : offR c.w [] (c.order q)=offR c.w [] c.front + offQ c.tk 0 q:=by
  unfold Cg.order
  rw [offR_append]
  have:=offR_offQ (T:=c.tk) q 0 [] hv (fun x=>by
   simp only [List.map_nil,isum,Nat.zero_testBit,Bool.false_eq_true,if_false]
   have : ∀ l : List Nat,isum (l.map fun _=>0)=0:=fun l=>by
    induction l with
    | nil=>rfl
    | cons a l ih=>simp only [List.map_cons,isum,ih]; rfl
   exact (this _).symm)
  rw [List.append_nil] at this
  rw [List.nil_append]
  have e : offR c.w c.front (q.map c.tk.at')=offQ c.tk 0 q:=this
  rw [e]
 rw [ho,order_moved h h1 h2]
 simp [cadd,Cg.goal]
def permsR (n : Nat) : Nat→List Int→List (List Int)
 | 0,b=>[b]
 | k + 1,b=>(List.range n).flatMap fun (x : Nat)=>if (x : Int)∈b then [] else permsR n k (b ++ [(x : Int)])
theorem flatMap_filter_nil {α β : Type} {p : α→Bool} {g : α→List β} : ∀ (l : List α),(∀ x∈l,p x=false→g x=[])→l.flatMap g=(l.filter p).flatMap g
 | [],_=>rfl
 | a :: l,h=>by
  rw [List.flatMap_cons,List.filter_cons,flatMap_filter_nil l fun x hx=>h x (by simp [hx])]
  cases hp : p a with
  | true=>simp
  | false=>rw [h a (by simp) hp]; simp
theorem flatMap_getD {β : Type} (l : List Int) (g : Int→List β) : l.flatMap g=(List.range l.length).flatMap fun i=>g (l.getD i 0):=by
 have : l=(List.range l.length).map fun i=>l.getD i 0:=by
  refine List.ext_getElem (by simp) fun i h1 h2=>?_
  simp [List.getD_eq_getElem?_getD,h1]
 conv=>lhs; rw [this]
 rw [List.flatMap_map]
theorem perms_eq {c : Cg} : ∀ (k : Nat) (q : List Nat),Good c.tk.f q→permsR c.n k (c.order q)=(permsX c.tk.f k q).map c.order
 | 0,q,_=>rfl
 | k + 1,q,hq=>by
  simp only [permsR,permsX,List.map_flatMap]
  have e1 : (List.range c.n).flatMap (fun (x : Nat)=>if (x : Int)∈c.order q then [] else permsR c.n k (c.order q ++ [(x : Int)]))=c.free.flatMap fun x=>if x∈c.order q then [] else permsR c.n k (c.order q ++ [x]):=by
   unfold Cg.free
   rw [← flatMap_filter_nil (p:=fun x=>decide (x∉c.front)) (g:=fun x=>if x∈c.order q then [] else permsR c.n k (c.order q ++ [x])),List.flatMap_map]
   intro x hx hp
   have : x∈c.order q:=by
    unfold Cg.order
    rw [List.mem_append]
    left
    simpa using hp
   rw [if_pos this]
  rw [e1,flatMap_getD]
  refine List.flatMap_congr_mem fun i hi=>?_
  have hi : i < c.tk.f:=List.mem_range.1 hi
  have hat : c.free.getD i 0=c.tk.at' i:=rfl
  rw [hat]
  have hm : c.tk.at' i∈c.order q↔i∈q:=by
   unfold Cg.order
   rw [List.mem_append]
   constructor
   ·rintro (h | h)
    ·exact absurd h (mem_free.1 (at_mem hi)).2.2
    ·obtain ⟨j,hj,e⟩:=List.mem_map.1 h
     exact at_inj (hq.lt j hj) hi e ▸ hj
   ·intro h; exact .inr (List.mem_map.2 ⟨i,h,rfl⟩)
  by_cases h : i∈q
  ·rw [if_pos (hm.2 h),if_pos h]; rfl
  ·rw [if_neg (fun g=>h (hm.1 g)),if_neg h]
   have hg : Good c.tk.f (q ++ [i]):=⟨by
    rw [List.nodup_append]
    refine ⟨hq.nd,by simp,fun a ha b hb=>?_⟩
    simp at hb; subst hb; rintro rfl; exact h ha,fun j hj=>by
    rcases List.mem_append.1 hj with h | h
    ·exact hq.lt j h
    ·simp at h; omega⟩
   have:=perms_eq k (q ++ [i]) hg
   rw [← this]
   unfold Cg.order
   simp
where
 List.flatMap_congr_mem {α β : Type} {l : List α} {f g : α→List β} (h : ∀ a∈l,f a=g a) : l.flatMap f=l.flatMap g:=by
  induction l with
  | nil=>rfl
  | cons a l ih=>rw [List.flatMap_cons,List.flatMap_cons,h a (by simp),ih fun b hb=>h b (by simp [hb])]
abbrev Best:=Cost × List (List Int)
def bstep (cost : List Int→Cost) (b : Best) (o : List Int) : Best:=
 if b.2≠[]∧clt b.1 (cost o)=true then b else if b.2≠[]∧clt (cost o) b.1=true then (cost o,[o]) else (cost o,b.2 ++ [o])
def BInv (cost : List Int→Cost) (b : Best) (l : List (List Int)) : Prop:=(l=[]∧b.2=[])∨(l≠[]∧(∀ o∈l,cle b.1 (cost o))∧b.2=l.filter (fun o=>decide (cost o=b.1))∧b.2≠[])
theorem bstep_inv {cost : List Int→Cost} {b : Best} {l : List (List Int)} (h : BInv cost b l) (o : List Int) : BInv cost (bstep cost b o) (l ++ [o]):=by
 obtain ⟨bc,bo⟩:=b
 rcases h with ⟨rfl,h⟩ | ⟨h1,h2,h3,h4⟩
 ·simp only at h
  subst h
  refine .inr ⟨by simp,?_,?_,?_⟩
  ·simp [bstep,cle_refl]
  ·simp [bstep]
  ·simp [bstep]
 ·simp only at h2 h3 h4
  unfold bstep
  simp only
  by_cases c1 : clt bc (cost o)=true
  ·rw [if_pos ⟨h4,c1⟩]
   refine .inr ⟨by simp,fun x hx=>?_,?_,h4⟩
   ·rcases List.mem_append.1 hx with hx | hx
    ·exact h2 x hx
    ·simp at hx; subst hx
     have:=clt_iff.1 c1
     unfold cle; simp only; omega
   ·simp only
    rw [List.filter_append,← h3]
    have : cost o≠bc:=fun e=>by rw [e] at c1; have:=clt_iff.1 c1; omega
    simp [this]
  ·rw [if_neg (fun h=>c1 h.2)]
   have c1' : cle (cost o) bc:=clt_not.1 (by simpa using c1)
   by_cases c2 : clt (cost o) bc=true
   ·rw [if_pos ⟨h4,c2⟩]
    have c2':=clt_iff.1 c2
    refine .inr ⟨by simp,fun x hx=>?_,?_,by simp⟩
    ·rcases List.mem_append.1 hx with hx | hx
     ·exact cle_trans c1' (h2 x hx)
     ·simp at hx; subst hx; exact cle_refl _
    ·simp only
     rw [List.filter_append]
     have : l.filter (fun x=>decide (cost x=cost o))=[]:=by
      rw [List.filter_eq_nil_iff]
      intro x hx
      have:=h2 x hx
      simp only [decide_eq_true_eq]
      intro e
      rw [e] at this
      unfold cle at this; omega
     rw [this]; simp
   ·rw [if_neg (fun h=>c2 h.2)]
    have he : bc=cost o:=cle_anti (clt_not.1 (by simpa using c2)) c1'
    refine .inr ⟨by simp,fun x hx=>?_,?_,by simp⟩
    ·rcases List.mem_append.1 hx with hx | hx
     ·rw [← he]; exact h2 x hx
     ·simp at hx; subst hx; exact cle_refl _
    ·simp only
     rw [List.filter_append,h3,he]; simp
theorem bfold_inv {cost : List Int→Cost} : ∀ (m l : List (List Int)) (b : Best),BInv cost b l→BInv cost (m.foldl (bstep cost) b) (l ++ m)
 | [],l,b,h=>by simpa using h
 | o :: m,l,b,h=>by
  rw [List.foldl_cons]
  have:=bfold_inv m (l ++ [o]) _ (bstep_inv h o)
  simpa using this
theorem bfold_eq {cost : List Int→Cost} {m : List (List Int)} {c0 t : Cost} (h1 : ∀ o∈m,cle t (cost o)) (h2 : ∃ o∈m,cost o=t) : m.foldl (bstep cost) (c0,[])=(t,m.filter fun o=>decide (cost o=t)):=by
 have:=bfold_inv (cost:=cost) m [] (c0,[]) (.inl ⟨rfl,rfl⟩)
 rw [List.nil_append] at this
 obtain ⟨o,ho,he⟩:=h2
 rcases this with ⟨e,_⟩ | ⟨g1,g2,g3,g4⟩
 ·subst e; simp at ho
 ·generalize m.foldl (bstep cost) (c0,[])=b at *
  obtain ⟨bc,bo⟩:=b
  simp only at g2 g3 g4
  have hb : bc=t:=by
   refine cle_anti (by rw [← he]; exact g2 o ho) ?_
   cases bo with
   | nil=>exact absurd rfl g4
   | cons x bo=>
    have hx : x∈m.filter (fun o=>decide (cost o=bc)):=by rw [← g3]; simp
    rw [List.mem_filter,decide_eq_true_eq] at hx
    rw [← hx.2]; exact h1 x hx.1
  rw [g3,hb]
def Cg.bests (c : Cg) : List (List Int):=(c.goal.bests c.tk.f []).map c.order
theorem ref_bests {c : Cg} (h : CgOk c) {c0 : Cost} : (permsR c.n c.tk.f c.front).foldl (bstep c.rcost) (c0,[])=(c.goal.total,c.bests):=by
 have e : permsR c.n c.tk.f c.front=c.goal.all.map c.order:=by
  have:=perms_eq (c:=c) c.tk.f [] (good_nil _)
  unfold Cg.order at this
  simp only [List.map_nil,List.append_nil] at this
  rw [this]; rfl
 rw [e,bfold_eq (t:=c.goal.total)]
 ·congr 1
  unfold Cg.bests Goal.bests
  rw [List.filter_map]
  congr 1
  refine List.filter_congr fun q hq=>?_
  have:=order_cost h (show q∈c.goal.all from hq)
  simp only [Function.comp,this]
 ·intro o ho
  obtain ⟨q,hq,rfl⟩:=List.mem_map.1 ho
  rw [order_cost h hq]
  exact total_le hq
 ·obtain ⟨q,hq,hc⟩:=total_ex c.goal
  exact ⟨c.order q,List.mem_map.2 ⟨q,hq,rfl⟩,by rw [order_cost h hq]; exact hc⟩
end Go.Gx.Z
