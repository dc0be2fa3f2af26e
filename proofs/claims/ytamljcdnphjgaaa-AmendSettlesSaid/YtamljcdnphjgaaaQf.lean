/-
  Lists of pairs that ascend (no program in sight).
-/
import Derived.Test.YtamljcdnphjgaaaPk
import Derived.Test.YtamljcdnphjgaaaGj
set_option linter.all false
set_option linter.deprecated false
set_option linter.unusedSimpArgs false
set_option linter.unusedVariables false
namespace Go.Gx.A
open Go.Gx
set_option linter.all false
def plt (a b : Int × Int) : Prop:=a.1 < b.1 ∨ a.1=b.1∧a.2 < b.2
theorem plt_irr (a : Int × Int) : ¬ plt a a:=by unfold plt; omega
theorem plt_asymm {a b : Int × Int} (h : plt a b) : ¬ plt b a:=by unfold plt at *; omega
theorem asc_unique : ∀ {l m : List (Int × Int)},l.Pairwise plt→m.Pairwise plt→(∀ x,x ∈ l ↔ x ∈ m)→l=m
 | [],[],_,_,_=>rfl
 | [],b :: m,_,_,h=>by have:=(h b).2 (by simp); simp at this
 | a :: l,[],_,_,h=>by have:=(h a).1 (by simp); simp at this
 | a :: l,b :: m,hl,hm,h=>by
  rw [List.pairwise_cons] at hl hm
  have hab : a=b:=by
   rcases List.mem_cons.1 ((h a).1 (by simp)) with h1 | h1
   ·exact h1
   ·rcases List.mem_cons.1 ((h b).2 (by simp)) with h2 | h2
    ·exact h2.symm
    ·exact absurd (hl.1 b h2) (plt_asymm (hm.1 a h1))
  subst hab
  congr 1
  refine asc_unique hl.2 hm.2 fun x=>?_
  constructor
  ·intro hx
   rcases List.mem_cons.1 ((h x).1 (by simp [hx])) with h1 | h1
   ·subst h1; exact absurd (hl.1 x hx) (plt_irr x)
   ·exact h1
  ·intro hx
   rcases List.mem_cons.1 ((h x).2 (by simp [hx])) with h1 | h1
   ·subst h1; exact absurd (hm.1 x hx) (plt_irr x)
   ·exact h1
theorem sort_asc {l : List (Int × Int)} (hn : l.Nodup) : (l.mergeSort le2).Pairwise plt:=by
 have h1 : (l.mergeSort le2).Pairwise (fun a b=>le2 a b=true):=List.pairwise_mergeSort (fun a b c h k=>by unfold le2 at *; simp only [decide_eq_true_eq] at *; omega) (fun a b=>by unfold le2; simp only [Bool.or_eq_true,decide_eq_true_eq]; omega) l
 have h2 : (l.mergeSort le2).Nodup:=(List.mergeSort_perm l le2).nodup_iff.2 hn
 refine List.Pairwise.imp (R:=fun a b=>le2 a b=true∧a ≠ b) (fun {a b} h=>?_) (List.pairwise_and_iff.2 ⟨h1,h2⟩)
 obtain ⟨h3,h4⟩:=h
 unfold le2 at h3
 simp only [decide_eq_true_eq] at h3
 unfold plt
 obtain ⟨a1,a2⟩:=a
 obtain ⟨b1,b2⟩:=b
 simp only [ne_eq,Prod.mk.injEq] at h4
 simp only at h3 ⊢
 omega
theorem sort_mem {l : List (Int × Int)} {x : Int × Int} : x ∈ l.mergeSort le2 ↔ x ∈ l:=(List.mergeSort_perm l le2).mem_iff
end Go.Gx.A
namespace Go.Gx.A
open Go.Gx
set_option linter.all false
def prsO : List Int→List (Int × Int)
 | []=>[]
 | x :: r=>r.map (fun y=>(x,y)) ++ prsO r
theorem mem_prsO : ∀ {l : List Int} {p : Int × Int},p ∈ prsO l ↔ [p.1,p.2].Sublist l
 | [],p=>by
  simp only [prsO,List.not_mem_nil,false_iff]
  intro h; cases h
 | a :: l,p=>by
  rw [prsO,List.mem_append,List.mem_map,mem_prsO]
  constructor
  ·rintro (⟨y,hy,rfl⟩ | h)
   ·exact List.Sublist.cons_cons a (List.singleton_sublist.2 hy)
   ·exact h.cons a
  ·intro h
   cases h with
   | cons _ h=>exact .inr h
   | cons_cons _ h=>exact .inl ⟨p.2,List.singleton_sublist.1 h,rfl⟩
theorem prsO_mem {l : List Int} {p : Int × Int} (h : p ∈ prsO l) : p.1 ∈ l∧p.2 ∈ l:=by
 have:=(mem_prsO.1 h).subset
 exact ⟨this (by simp),this (by simp)⟩
theorem prsO_ne {l : List Int} (hn : l.Nodup) {p : Int × Int} (h : p ∈ prsO l) : p.1 ≠ p.2:=by
 have:=hn.sublist (mem_prsO.1 h)
 rw [List.nodup_cons] at this
 intro e
 exact this.1 (by rw [e]; simp)
theorem prsO_nodup : ∀ {l : List Int},l.Nodup→(prsO l).Nodup
 | [],_=>List.nodup_nil
 | a :: l,h=>by
  rw [List.nodup_cons] at h
  rw [prsO,List.nodup_append]
  refine ⟨List.pairwise_map.2 (h.2.imp fun hne e=>hne (by injection e)),prsO_nodup h.2,?_⟩
  intro p hp q hq e
  subst e
  obtain ⟨y,hy,rfl⟩:=List.mem_map.1 hp
  exact h.1 (prsO_mem hq).1
theorem prsO_len : ∀ (l : List Int),(prsO l).length * 2=l.length * (l.length - 1)
 | []=>rfl
 | a :: l=>by
  have ih:=prsO_len l
  rw [prsO,List.length_append,List.length_map,Nat.add_mul,ih,List.length_cons,Nat.add_sub_cancel]
  cases l.length with
  | zero=>rfl
  | succ n=>
   rw [Nat.add_sub_cancel,← Nat.mul_add,Nat.mul_comm]
   congr 1
   omega
theorem prsO_asymm {l : List Int} (hn : l.Nodup) {x y : Int} (h : (x,y) ∈ prsO l) : (y,x) ∉ prsO l:=by
 induction l with
 | nil=>simp [prsO] at h
 | cons a l ih=>
  rw [List.nodup_cons] at hn
  rw [prsO,List.mem_append,List.mem_map] at h ⊢
  rintro (⟨z,hz,e⟩ | k)
  ·injection e with e1 e2
   subst e1 e2
   rcases h with ⟨z',hz',e'⟩ | h
   ·injection e' with e1' e2'
    subst e1'
    exact hn.1 hz
   ·exact hn.1 (prsO_mem h).2
  ·rcases h with ⟨z',hz',e'⟩ | h
   ·injection e' with e1' e2'
    subst e1'
    exact hn.1 (prsO_mem k).2
   ·exact ih hn.2 h k
theorem prsO_inj : ∀ {a b : List Int},a.Nodup→b.Nodup→(∀ x,x ∈ a ↔ x ∈ b)→(∀ p ∈ prsO a,p ∈ prsO b)→a=b
 | [],[],_,_,_,_=>rfl
 | [],y :: b,_,_,h,_=>by have:=(h y).2 (by simp); simp at this
 | x :: a,[],_,_,h,_=>by have:=(h x).1 (by simp); simp at this
 | x :: a,y :: b,ha,hb,hm,hp=>by
  have hxy : x=y:=by
   rcases List.mem_cons.1 ((hm x).1 (by simp)) with h | h
   ·exact h
   ·rcases List.mem_cons.1 ((hm y).2 (by simp)) with k | k
    ·exact k.symm
    ·have h1 : (x,y) ∈ prsO (y :: b):=hp _ (by rw [prsO]; exact List.mem_append_left _ (List.mem_map.2 ⟨y,k,rfl⟩))
     have h2 : (y,x) ∈ prsO (y :: b):=by rw [prsO]; exact List.mem_append_left _ (List.mem_map.2 ⟨x,h,rfl⟩)
     exact absurd h2 (prsO_asymm hb h1)
  subst hxy
  congr 1
  rw [List.nodup_cons] at ha hb
  refine prsO_inj ha.2 hb.2 (fun z=>?_) (fun p hpa=>?_)
  ·constructor
   ·intro hz
    rcases List.mem_cons.1 ((hm z).1 (by simp [hz])) with h | h
    ·subst h; exact absurd hz ha.1
    ·exact h
   ·intro hz
    rcases List.mem_cons.1 ((hm z).2 (by simp [hz])) with h | h
    ·subst h; exact absurd hz hb.1
    ·exact h
  ·have h1:=hp p (by rw [prsO]; exact List.mem_append_right _ hpa)
   rw [prsO,List.mem_append,List.mem_map] at h1
   rcases h1 with ⟨z,hz,rfl⟩ | h1
   ·exact absurd (prsO_mem hpa).1 ha.1
   ·exact h1
theorem nd_len {α : Type} [DecidableEq α] : ∀ {l m : List α},l.Nodup→(∀ x ∈ l,x ∈ m)→l.length ≤ m.length
 | [],m,_,_=>Nat.zero_le _
 | a :: l,m,h,hs=>by
  rw [List.nodup_cons] at h
  have ha:=hs a (by simp)
  have h1:=nd_len (m:=m.erase a) h.2 fun x hx=>(List.mem_erase_of_ne (fun e : x=a=>h.1 (e ▸ hx))).2 (hs x (by simp [hx]))
  rw [List.length_erase_of_mem ha] at h1
  have:=List.length_pos_of_mem ha
  simp only [List.length_cons]
  omega
theorem nd_all {α : Type} [DecidableEq α] {l m : List α} (h : l.Nodup) (hs : ∀ x ∈ l,x ∈ m) (hl : m.length ≤ l.length) : ∀ x ∈ m,x ∈ l:=fun x hx=>by
 by_cases hn : x ∈ l
 ·exact hn
 ·have:=nd_len (l:=x :: l) (m:=m) (List.nodup_cons.2 ⟨hn,h⟩) fun y hy=>by
   rcases List.mem_cons.1 hy with rfl | hy
   ·exact hx
   ·exact hs y hy
  simp only [List.length_cons] at this
  omega
theorem count_nd {l : List (Int × Int)} (h : l.Nodup) (p : Int × Int) : l.count p=if p ∈ l then 1 else 0:=by
 by_cases hp : p ∈ l
 ·rw [if_pos hp]
  have:=List.nodup_iff_count.1 h p
  have:=List.count_pos_iff.2 hp
  omega
 ·rw [if_neg hp,List.count_eq_zero.2 hp]
theorem count_prs {p : Int × Int} : ∀ {ords : List (List Int)},(∀ o ∈ ords,o.Nodup)→(ords.flatMap prsO).count p ≤ ords.length∧((ords.flatMap prsO).count p=ords.length ↔ ∀ o ∈ ords,p ∈ prsO o)
 | [],_=>by simp
 | o :: ords,h=>by
  obtain ⟨h1,h2⟩:=count_prs (p:=p) (ords:=ords) fun o ho=>h o (by simp [ho])
  have h3:=count_nd (prsO_nodup (h o (by simp))) p
  rw [List.flatMap_cons,List.count_append,h3,List.length_cons]
  by_cases hp : p ∈ prsO o
  ·rw [if_pos hp]
   refine ⟨by omega,?_⟩
   simp only [List.mem_cons,forall_eq_or_imp,hp,true_and]
   rw [← h2]
   omega
  ·rw [if_neg hp]
   refine ⟨by omega,?_⟩
   simp only [List.mem_cons,forall_eq_or_imp,hp,false_and,iff_false]
   omega
def rowS (P : Int × Int→Bool) (x n : Nat) : List (Int × Int):=((List.range n).map fun (y : Nat)=>((x : Int),(y : Int))).filter P
def setS (P : Int × Int→Bool) (n k : Nat) : List (Int × Int):=(List.range k).flatMap fun x=>rowS P x n
theorem setS_zero (P : Int × Int→Bool) (n : Nat) : setS P n 0=[]:=rfl
theorem setS_succ (P : Int × Int→Bool) (n k : Nat) : setS P n (k + 1)=setS P n k ++ rowS P k n:=by
 unfold setS
 rw [List.range_succ,List.flatMap_append]
 simp
theorem mem_rowS {P : Int × Int→Bool} {x n : Nat} {p : Int × Int} : p ∈ rowS P x n ↔ p.1=x∧0 ≤ p.2∧p.2 < n∧P p=true:=by
 unfold rowS
 rw [List.mem_filter,List.mem_map]
 constructor
 ·rintro ⟨⟨y,hy,rfl⟩,h⟩
  rw [List.mem_range] at hy
  exact ⟨rfl,by simp only; omega,by simp only; omega,h⟩
 ·rintro ⟨h1,h2,h3,h4⟩
  obtain ⟨a,b⟩:=p
  simp only at h1 h2 h3
  subst h1
  exact ⟨⟨b.toNat,List.mem_range.2 (by omega),by rw [Int.toNat_of_nonneg h2]⟩,h4⟩
theorem mem_setS {P : Int × Int→Bool} {n k : Nat} {p : Int × Int} : p ∈ setS P n k ↔ 0 ≤ p.1∧p.1 < k∧0 ≤ p.2∧p.2 < n∧P p=true:=by
 unfold setS
 rw [List.mem_flatMap]
 constructor
 ·rintro ⟨x,hx,hp⟩
  rw [List.mem_range] at hx
  obtain ⟨h1,h2,h3,h4⟩:=mem_rowS.1 hp
  exact ⟨by omega,by omega,h2,h3,h4⟩
 ·rintro ⟨h1,h2,h3,h4,h5⟩
  exact ⟨p.1.toNat,List.mem_range.2 (by omega),mem_rowS.2 ⟨by omega,h3,h4,h5⟩⟩
theorem rowS_asc (P : Int × Int→Bool) (x n : Nat) : (rowS P x n).Pairwise plt:=by
 unfold rowS
 refine List.Pairwise.filter _ (List.pairwise_map.2 ?_)
 refine (List.pairwise_lt_range (n:=n)).imp fun h=>?_
 exact .inr ⟨rfl,Int.ofNat_lt.2 h⟩
theorem setS_asc (P : Int × Int→Bool) (n : Nat) : ∀ k,(setS P n k).Pairwise plt
 | 0=>List.Pairwise.nil
 | k + 1=>by
  rw [setS_succ,List.pairwise_append]
  refine ⟨setS_asc P n k,rowS_asc P k n,fun p hp q hq=>?_⟩
  have h1:=mem_setS.1 hp
  have h2:=mem_rowS.1 hq
  unfold plt
  omega
theorem plt_nodup {l : List (Int × Int)} (h : l.Pairwise plt) : l.Nodup:=List.Pairwise.imp (S:=fun a b=>a ≠ b) (fun {a b} h e=>by subst e; exact plt_irr a h) h
def inAll (c : Cg) (p : Int × Int) : Bool:=decide (∀ o ∈ c.bests,p ∈ prsO o)
def Cg.settled (c : Cg) : List (Int × Int):=setS (inAll c) c.n c.n
theorem bests_nd {c : Cg} (ok : CgOk c) {o : List Int} (h : o ∈ c.bests) : o.Nodup∧o.length=c.n∧∀ x,x ∈ o ↔ 0 ≤ x∧x < c.n:=by
 obtain ⟨q,q1,q2,rfl⟩:=mem_bests.1 h
 have hq:=mem_all.1 q1
 refine ⟨order_nodup ok hq.1,?_,fun x=>order_mem ok hq.1 hq.2⟩
 have h1 : ∀ x,x ∈ c.order q ↔ x ∈ (List.range c.n).map fun (y : Nat)=>(y : Int):=fun x=>by
  rw [order_mem ok hq.1 hq.2,List.mem_map]
  constructor
  ·rintro ⟨g1,g2⟩; exact ⟨x.toNat,List.mem_range.2 (by omega),by omega⟩
  ·rintro ⟨y,hy,rfl⟩; rw [List.mem_range] at hy; omega
 have hnd : ((List.range c.n).map fun (x : Nat)=>(x : Int)).Nodup:=List.pairwise_map.2 (List.Pairwise.imp (fun h e=>h (Int.ofNat.inj e)) (List.nodup_range (n:=c.n)))
 have:=((List.perm_ext_iff_of_nodup (order_nodup ok hq.1) hnd).2 h1).length_eq
 simpa using this
theorem mem_settled {c : Cg} (ok : CgOk c) {p : Int × Int} : p ∈ c.settled ↔ ∀ o ∈ c.bests,p ∈ prsO o:=by
 unfold Cg.settled
 rw [mem_setS]
 unfold inAll
 rw [decide_eq_true_eq]
 constructor
 ·exact fun h=>h.2.2.2.2
 ·intro h
  obtain ⟨o,ho⟩:=List.exists_mem_of_ne_nil _ (bests_ne c)
  obtain ⟨h1,h2⟩:=prsO_mem (h o ho)
  have h3:=(bests_nd ok ho).2.2
  rw [h3] at h1 h2
  exact ⟨h1.1,h1.2,h2.1,h2.2,h⟩
theorem settled_asc (c : Cg) : c.settled.Pairwise plt:=setS_asc _ _ _
def full (c : Cg) (p : Int × Int) : Bool:=decide ((c.bests.flatMap prsO).count p=c.bests.length)
theorem full_iff {c : Cg} (ok : CgOk c) {p : Int × Int} : full c p=true ↔ ∀ o ∈ c.bests,p ∈ prsO o:=by
 unfold full
 rw [decide_eq_true_eq]
 exact (count_prs (p:=p) (ords:=c.bests) fun o ho=>(bests_nd ok ho).1).2
theorem settled_sort {c : Cg} (ok : CgOk c) {K : List (Int × Int)} (hn : K.Nodup) (hK : ∀ p,p ∈ K ↔ p ∈ c.bests.flatMap prsO) {out : List (Int × Int)} (ho : out.Perm (K.filter (full c))) : out.mergeSort Go.Gx.le2=c.settled:=by
 refine asc_unique (sort_asc (ho.nodup_iff.2 (hn.sublist List.filter_sublist))) (settled_asc c) fun p=>?_
 rw [sort_mem,ho.mem_iff,mem_settled ok,List.mem_filter,full_iff ok,hK]
 constructor
 ·exact fun h=>h.2
 ·intro h
  obtain ⟨o,ho⟩:=List.exists_mem_of_ne_nil _ (bests_ne c)
  exact ⟨List.mem_flatMap.2 ⟨o,ho,h o ho⟩,h⟩
theorem few_settled {c : Cg} (ok : CgOk c) {D : List (Int × Int)} (hn : D.Nodup) : (D.filter (full c)).length ≤ c.n * c.n:=by
 obtain ⟨o,ho⟩:=List.exists_mem_of_ne_nil _ (bests_ne c)
 obtain ⟨h1,h2,h3⟩:=bests_nd ok ho
 have h4:=nd_len (l:=D.filter (full c)) (m:=prsO o) (hn.sublist List.filter_sublist) fun p hp=>(full_iff ok).1 (List.mem_filter.1 hp).2 o ho
 have h5:=prsO_len o
 rw [h2] at h5
 have h6 : c.n * (c.n - 1) ≤ c.n * c.n:=Nat.mul_le_mul_left _ (Nat.sub_le _ _)
 omega
theorem permsX_pre {f : Nat} : ∀ (k : Nat) (q r : List Nat),r ∈ permsX f k q→∃ t,r=q ++ t
 | 0,q,r,h=>by
  simp only [permsX,List.mem_singleton] at h
  exact ⟨[],by simp [h]⟩
 | k + 1,q,r,h=>by
  simp only [permsX,List.mem_flatMap,List.mem_range] at h
  obtain ⟨i,hi,hr⟩:=h
  by_cases hm : i ∈ q
  ·rw [if_pos hm] at hr; simp at hr
  ·rw [if_neg hm] at hr
   obtain ⟨t,ht⟩:=permsX_pre k _ r hr
   exact ⟨i :: t,by rw [ht]; simp⟩
theorem permsX_nodup {f : Nat} : ∀ (k : Nat) (q : List Nat),(permsX f k q).Nodup
 | 0,q=>by simp [permsX]
 | k + 1,q=>by
  rw [permsX]
  unfold List.Nodup
  rw [List.pairwise_flatMap]
  refine ⟨fun i _=>?_,(List.nodup_range (n:=f)).imp fun {i j} hne x hx y hy e=>?_⟩
  ·split
   ·exact List.Pairwise.nil
   ·exact permsX_nodup k _
  ·by_cases hi : i ∈ q
   ·rw [if_pos hi] at hx; simp at hx
   ·by_cases hj : j ∈ q
    ·rw [if_pos hj] at hy; simp at hy
    ·rw [if_neg hi] at hx
     rw [if_neg hj] at hy
     obtain ⟨t,rfl⟩:=permsX_pre k _ _ hx
     obtain ⟨u,rfl⟩:=permsX_pre k _ _ hy
     rw [List.append_assoc,List.append_assoc] at e
     have:=List.append_cancel_left e
     simp only [List.singleton_append,List.cons.injEq] at this
     exact hne this.1
theorem order_inj {c : Cg} {q r : List Nat} (hq : Good c.tk.f q) (hr : Good c.tk.f r) (h : c.order q=c.order r) : q=r:=by
 have h1 : q.map c.tk.at'=r.map c.tk.at':=List.append_cancel_left h
 have hl : q.length=r.length:=by have:=congrArg List.length h1; simpa using this
 refine List.ext_getElem hl fun i h2 h3=>?_
 have h4 : (q.map c.tk.at')[i]?=(r.map c.tk.at')[i]?:=by rw [h1]
 rw [List.getElem?_map,List.getElem?_map,List.getElem?_eq_getElem h2,List.getElem?_eq_getElem h3,Option.map_some,Option.map_some] at h4
 exact at_inj (hq.lt _ (List.getElem_mem h2)) (hr.lt _ (List.getElem_mem h3)) (Option.some.inj h4)
theorem bests_nodup {c : Cg} (ok : CgOk c) : c.bests.Nodup:=by
 unfold Cg.bests Goal.bests
 refine List.pairwise_map.2 (List.Pairwise.imp_of_mem (fun {q r} hq hr hne e=>hne ?_) ((permsX_nodup c.tk.f []).filter _))
 have h1:=(mem_permsX _ _ _ (good_nil _)).1 (List.mem_filter.1 hq).1
 have h2:=(mem_permsX _ _ _ (good_nil _)).1 (List.mem_filter.1 hr).1
 exact order_inj h1.1 h2.1 e
theorem settled_sub {c : Cg} (ok : CgOk c) {o : List Int} (ho : o ∈ c.bests) : ∀ p ∈ c.settled,p ∈ prsO o:=fun p hp=>(mem_settled ok).1 hp o ho
theorem settled_one {c : Cg} (ok : CgOk c) : c.settled.length * 2=c.n * (c.n - 1) ↔ c.bests.length=1:=by
 obtain ⟨o,ho⟩:=List.exists_mem_of_ne_nil _ (bests_ne c)
 obtain ⟨h1,h2,h3⟩:=bests_nd ok ho
 have hl:=prsO_len o
 rw [h2] at hl
 constructor
 ·intro he
  have hlen : c.settled.length=(prsO o).length:=by omega
  have hperm : ∀ p ∈ prsO o,p ∈ c.settled:=nd_all (plt_nodup (settled_asc c)) (fun p hp=>settled_sub ok ho p hp) (by omega)
  have hall : ∀ o' ∈ c.bests,o'=o:=by
   intro o' ho'
   obtain ⟨g1,g2,g3⟩:=bests_nd ok ho'
   refine (prsO_inj h1 g1 (fun x=>by rw [h3,g3]) fun p hp=>settled_sub ok ho' p (hperm p hp)).symm
  have hnd:=bests_nodup ok
  match hb : c.bests with
  | []=>exact absurd hb (bests_ne c)
  | [a]=>rfl
  | a :: b :: r=>
   rw [hb] at hnd hall
   have e1:=hall a (by simp)
   have e2:=hall b (by simp)
   rw [List.nodup_cons] at hnd
   exact absurd (by rw [e1,e2]; simp) hnd.1
 ·intro he
  have hb : c.bests=[o]:=by
   match hb : c.bests,he with
   | [a],_=>
    rw [hb] at ho
    rw [List.mem_singleton.1 ho]
  have hperm : c.settled.Perm (prsO o):=(List.perm_ext_iff_of_nodup (plt_nodup (settled_asc c)) (prsO_nodup h1)).2 fun p=>by
   rw [mem_settled ok,hb]; simp
  rw [hperm.length_eq,hl]
end Go.Gx.A
