/-
  Orders checked, slices compared.
-/
import Derived.Test.YtnhaainnhmmbfaaGreatPp
import Derived.Test.YtnhaainnhmmbfaaGreatPo
import Derived.Test.YtnhaainnhmmbfaaGreatPb
import Derived.Test.YtnhaainnhmmbfaaGreatPn
set_option linter.all false
set_option linter.deprecated false
namespace Go.Gx.Z
open Go.Gx Go.Proofs
set_option maxRecDepth 100000
set_option maxHeartbeats 1000000
def okG (n : Nat) : List Int→List Int→Bool
 | _,[]=>true
 | seen,x :: r=>if x < 0∨(n : Int)≤x∨x∈seen then false else okG n (seen ++ [x]) r
def ordOk (n : Nat) (order : List Int) : Bool:=decide (order.length=n) && okG n [] order
theorem okG_iff (n : Nat) : ∀ (l seen : List Int),seen.Nodup→(∀ x∈seen,0≤x∧x < n)→(okG n seen l=true↔(seen ++ l).Nodup∧∀ x∈seen ++ l,0≤x∧x < n)
 | [],seen,h1,h2=>by simp only [okG,List.append_nil]; exact ⟨fun _=>⟨h1,h2⟩,fun _=>trivial⟩
 | x :: l,seen,h1,h2=>by
  unfold okG
  by_cases h : x < 0∨(n : Int)≤x∨x∈seen
  ·rw [if_pos h]
   simp only [Bool.false_eq_true,false_iff,not_and]
   intro hn hb
   have hx:=hb x (by simp)
   rcases h with h | h | h
   ·omega
   ·omega
   ·rw [List.nodup_append] at hn
    exact hn.2.2 x h x (by simp) rfl
  ·rw [if_neg h]
   have hs : x∉seen:=fun g=>h (.inr (.inr g))
   rw [okG_iff n l (seen ++ [x]) (by
    rw [List.nodup_append]
    refine ⟨h1,by simp,fun a ha b hb=>?_⟩
    simp at hb; subst hb; rintro rfl; exact hs ha) (fun y hy=>by
    rcases List.mem_append.1 hy with g | g
    ·exact h2 y g
    ·simp at g; subst g; omega)]
   simp
theorem ordOk_iff {n : Nat} {l : List Int} : ordOk n l=true↔l.length=n∧l.Nodup∧∀ x∈l,0≤x∧x < n:=by
 unfold ordOk
 rw [Bool.and_eq_true,decide_eq_true_eq,okG_iff n l [] (by simp) (by simp)]
 simp
def bRow (n : Nat) (seen : List Int) : List Value:=(List.range n).map fun (k : Nat)=>Value.bool (decide ((k : Int)∈seen))
theorem bRow_len (n : Nat) (seen : List Int) : (bRow n seen).length=n:=by simp [bRow]
theorem bRow_get {n : Nat} {seen : List Int} {x : Int} (h0 : 0≤x) (h1 : x < n) : (bRow n seen)[x.toNat]?=some (.bool (decide (x∈seen))):=by
 have h : x.toNat < n:=by omega
 have e : ((x.toNat : Nat) : Int)=x:=Int.toNat_of_nonneg h0
 simp [bRow,h,e]
theorem bRow_set {n : Nat} {seen : List Int} {x : Int} (h0 : 0≤x) (h1 : x < n) : rowStore (bRow n seen) x.toNat [.bool true]=some (bRow n (seen ++ [x])):=by
 have h : x.toNat < n:=by omega
 unfold rowStore
 rw [if_pos ⟨by rw [bRow_len]; simp; omega,rfl⟩]
 congr 1
 refine List.ext_getElem? fun j=>?_
 have hl : (splice (bRow n seen) x.toNat [Value.bool true]).length=n:=by simp [splice,bRow_len]; omega
 by_cases hj : j < n
 ·have h2 : (bRow n (seen ++ [x]))[j]?=some (.bool (decide ((j : Int)∈seen ++ [x]))):=by simp [bRow,hj]
  rw [h2]
  unfold splice
  by_cases hx : j=x.toNat
  ·subst hx
   rw [List.append_assoc,List.getElem?_append_right (by simp [bRow_len]; omega)]
   have : min x.toNat n=x.toNat:=by omega
   have hm : max x 0=x:=by omega
   simp [bRow_len,this,h0,hm]
  ·have hne : (j : Int)≠x:=by omega
   by_cases hlt : j < x.toNat
   ·rw [List.append_assoc,List.getElem?_append_left (by simp [bRow_len]; omega),List.getElem?_take,if_pos hlt]
    simp [bRow,hj,hne]
   ·rw [List.getElem?_append_right (by simp [bRow_len]; omega),List.getElem?_drop]
    have : x.toNat + [Value.bool true].length + (j - (List.take x.toNat (bRow n seen) ++ [Value.bool true]).length)=j:=by simp [bRow_len]; omega
    rw [this]
    simp [bRow,hj,hne]
 ·rw [List.getElem?_eq_none (by rw [hl]; omega),List.getElem?_eq_none (by rw [bRow_len]; omega)]
theorem rep_bRow (n : Nat) : repCells [.bool false] n=bRow n []:=by
 rw [rep_flat]
 unfold bRow
 refine List.ext_getElem? fun j=>?_
 have : (List.replicate n [Value.bool false]).flatten=List.replicate n (Value.bool false):=by simp
 rw [this,List.getElem?_replicate,List.getElem?_map]
 by_cases hj : j < n <;> simp [hj]
theorem checkOrder_ok {S : AS} {v : Value} {order : List Int} (h : Is S v order) {n : Nat} (hn : n≤1000) {Q : En→AS→Prop} (hq : ∀ S',Same S S' []→Q (.ret (.int .i64 (if ordOk n order=true then 0 else 1))) S') : Call G 44 [.int .i64 n,v] S Q:=by
 obtain ⟨a,cap,rfl⟩:=h.shape
 refine call_run' (G:=G) rfl (ext_none (by decide)) ?_
 simp
 by_cases hl : (order.length : Int)=n
 ·obtain rfl : n=order.length:=by omega
  have b1 : (order.length : Int)≤281474976710656:=by omega
  have b2 : (order.length : Int)≤9223372036854775807:=by omega
  simp [b1,b2,rep_bRow]
  generalize hS1 : (S.bump 1).put S.next (AObj.row (bRow order.length []) 4 true true)=S1
  have s1 : Same S S1 []:=by
   rw [← hS1]
   repeat' first | exact Same.refl _ _ | apply Same.bu | (refine Same.pn ?_ (by first | omega | (simp; omega)))
  have g1 : S1.get S.next=some (.row (bRow order.length []) 4 true true):=by rw [← hS1]; simp
  have hsm:=h.small
  refine run_loop (fun m a' S'=>∃ j,m=order.length - j∧j≤order.length∧Same S S' []∧S'.get S.next=some (.row (bRow order.length (order.take j)) 4 true true)∧Has a' 37 [(0,.int .i64 order.length),(5,vs S.next 0 order.length order.length),(14,.slice a order.length cap),(15,.int .i64 order.length),(16,.int .i64 j)]∧okG order.length [] order=okG order.length (order.take j) (order.drop j)) _ ⟨0,rfl,by omega,s1,by simpa using g1,⟨rfl,rfl,by simp [vi]⟩,by simp⟩ ?_
  rintro _ R hR _ S2 ⟨j,rfl,hj,hs2,g2,hA,hok⟩
  obtain ⟨z,rfl⟩:=hA.lit
  by_cases hlt : j < order.length
  ·obtain ⟨p,o,cells,e,wr,ex,h1,h2,h3,h4,h5⟩:=(h.stay0 hs2).at hlt
   rw [List.drop_eq_getElem_cons hlt,okG] at hok
   have hwS:=wrapS (show j < 9223372036854775807 by omega)
   have bad : okG order.length [] order=false→∀ S',Same S S' []→Q (.ret (.int .i64 1)) S':=fun hb S' hs=>by
    have:=hq S' hs
    unfold ordOk at this
    rw [hb] at this
    simpa using this
   simp [fillF,pickL,hlt,h1,h2,h5]
   by_cases c1 : order[j] < 0
   ·simp [c1,undef]
    exact bad (by rw [hok,if_pos (.inl c1)]) _ hs2
   ·by_cases c2 : (order.length : Int)≤order[j]
    ·simp [c1,c2,undef]
     exact bad (by rw [hok,if_pos (.inr (.inl c2))]) _ hs2
    ·have d1 : 0≤order[j]:=by omega
     have d2 : order[j] < (order.length : Int):=by omega
     have e1:=bRow_get (n:=order.length) (seen:=order.take j) d1 d2
     have e2:=bRow_set (n:=order.length) (seen:=order.take j) d1 d2
     simp [c1,c2,d1,d2,g2,e1,undef]
     by_cases c3 : order[j]∈order.take j
     ·simp [c3]
      exact bad (by rw [hok,if_pos (.inr (.inr c3))]) _ hs2
     ·simp [c3,d1,d2,g2,e1,e2,hwS]
      have htk : order.take (j + 1)=order.take j ++ [order[j]]:=List.take_succ_eq_append_getElem hlt
      refine hR _ _ _ (by omega) ⟨j + 1,rfl,by omega,hs2.pn (by omega),by rw [AS.get_put_self,htk],⟨rfl,rfl,by simp⟩,?_⟩
      rw [hok,if_neg (by simp only [not_or]; exact ⟨c1,c2,c3⟩),htk]
  ·obtain rfl : j=order.length:=by omega
   rw [List.drop_length,okG] at hok
   simp [fillF,pickL]
   have:=hq S2 hs2
   unfold ordOk at this
   rw [hok] at this
   simpa using this
 ·have hl' : ¬ order.length=n:=by omega
  simp [hl,hl']
  have:=hq S (.refl _ _)
  unfold ordOk at this
  simpa [hl'] using this

theorem wt_step {l : List Arw} {x y : Int} {i : Nat} (h : i < l.length) : wt (l.drop i) x y=if l[i].f=x∧l[i].t=y then l[i].w else wt (l.drop (i + 1)) x y:=by
 rw [List.drop_eq_getElem_cons h]
 unfold wt
 rw [List.find?_cons]
 by_cases hc : l[i].f=x∧l[i].t=y <;> simp [hc]
theorem weight_ok {S : AS} {v : Value} {N : Int} {l : List Arw} (h : As S v l) {x y : Int} {Q : En→AS→Prop} (hq : ∀ S',Same S S' []→Q (.ret (.int .i64 (wt l x y))) S') : Call G 106 [.agg #[.int .i64 N,v],.int .i64 x,.int .i64 y] S Q:=by
 obtain ⟨a,cap,rfl⟩:=h.shape
 refine call_run' (G:=G) rfl (ext_none (by decide)) ?_
 simp
 have hsm:=h.small
 have s1 : Same S ((S.bump 1).put S.next (AObj.row [Value.int IntKind.i64 N,.slice a l.length cap] 24 true true)) []:=by
  repeat' first | exact Same.refl _ _ | apply Same.bu | (refine Same.pn ?_ (by first | omega | (simp; omega)))
 refine run_loop (fun j a' S'=>∃ i,j=l.length - i∧i≤l.length∧Same S S' []∧S'.get S.next=some (.row [.int .i64 N,.slice a l.length cap] 24 true true)∧Has a' 39 [(1,.int .i64 x),(2,.int .i64 y),(3,ptr S.next),(7,.int .i64 i)]∧wt l x y=wt (l.drop i) x y) _ ⟨0,rfl,by omega,s1,by simp,⟨rfl,rfl,by simp⟩,by simp⟩ ?_
 rintro _ R hR _ S1 ⟨i,rfl,hi,hs1,hg1,ha,hok⟩
 obtain ⟨z,rfl⟩:=ha.lit
 by_cases hlt : i < l.length
 ·obtain ⟨p,o,cells,e,wr,ex,h1,h2,h3,h4,h5,h6,h7,h8,h9⟩:=(h.stay0 hs1).at hlt
  have hlt' : (i : Int) < l.length:=by omega
  have hwS:=wrapS (show i < 9223372036854775807 by omega)
  rw [wt_step hlt] at hok
  by_cases c1 : l[i].f=x
  ·by_cases c2 : l[i].t=y
   ·simp [fillF,pickL,hlt,hlt',hg1,h1,h2,h6,h7,h9,c1,c2,undef]
    rw [if_pos ⟨c1,c2⟩] at hok
    rw [hok] at hq
    exact hq _ hs1
   ·simp [fillF,pickL,hlt,hlt',hg1,h1,h2,h6,h7,h9,c1,c2,undef,hwS]
    rw [if_neg (fun h=>c2 h.2)] at hok
    exact hR _ _ _ (by omega) ⟨i + 1,rfl,by omega,hs1,hg1,⟨rfl,rfl,by simp⟩,hok⟩
  ·simp [fillF,pickL,hlt,hlt',hg1,h1,h2,h6,h7,h9,c1,undef,hwS]
   rw [if_neg (fun h=>c1 h.1)] at hok
   exact hR _ _ _ (by omega) ⟨i + 1,rfl,by omega,hs1,hg1,⟨rfl,rfl,by simp⟩,hok⟩
 ·have hlt' : ¬ (i : Int) < l.length:=by omega
  obtain rfl : i=l.length:=by omega
  simp [fillF,pickL,hg1]
  rw [List.drop_length] at hok
  have : wt l x y=0:=hok
  rw [this] at hq
  exact hq _ hs1
theorem rbehind_ok {S : AS} {v w : Value} {N : Int} {l : List Arw} {ah : List Int} (h : As S v l) (k : Is S w ah) (hw : ∀ x y,0≤wt l x y∧wt l x y≤1000) (hl : ah.length≤1000) {x : Int} {Q : En→AS→Prop}
  (hq : ∀ S',Same S S' []→Q (.ret (.int .i64 (isum (ah.map (wt l x))))) S') : Call G 100 [.agg #[.int .i64 N,v],.int .i64 x,w] S Q:=by
 obtain ⟨b,bcap,rfl⟩:=k.shape
 refine call_run' (G:=G) rfl (ext_none (by decide)) ?_
 simp
 have s1 : Same S ((S.bump 1).put S.next (AObj.row [Value.int IntKind.i64 N,v] 24 true true)) []:=by
  repeat' first | exact Same.refl _ _ | apply Same.bu | (refine Same.pn ?_ (by first | omega | (simp; omega)))
 refine run_loop (fun j a' S'=>∃ i,j=ah.length - i∧i≤ah.length∧Same S S' []∧S'.get S.next=some (.row [.int .i64 N,v] 24 true true)∧S.next < S'.next∧Has a' 25 [(1,.int .i64 x),(2,.slice b ah.length bcap),(3,ptr S.next),(7,.int .i64 (isum ((ah.map (wt l x)).take i))),(8,.int .i64 i)]) _ ⟨0,rfl,by omega,s1,by simp,by simp,⟨rfl,rfl,by simp [isum]⟩⟩ ?_
 rintro _ R hR _ S1 ⟨i,rfl,hi,hs1,hg1,hn1,ha⟩
 obtain ⟨z,rfl⟩:=ha.lit
 by_cases hlt : i < ah.length
 ·obtain ⟨p,o,cells,e,wr,ex,h1,h2,h3,h4,h5⟩:=(k.stay0 hs1).at hlt
  have hlt' : (i : Int) < ah.length:=by omega
  have hwS:=wrapS (show i < 9223372036854775807 by omega)
  have hwi:=hw x ah[i]
  have hb:=isum_bd (l:=(ah.map (wt l x)).take i) fun y hy=>by
   obtain ⟨z,_,rfl⟩:=List.mem_map.1 (List.mem_of_mem_take hy)
   exact hw x z
  have hbl : ((ah.map (wt l x)).take i).length≤1000:=by simp; omega
  have hs : IntKind.i64.wrap (isum ((ah.map (wt l x)).take i) + wt l x ah[i])=isum ((ah.map (wt l x)).take (i + 1)):=by
   rw [wrap64 (by omega) (by omega),isum_take _ (by simpa using hlt)]; simp
  simp [fillF,pickL,hlt,hlt',hg1,h1,h2,h5]
  refine weight_ok (h.stay0 hs1) fun S2 hs2=>?_
  have hg2 : S2.get S.next=_:=(hs2.2 _ (by omega) (by simp)).trans hg1
  have h22 : S2.get p=_:=(hs2.2 p h3 (by simp)).trans h2
  simp [hg2,h1,h22,h5,hs,hwS]
  exact hR _ _ _ (by omega) ⟨i + 1,rfl,by omega,hs1.tr0 hs2,hg2,by have:=hs2.1; omega,⟨rfl,rfl,by simp⟩⟩
 ·have hlt' : ¬ (i : Int) < ah.length:=by omega
  obtain rfl : i=ah.length:=by omega
  simp [fillF,pickL]
  rw [List.take_of_length_le (by simp)]
  exact hq _ hs1
theorem offR_snoc (w : Int→Int→Int) (l : List Int) (x : Int) : offR w [] (l ++ [x])=offR w [] l + isum (l.map (w x)):=by
 rw [offR_append]
 simp [offR]
theorem roffence_ok {S : AS} {v w : Value} {N : Int} {l : List Arw} {order : List Int} (h : As S v l) (k : Is S w order) (hw : ∀ x y,0≤wt l x y∧wt l x y≤1000) (hl : order.length≤24) {Q : En→AS→Prop}
  (hq : ∀ S',Same S S' []→Q (.ret (.int .i64 (offR (wt l) [] order))) S') : Call G 92 [.agg #[.int .i64 N,v],w] S Q:=by
 obtain ⟨b,bcap,rfl⟩:=k.shape
 refine call_run' (G:=G) rfl (ext_none (by decide)) ?_
 simp
 have s1 : Same S ((S.bump 1).put S.next (AObj.row [Value.int IntKind.i64 N,v] 24 true true)) []:=by
  repeat' first | exact Same.refl _ _ | apply Same.bu | (refine Same.pn ?_ (by first | omega | (simp; omega)))
 refine run_loop (fun j a' S'=>∃ i,j=order.length - i∧i≤order.length∧Same S S' []∧S'.get S.next=some (.row [.int .i64 N,v] 24 true true)∧S.next < S'.next∧Has a' 25 [(1,.slice b order.length bcap),(2,ptr S.next),(5,.int .i64 (offR (wt l) [] (order.take i))),(6,.int .i64 i)]) _ ⟨0,rfl,by omega,s1,by simp,by simp,⟨rfl,rfl,by simp [offR]⟩⟩ ?_
 rintro _ R hR _ S1 ⟨i,rfl,hi,hs1,hg1,hn1,ha⟩
 obtain ⟨z,rfl⟩:=ha.lit
 by_cases hlt : i < order.length
 ·obtain ⟨p,o,cells,e,wr,ex,h1,h2,h3,h4,h5⟩:=(k.stay0 hs1).at hlt
  obtain ⟨v',f1,f2,f3⟩:=(k.stay0 hs1).slc (lo:=none) (hi:=some (.int .i64 i)) (i:=0) (j:=i) (.inl ⟨rfl,rfl⟩) (.inr rfl) (by omega) (by omega)
  rw [List.drop_zero] at f2
  have hlt' : (i : Int) < order.length:=by omega
  have hwS:=wrapS (show i < 9223372036854775807 by omega)
  have hb:=offR_bd hw (order.take i) [] (by simp; omega)
  have hb2:=offR_bd hw (order.take (i + 1)) [] (by simp; omega)
  have e1 : order.take (i + 1)=order.take i ++ [order[i]]:=List.take_succ_eq_append_getElem hlt
  have e2:=offR_snoc (wt l) (order.take i) order[i]
  have hlt1 : (order.take (i + 1)).length≤24:=by simp; omega
  have hs : IntKind.i64.wrap (offR (wt l) [] (order.take i) + isum ((order.map (wt l order[i])).take i))=offR (wt l) [] (order.take (i + 1)):=by
   rw [← List.map_take,← e2,← e1,wrap64 (by omega) (by omega)]
  simp [fillF,pickL,hlt,hlt',hg1,h1,h2,h5,f1]
  refine rbehind_ok (h.stay0 hs1) f2 hw (by simp; omega) fun S2 hs2=>?_
  have hg2 : S2.get S.next=_:=(hs2.2 _ (by omega) (by simp)).trans hg1
  have h22 : S2.get p=_:=(hs2.2 p h3 (by simp)).trans h2
  simp [hg2,h1,h22,h5,hs,hwS]
  exact hR _ _ _ (by omega) ⟨i + 1,rfl,by omega,hs1.tr0 hs2,hg2,by have:=hs2.1; omega,⟨rfl,rfl,by simp⟩⟩
 ·have hlt' : ¬ (i : Int) < order.length:=by omega
  obtain rfl : i=order.length:=by omega
  simp [fillF,pickL]
  exact hq _ hs1
theorem all_iff {n : Nat} {l : List Int} : (l.length=n∧∀ i : Nat,i < n→(i : Int)∈l)↔ordOk n l=true:=by
 rw [ordOk_iff]
 constructor
 ·rintro ⟨h1,h2⟩
  have hp : (List.range n).map (fun (i : Nat)=>(i : Int)) |>.Nodup:=List.pairwise_map.2 (List.Pairwise.imp (fun h e=>h (Int.ofNat.inj e)) (List.nodup_range (n:=n)))
  have key : ∀ (m l : List Int),m.Nodup→(∀ x∈m,x∈l)→l.length=m.length→l.Perm m:=by
   intro m
   induction m with
   | nil=>intro l _ _ hl; rw [List.length_eq_zero_iff.1 hl]
   | cons a m ih=>
    intro l hn hs hl
    have ha:=hs a (by simp)
    rw [List.nodup_cons] at hn
    have h3:=List.perm_cons_erase ha
    refine h3.trans (List.Perm.cons a (ih (l.erase a) hn.2 (fun x hx=>?_) ?_))
    ·have hx':=hs x (by simp [hx])
     exact (List.mem_erase_of_ne (a:=x) (b:=a) (fun e=>hn.1 (by rw [← e]; exact hx))).2 hx'
    ·rw [List.length_erase_of_mem ha,hl]; simp
  have hperm:=key ((List.range n).map fun (i : Nat)=>(i : Int)) l hp (fun x hx=>by
   obtain ⟨i,hi,rfl⟩:=List.mem_map.1 hx
   exact h2 i (by simpa using hi)) (by simp [h1])
  refine ⟨h1,hperm.symm.nodup hp,fun x hx=>?_⟩
  obtain ⟨i,hi,rfl⟩:=List.mem_map.1 (hperm.mem_iff.1 hx)
  simp at hi
  omega
 ·rintro ⟨h1,h2,h3⟩
  refine ⟨h1,fun i hi=>?_⟩
  have hg : Good n (l.map Int.toNat):=⟨?_,fun j hj=>by
   obtain ⟨x,hx,rfl⟩:=List.mem_map.1 hj
   have:=h3 x hx
   omega⟩
  ·have:=full_mem hg (by simp [h1]) hi
   obtain ⟨x,hx,e⟩:=List.mem_map.1 this
   have:=h3 x hx
   have : x=i:=by omega
   exact this ▸ hx
  ·refine List.pairwise_map.2 ?_
   have h2' : l.Pairwise (fun a b=>a≠b):=h2
   refine List.Pairwise.imp_of_mem (fun {a b} ha hb hab=>?_) h2'
   have:=h3 a ha
   have:=h3 b hb
   omega
theorem all86_ok {S : AS} {v : Value} {l : List Int} (h : Is S v l) {n : Nat} (hn : n≤1000) {Q : En→AS→Prop} (hq : Q (.ret (.bool (ordOk n l))) S) : Call G 60 [v,.int .i64 n] S Q:=by
 obtain ⟨a,cap,rfl⟩:=h.shape
 refine call_run' (G:=G) rfl (ext_none (by decide)) ?_
 simp
 by_cases hl : l.length=n
 ·have hl1 : (l.length=n)=True:=eq_true hl
  have hl2 : ((l.length : Int)=n)=True:=eq_true (by omega)
  simp [hl1,hl2]
  refine run_loop (fun j a' S'=>∃ i,j=n - i∧i≤n∧S'=S∧Has a' 21 [(0,.slice a l.length cap),(1,.int .i64 n),(5,.int .i64 i)]∧∀ k : Nat,k < i→(k : Int)∈l) _ ⟨0,rfl,by omega,rfl,⟨rfl,rfl,by simp⟩,fun k hk=>by omega⟩ ?_
  rintro _ R hR _ S ⟨i,rfl,hi,rfl,ha,hok⟩
  obtain ⟨z,rfl⟩:=ha.lit
  by_cases hlt : i < n
  ·have hlt' : (i : Int) < n:=by omega
   have hwS:=wrapS (show i < 9223372036854775807 by omega)
   simp [fillF,pickL,hlt,hlt']
   refine has_ok h ?_
   by_cases c1 : (i : Int)∈l
   ·simp [c1,hwS]
    refine hR _ _ _ (by omega) ⟨i + 1,rfl,by omega,rfl,⟨rfl,rfl,by simp⟩,fun k hk=>?_⟩
    rcases Nat.lt_succ_iff_lt_or_eq.1 hk with h | rfl
    ·exact hok k h
    ·exact c1
   ·simp [c1]
    have : ordOk n l=false:=by
     cases hh : ordOk n l with
     | false=>rfl
     | true=>exact absurd ((all_iff.2 hh).2 i hlt) c1
    rw [this] at hq
    exact hq
  ·have hlt' : ¬ (i : Int) < n:=by omega
   obtain rfl : i=n:=by omega
   simp [fillF,pickL]
   rw [all_iff.1 ⟨hl,hok⟩] at hq
   exact hq
 ·have hl' : ¬ (l.length : Int)=n:=by omega
  simp [hl,hl']
  have : ordOk n l=false:=by
   cases hh : ordOk n l with
   | false=>rfl
   | true=>exact absurd (all_iff.2 hh).1 hl
  rw [this] at hq
  exact hq


def Chg.cg (c : Chg) : Cg:=⟨c.n.toNat,wt c.arrows,c.old,c.passed.toNat⟩
theorem checkOld_spec {N : Int} : ∀ (l seen : List Int),checkOld N seen l=0→(∀ x∈l,0≤x∧x < N∧x∉seen)∧l.Nodup
 | [],seen,_=>⟨by simp,by simp⟩
 | x :: l,seen,h=>by
  rw [checkOld_cons] at h
  split at h
  ·cases h
  ·split at h
   ·cases h
   ·rename_i h1 h2
    obtain ⟨g1,g2⟩:=checkOld_spec l (x :: seen) h
    refine ⟨fun y hy=>?_,?_⟩
    ·rcases List.mem_cons.1 hy with rfl | hy
     ·exact ⟨by omega,by omega,h2⟩
     ·have:=g1 y hy
      simp only [List.mem_cons,not_or] at this
      exact ⟨this.1,this.2.1,this.2.2.2⟩
    ·rw [List.nodup_cons]
     exact ⟨fun hm=>(g1 x hm).2.2 (by simp),g2⟩
structure ChgOk (c : Chg) : Prop where
 n0 : 0≤c.n
 n1 : c.n≤24
 ar : arrsOk c.n none c.arrows=true
 nd : c.old.Nodup
 lt : ∀ x∈c.old,0≤x∧x < c.n
 p0 : 0≤c.passed
 p1 : c.passed≤c.old.length
 am : c.n - c.passed≤8
theorem check_ok {c : Chg} (h : c.check=0) : ChgOk c:=by
 unfold Chg.check at h
 by_cases h1 : checkR c.n c.arrows=0
 ·rw [if_neg (by simp [h1])] at h
  by_cases h2 : checkOld c.n [] c.old=0
  ·rw [if_neg (by simp [h2])] at h
   split at h
   ·cases h
   ·split at h
    ·cases h
    ·obtain ⟨g1,g2,g3⟩:=checkR_pos h1
     obtain ⟨k1,k2⟩:=checkOld_spec _ _ h2
     exact ⟨g1,g2,g3,k2,fun x hx=>⟨(k1 x hx).1,(k1 x hx).2.1⟩,by omega,by omega,by omega⟩
  ·rw [if_pos h2] at h; exact absurd h h2
 ·rw [if_pos h1] at h; exact absurd h h1
theorem nodup_len {l : List Int} {n : Nat} (hn : l.Nodup) (h : ∀ x∈l,0≤x∧x < n) : l.length≤n:=by
 have hnd : ((List.range n).map fun (x : Nat)=>(x : Int)).Nodup:=List.pairwise_map.2 (List.Pairwise.imp (fun h e=>h (Int.ofNat.inj e)) (List.nodup_range (n:=n)))
 have h1 : (((List.range n).map fun (x : Nat)=>(x : Int)).filter fun x=>decide (x∈l)).Perm l:=by
  refine (List.perm_ext_iff_of_nodup (hnd.sublist List.filter_sublist) hn).2 fun x=>?_
  rw [List.mem_filter,decide_eq_true_eq,List.mem_map]
  constructor
  ·exact fun g=>g.2
  ·intro g
   have:=h x g
   exact ⟨⟨x.toNat,by simp; omega,by omega⟩,g⟩
 have h2:=h1.length_eq
 have h3:=List.length_filter_le (fun x=>decide (x∈l)) ((List.range n).map fun (x : Nat)=>(x : Int))
 simp only [List.length_map,List.length_range] at h3
 omega
theorem ChgOk.cgOk {c : Chg} (h : ChgOk c) : CgOk c.cg:=⟨h.nd,fun x hx=>by have:=h.lt x hx; have:=h.n0; unfold Chg.cg; simp only; omega,by have:=h.p0; have:=h.p1; unfold Chg.cg; simp only; omega⟩
theorem ChgOk.olen {c : Chg} (h : ChgOk c) : c.old.length≤c.n.toNat:=nodup_len h.nd fun x hx=>by have:=h.lt x hx; have:=h.n0; omega
theorem ChgOk.cgSm {c : Chg} (h : ChgOk c) : CgSm c.cg:=by
 have h1:=h.n0
 have h2:=h.n1
 have h3:=h.olen
 have hf : c.cg.free.length≤24:=by
  have : c.cg.free.length≤((List.range c.cg.n).map fun (x : Nat)=>(x : Int)).length:=List.length_filter_le _ _
  simp only [List.length_map,List.length_range] at this
  have e : c.cg.n=c.n.toNat:=rfl
  omega
 exact ⟨by show c.n.toNat≤24; omega,fun x y=>wt_bd (arrsOk_none h.ar).1 x y,hf,by show c.old.length≤24; omega,fun x hx=>by
  have:=h.lt x (List.mem_of_mem_take hx)
  have e : c.cg.n=c.n.toNat:=rfl
  omega,h.cgOk.ps⟩

end Go.Gx.Z
