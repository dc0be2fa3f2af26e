/-
  Orders checked, slices compared.
-/
import Derived.Test.YtnhaainnhmmbfaaGreatPp
import Derived.Test.YtnhaainnhmmbfaaGreatPo
import Derived.Test.YtnhaainnhmmbfaaGreatPb
import Derived.Test.YtnhaainnhmmbfaaGreatPn
set_option linter.all false
set_option linter.deprecated false
namespace Go.Gx.Z
open Go.Gx Go.Proofs
set_option maxRecDepth 100000
set_option maxHeartbeats 1000000
def okG (n : Nat) : List Int→List Int→Bool
 | _,[]=>true
 | seen,x :: r=>if x < 0∨(n : Int)≤x∨x∈seen then false else okG n (seen ++ [x]) r
def ordOk (n : Nat) (order : List Int) : Bool:=decide (order.length=n) && okG n [] order
theorem okG_iff (n : Nat) : ∀ (l seen : List Int),seen.Nodup→(∀ x∈seen,0≤x∧x < n)→(okG n seen l=true↔(seen ++ l).Nodup∧∀ x∈seen ++ l,0≤x∧x < n)
 | [],seen,h1,h2=>by simp only [okG,List.append_nil]; exact ⟨fun _=>⟨h1,h2⟩,fun _=>trivial⟩
 | x :: l,seen,h1,h2=>by
  unfold okG
  by_cases h : x < 0∨(n : Int)≤x∨x∈seen
  ·rw [if_pos h]
   simp only [Bool.false_eq_true,false_iff,not_and]
   intro hn hb
   have hx:=hb x (by simp)
   rcases h with h | h | h
   ·omega
   ·omega
   ·rw [List.nodup_append] at hn
    exact hn.2.2 x h x (by simp) rfl
  ·rw [if_neg h]
   have hs : x∉seen:=fun g=>h (.inr (.inr g))
   rw [okG_iff n l (seen ++ [x]) (by
    rw [List.nodup_append]
    refine ⟨h1,by simp,fun a ha b hb=>?_⟩
    simp at hb; subst hb; rintro rfl; exact hs ha) (fun y hy=>by
    rcases List.mem_append.1 hy with g | g
    ·exact h2 y g
    ·simp at g; subst g; omega)]
   simp
theorem ordOk_iff {n : Nat} {l : List Int} : ordOk n l=true↔l.length=n∧l.Nodup∧∀ x∈l,0≤x∧x < n:=by
 unfold ordOk
 rw [Bool.and_eq_true,decide_eq_true_eq,okG_iff n l [] (by simp) (by simp)]
 simp
def bRow (n : Nat) (seen : List Int) : List Value:=(List.range n).map fun (k : Nat)=>Value.bool (decide ((k : Int)∈seen))
theorem bRow_len (n : Nat) (seen : List Int) : (bRow n seen).length=n:=by simp [bRow]
theorem bRow_get {n : Nat} {seen : List Int} {x : Int} (h0 : 0≤x) (h1 : x < n) : (bRow n seen)[x.toNat]?=some (.bool (decide (x∈seen))):=by
 have h : x.toNat < n:=by omega
 have e : ((x.toNat : Nat) : Int)=x:=Int.toNat_of_nonneg h0
 simp [bRow,h,e]
theorem bRow_set {n : Nat} {seen : List Int} {x : Int} (h0 : 0≤x) (h1 : x < n) : rowStore (bRow n seen) x.toNat [.bool true]=some (bRow n (seen ++ [x])):=by
 have h : x.toNat < n:=by omega
 unfold rowStore
 rw [if_pos ⟨by rw [bRow_len]; simp; omega,rfl⟩]
 congr 1
 refine List.ext_getElem? fun j=>?_
 have hl : (splice (bRow n seen) x.toNat [Value.bool true]).length=n:=by simp [splice,bRow_len]; omega
 by_cases hj : j < n
 ·have h2 : (bRow n (seen ++ [x]))[j]?=some (.bool (decide ((j : Int)∈seen ++ [x]))):=by simp [bRow,hj]
  rw [h2]
  unfold splice
  by_cases hx : j=x.toNat
  ·subst hx
   rw [List.append_assoc,List.getElem?_append_right (by simp [bRow_len]; omega)]
   have : min x.toNat n=x.toNat:=by omega
   have hm : max x 0=x:=by omega
   simp [bRow_len,this,h0,hm]
  ·have hne : (j : Int)≠x:=by omega
   by_cases hlt : j < x.toNat
   ·rw [List.append_assoc,List.getElem?_append_left (by simp [bRow_len]; omega),List.getElem?_take,if_pos hlt]
    simp [bRow,hj,hne]
   ·rw [List.getElem?_append_right (by simp [bRow_len]; omega),List.getElem?_drop]
    have : x.toNat + [Value.bool true].length + (j - (List.take x.toNat (bRow n seen) ++ [Value.bool true]).length)=j:=by simp [bRow_len]; omega
    rw [this]
    simp [bRow,hj,hne]
 ·rw [List.getElem?_eq_none (by rw [hl]; omega),List.getElem?_eq_none (by rw [bRow_len]; omega)]
theorem rep_bRow (n : Nat) : repCells [.bool false] n=bRow n []:=by
 rw [rep_flat]
 unfold bRow
 refine List.ext_getElem? fun j=>?_
 have : (List.replicate n [Value.bool false]).flatten=List.replicate n (Value.bool false):=by simp
 rw [this,List.getElem?_replicate,List.getElem?_map]
 by_cases hj : j < n <;> simp [hj]
theorem checkOrder_ok {S : AS} {v : Value} {order : List Int} (h : Is S v order) {n : Nat} (hn : n≤1000) {Q : En→AS→Prop} (hq : ∀ S',Same S S' []→Q (.ret (.int .i64 (if ordOk n order=true then 0 else 1))) S') : Call G 44 [.int .i64 n,v] S Q:=by
 obtain ⟨a,cap,rfl⟩:=h.shape
 refine call_run' (G:=G) rfl (ext_none (by decide)) ?_
 simp
 by_cases hl : (order.length : Int)=n
 ·obtain rfl : n=order.length:=by omega
  have b1 : (order.length : Int)≤281474976710656:=by omega
  have b2 : (order.length : Int)≤9223372036854775807:=by omega
  simp [b1,b2,rep_bRow]
  generalize hS1 : (S.bump 1).put S.next (AObj.row (bRow order.length []) 4 true true)=S1
  have s1 : Same S S1 []:=by
   rw [← hS1]
   repeat' first | exact Same.refl _ _ | apply Same.bu | (refine Same.pn ?_ (by first | omega | (simp; omega)))
  have g1 : S1.get S.next=some (.row (bRow order.length []) 4 true true):=by rw [← hS1]; simp
  have hsm:=h.small
  refine run_loop (fun m a' S'=>∃ j,m=order.length - j∧j≤order.length∧Same S S' []∧S'.get S.next=some (.row (bRow order.length (order.take j)) 4 true true)∧Has a' 37 [(0,.int .i64 order.length),(5,vs S.next 0 order.length order.length),(14,.slice a order.length cap),(15,.int .i64 order.length),(16,.int .i64 j)]∧okG order.length [] order=okG order.length (order.take j) (order.drop j)) _ ⟨0,rfl,by omega,s1,by simpa using g1,⟨rfl,rfl,by simp [vi]⟩,by simp⟩ ?_
  rintro _ R hR _ S2 ⟨j,rfl,hj,hs2,g2,hA,hok⟩
  obtain ⟨z,rfl⟩:=hA.lit
  by_cases hlt : j < order.length
  ·obtain ⟨p,o,cells,e,wr,ex,h1,h2,h3,h4,h5⟩:=(h.stay0 hs2).at hlt
   rw [List.drop_eq_getElem_cons hlt,okG] at hok
   have hwS:=wrapS (show j < 9223372036854775807 by omega)
   have bad : okG order.length [] order=false→∀ S',Same S S' []→Q (.ret (.int .i64 1)) S':=fun hb S' hs=>by
    have:=hq S' hs
    unfold ordOk at this
    rw [hb] at this
    simpa using this
   simp [fillF,pickL,hlt,h1,h2,h5]
   by_cases c1 : order[j] < 0
   ·simp [c1,undef]
    exact bad (by rw [hok,if_pos (.inl c1)]) _ hs2
   ·by_cases c2 : (order.length : Int)≤order[j]
    ·simp [c1,c2,undef]
     exact bad (by rw [hok,if_pos (.inr (.inl c2))]) _ hs2
    ·have d1 : 0≤order[j]:=by omega
     have d2 : order[j] < (order.length : Int):=by omega
     have e1:=bRow_get (n:=order.length) (seen:=order.take j) d1 d2
     have e2:=bRow_set (n:=order.length) (seen:=order.take j) d1 d2
     simp [c1,c2,d1,d2,g2,e1,undef]
     by_cases c3 : order[j]∈order.take j
     ·simp [c3]
      exact bad (by rw [hok,if_pos (.inr (.inr c3))]) _ hs2
     ·simp [c3,d1,d2,g2,e1,e2,hwS]
      have htk : order.take (j + 1)=order.take j ++ [order[j]]:=List.take_succ_eq_append_getElem hlt
      refine hR _ _ _ (by omega) ⟨j + 1,rfl,by omega,hs2.pn (by omega),by rw [AS.get_put_self,htk],⟨rfl,rfl,by simp⟩,?_⟩
      rw [hok,if_neg (by simp only [not_or]; exact ⟨c1,c2,c3⟩),htk]
  ·obtain rfl : j=order.length:=by omega
   rw [List.drop_length,okG] at hok
   simp [fillF,pickL]
   have:=hq S2 hs2
   unfold ordOk at this
   rw [hok] at this
   simpa using this
 ·have hl' : ¬ order.length=n:=by omega
  simp [hl,hl']
  have:=hq S (.refl _ _)
  unfold ordOk at this
  simpa [hl'] using this
theorem equal_ok {S : AS} {v w : Value} {l m : List Int} (h : Is S v l) (k : Is S w m) {Q : En→AS→Prop} (hq : Q (.ret (.bool (decide (l=m)))) S) : Call G 32 [v,w] S Q:=by
 obtain ⟨a,cap,rfl⟩:=h.shape
 obtain ⟨b,cap',rfl⟩:=k.shape
 refine call_run' (G:=G) rfl (ext_none (by decide)) ?_
 simp
 by_cases hlen : l.length=m.length
 ·have hlen' : (l.length : Int)=m.length:=by omega
  simp [hlen]
  have hsm:=h.small
  refine run_loop (fun j a' S'=>∃ i,j=l.length - i∧i≤l.length∧S'=S∧Has a' 26 [(0,.slice a l.length cap),(1,.slice b m.length cap'),(12,.int .i64 l.length),(13,.int .i64 i)]∧(l=m↔l.drop i=m.drop i)) _ ⟨0,rfl,by omega,rfl,⟨rfl,rfl,by simp [hlen,vi]⟩,by simp⟩ ?_
  rintro _ R hR _ S ⟨i,rfl,hi,rfl,hA,hiff⟩
  obtain ⟨x,rfl⟩:=hA.lit
  by_cases hlt : i < l.length
  ·have hltm : i < m.length:=by omega
   obtain ⟨p,o,cells,e,wr,ex,h1,h2,h3,h4,h5⟩:=h.at hlt
   obtain ⟨p',o',cells',e',wr',ex',q1,q2,q3,q4,q5⟩:=k.at hltm
   have hwS:=wrapS (show i < 9223372036854775807 by omega)
   rw [List.drop_eq_getElem_cons hlt,List.drop_eq_getElem_cons hltm,List.cons.injEq] at hiff
   simp [-run_draw,fillF,pickL,hlt]
   refine run_calm rfl ?_
   by_cases hc : l[i]=m[i]
   ·simp [h1,h2,h5,q1,q2,q5,hc,hwS]
    refine hR _ _ _ (by omega) ⟨i + 1,rfl,by omega,rfl,⟨rfl,rfl,by simp⟩,?_⟩
    rw [hiff]; simp [hc]
   ·simp [h1,h2,h5,q1,q2,q5,hc]
    have : ¬ l=m:=fun e=>hc (hiff.1 e).1
    simp [this] at hq
    exact hq
  ·obtain rfl : i=l.length:=by omega
   rw [List.drop_length,List.drop_eq_nil_of_le (by omega)] at hiff
   simp [fillF,pickL]
   have : l=m:=hiff.2 rfl
   simp [this] at hq
   exact hq
 ·have hlen' : ¬ (l.length : Int)=m.length:=by omega
  simp [hlen,hlen']
  have : ¬ l=m:=fun e=>hlen (by rw [e])
  simp [this] at hq
  exact hq

theorem wt_step {l : List Arw} {x y : Int} {i : Nat} (h : i < l.length) : wt (l.drop i) x y=if l[i].f=x∧l[i].t=y then l[i].w else wt (l.drop (i + 1)) x y:=by
 rw [List.drop_eq_getElem_cons h]
 unfold wt
 rw [List.find?_cons]
 by_cases hc : l[i].f=x∧l[i].t=y <;> simp [hc]
theorem weight_ok {S : AS} {v : Value} {N : Int} {l : List Arw} (h : As S v l) {x y : Int} {Q : En→AS→Prop} (hq : ∀ S',Same S S' []→Q (.ret (.int .i64 (wt l x y))) S') : Call G 106 [.agg #[.int .i64 N,v],.int .i64 x,.int .i64 y] S Q:=by
 obtain ⟨a,cap,rfl⟩:=h.shape
 refine call_run' (G:=G) rfl (ext_none (by decide)) ?_
 simp
 have hsm:=h.small
 have s1 : Same S ((S.bump 1).put S.next (AObj.row [Value.int IntKind.i64 N,.slice a l.length cap] 24 true true)) []:=by
  repeat' first | exact Same.refl _ _ | apply Same.bu | (refine Same.pn ?_ (by first | omega | (simp; omega)))
 refine run_loop (fun j a' S'=>∃ i,j=l.length - i∧i≤l.length∧Same S S' []∧S'.get S.next=some (.row [.int .i64 N,.slice a l.length cap] 24 true true)∧Has a' 39 [(1,.int .i64 x),(2,.int .i64 y),(3,ptr S.next),(7,.int .i64 i)]∧wt l x y=wt (l.drop i) x y) _ ⟨0,rfl,by omega,s1,by simp,⟨rfl,rfl,by simp⟩,by simp⟩ ?_
 rintro _ R hR _ S1 ⟨i,rfl,hi,hs1,hg1,ha,hok⟩
 obtain ⟨z,rfl⟩:=ha.lit
 by_cases hlt : i < l.length
 ·obtain ⟨p,o,cells,e,wr,ex,h1,h2,h3,h4,h5,h6,h7,h8,h9⟩:=(h.stay0 hs1).at hlt
  have hlt' : (i : Int) < l.length:=by omega
  have hwS:=wrapS (show i < 9223372036854775807 by omega)
  rw [wt_step hlt] at hok
  by_cases c1 : l[i].f=x
  ·by_cases c2 : l[i].t=y
   ·simp [fillF,pickL,hlt,hlt',hg1,h1,h2,h6,h7,h9,c1,c2,undef]
    rw [if_pos ⟨c1,c2⟩] at hok
    rw [hok] at hq
    exact hq _ hs1
   ·simp [fillF,pickL,hlt,hlt',hg1,h1,h2,h6,h7,h9,c1,c2,undef,hwS]
    rw [if_neg (fun h=>c2 h.2)] at hok
    exact hR _ _ _ (by omega) ⟨i + 1,rfl,by omega,hs1,hg1,⟨rfl,rfl,by simp⟩,hok⟩
  ·simp [fillF,pickL,hlt,hlt',hg1,h1,h2,h6,h7,h9,c1,undef,hwS]
   rw [if_neg (fun h=>c1 h.1)] at hok
   exact hR _ _ _ (by omega) ⟨i + 1,rfl,by omega,hs1,hg1,⟨rfl,rfl,by simp⟩,hok⟩
 ·have hlt' : ¬ (i : Int) < l.length:=by omega
  obtain rfl : i=l.length:=by omega
  simp [fillF,pickL,hg1]
  rw [List.drop_length] at hok
  have : wt l x y=0:=hok
  rw [this] at hq
  exact hq _ hs1
theorem rbehind_ok {S : AS} {v w : Value} {N : Int} {l : List Arw} {ah : List Int} (h : As S v l) (k : Is S w ah) (hw : ∀ x y,0≤wt l x y∧wt l x y≤1000) (hl : ah.length≤1000) {x : Int} {Q : En→AS→Prop}
  (hq : ∀ S',Same S S' []→Q (.ret (.int .i64 (isum (ah.map (wt l x))))) S') : Call G 100 [.agg #[.int .i64 N,v],.int .i64 x,w] S Q:=by
 obtain ⟨b,bcap,rfl⟩:=k.shape
 refine call_run' (G:=G) rfl (ext_none (by decide)) ?_
 simp
 have s1 : Same S ((S.bump 1).put S.next (AObj.row [Value.int IntKind.i64 N,v] 24 true true)) []:=by
  repeat' first | exact Same.refl _ _ | apply Same.bu | (refine Same.pn ?_ (by first | omega | (simp; omega)))
 refine run_loop (fun j a' S'=>∃ i,j=ah.length - i∧i≤ah.length∧Same S S' []∧S'.get S.next=some (.row [.int .i64 N,v] 24 true true)∧S.next < S'.next∧Has a' 25 [(1,.int .i64 x),(2,.slice b ah.length bcap),(3,ptr S.next),(7,.int .i64 (isum ((ah.map (wt l x)).take i))),(8,.int .i64 i)]) _ ⟨0,rfl,by omega,s1,by simp,by simp,⟨rfl,rfl,by simp [isum]⟩⟩ ?_
 rintro _ R hR _ S1 ⟨i,rfl,hi,hs1,hg1,hn1,ha⟩
 obtain ⟨z,rfl⟩:=ha.lit
 by_cases hlt : i < ah.length
 ·obtain ⟨p,o,cells,e,wr,ex,h1,h2,h3,h4,h5⟩:=(k.stay0 hs1).at hlt
  have hlt' : (i : Int) < ah.length:=by omega
  have hwS:=wrapS (show i < 9223372036854775807 by omega)
  have hwi:=hw x ah[i]
  have hb:=isum_bd (l:=(ah.map (wt l x)).take i) fun y hy=>by
   obtain ⟨z,_,rfl⟩:=List.mem_map.1 (List.mem_of_mem_take hy)
   exact hw x z
  have hbl : ((ah.map (wt l x)).take i).length≤1000:=by simp; omega
  have hs : IntKind.i64.wrap (isum ((ah.map (wt l x)).take i) + wt l x ah[i])=isum ((ah.map (wt l x)).take (i + 1)):=by
   rw [wrap64 (by omega) (by omega),isum_take _ (by simpa using hlt)]; simp
  simp [fillF,pickL,hlt,hlt',hg1,h1,h2,h5]
  refine weight_ok (h.stay0 hs1) fun S2 hs2=>?_
  have hg2 : S2.get S.next=_:=(hs2.2 _ (by omega) (by simp)).trans hg1
  have h22 : S2.get p=_:=(hs2.2 p h3 (by simp)).trans h2
  simp [hg2,h1,h22,h5,hs,hwS]
  exact hR _ _ _ (by omega) ⟨i + 1,rfl,by omega,hs1.tr0 hs2,hg2,by have:=hs2.1; omega,⟨rfl,rfl,by simp⟩⟩
 ·have hlt' : ¬ (i : Int) < ah.length:=by omega
  obtain rfl : i=ah.length:=by omega
  simp [fillF,pickL]
  rw [List.take_of_length_le (by simp)]
  exact hq _ hs1
theorem offR_snoc (w : Int→Int→Int) (l : List Int) (x : Int) : offR w [] (l ++ [x])=offR w [] l + isum (l.map (w x)):=by
 rw [offR_append]
 simp [offR]
theorem roffence_ok {S : AS} {v w : Value} {N : Int} {l : List Arw} {order : List Int} (h : As S v l) (k : Is S w order) (hw : ∀ x y,0≤wt l x y∧wt l x y≤1000) (hl : order.length≤24) {Q : En→AS→Prop}
  (hq : ∀ S',Same S S' []→Q (.ret (.int .i64 (offR (wt l) [] order))) S') : Call G 92 [.agg #[.int .i64 N,v],w] S Q:=by
 obtain ⟨b,bcap,rfl⟩:=k.shape
 refine call_run' (G:=G) rfl (ext_none (by decide)) ?_
 simp
 have s1 : Same S ((S.bump 1).put S.next (AObj.row [Value.int IntKind.i64 N,v] 24 true true)) []:=by
  repeat' first | exact Same.refl _ _ | apply Same.bu | (refine Same.pn ?_ (by first | omega | (simp; omega)))
 refine run_loop (fun j a' S'=>∃ i,j=order.length - i∧i≤order.length∧Same S S' []∧S'.get S.next=some (.row [.int .i64 N,v] 24 true true)∧S.next < S'.next∧Has a' 25 [(1,.slice b order.length bcap),(2,ptr S.next),(5,.int .i64 (offR (wt l) [] (order.take i))),(6,.int .i64 i)]) _ ⟨0,rfl,by omega,s1,by simp,by simp,⟨rfl,rfl,by simp [offR]⟩⟩ ?_
 rintro _ R hR _ S1 ⟨i,rfl,hi,hs1,hg1,hn1,ha⟩
 obtain ⟨z,rfl⟩:=ha.lit
 by_cases hlt : i < order.length
 ·obtain ⟨p,o,cells,e,wr,ex,h1,h2,h3,h4,h5⟩:=(k.stay0 hs1).at hlt
  obtain ⟨v',f1,f2,f3⟩:=(k.stay0 hs1).slc (lo:=none) (hi:=some (.int .i64 i)) (i:=0) (j:=i) (.inl ⟨rfl,rfl⟩) (.inr rfl) (by omega) (by omega)
  rw [List.drop_zero] at f2
  have hlt' : (i : Int) < order.length:=by omega
  have hwS:=wrapS (show i < 9223372036854775807 by omega)
  have hb:=offR_bd hw (order.take i) [] (by simp; omega)
  have hb2:=offR_bd hw (order.take (i + 1)) [] (by simp; omega)
  have e1 : order.take (i + 1)=order.take i ++ [order[i]]:=List.take_succ_eq_append_getElem hlt
  have e2:=offR_snoc (wt l) (order.take i) order[i]
  have hlt1 : (order.take (i + 1)).length≤24:=by simp; omega
  have hs : IntKind.i64.wrap (offR (wt l) [] (order.take i) + isum ((order.map (wt l order[i])).take i))=offR (wt l) [] (order.take (i + 1)):=by
   rw [← List.map_take,← e2,← e1,wrap64 (by omega) (by omega)]
  simp [fillF,pickL,hlt,hlt',hg1,h1,h2,h5,f1]
  refine rbehind_ok (h.stay0 hs1) f2 hw (by simp; omega) fun S2 hs2=>?_
  have hg2 : S2.get S.next=_:=(hs2.2 _ (by omega) (by simp)).trans hg1
  have h22 : S2.get p=_:=(hs2.2 p h3 (by simp)).trans h2
  simp [hg2,h1,h22,h5,hs,hwS]
  exact hR _ _ _ (by omega) ⟨i + 1,rfl,by omega,hs1.tr0 hs2,hg2,by have:=hs2.1; omega,⟨rfl,rfl,by simp⟩⟩
 ·have hlt' : ¬ (i : Int) < order.length:=by omega
  obtain rfl : i=order.length:=by omega
  simp [fillF,pickL]
  exact hq _ hs1
theorem all_iff {n : Nat} {l : List Int} : (l.length=n∧∀ i : Nat,i < n→(i : Int)∈l)↔ordOk n l=true:=by
 rw [ordOk_iff]
 constructor
 ·rintro ⟨h1,h2⟩
  have hp : (List.range n).map (fun (i : Nat)=>(i : Int)) |>.Nodup:=List.pairwise_map.2 (List.Pairwise.imp (fun h e=>h (Int.ofNat.inj e)) (List.nodup_range (n:=n)))
  have key : ∀ (m l : List Int),m.Nodup→(∀ x∈m,x∈l)→l.length=m.length→l.Perm m:=by
   intro m
   induction m with
   | nil=>intro l _ _ hl; rw [List.length_eq_zero_iff.1 hl]
   | cons a m ih=>
    intro l hn hs hl
    have ha:=hs a (by simp)
    rw [List.nodup_cons] at hn
    have h3:=List.perm_cons_erase ha
    refine h3.trans (List.Perm.cons a (ih (l.erase a) hn.2 (fun x hx=>?_) ?_))
    ·have hx':=hs x (by simp [hx])
     exact (List.mem_erase_of_ne (a:=x) (b:=a) (fun e=>hn.1 (by rw [← e]; exact hx))).2 hx'
    ·rw [List.length_erase_of_mem ha,hl]; simp
  have hperm:=key ((List.range n).map fun (i : Nat)=>(i : Int)) l hp (fun x hx=>by
   obtain ⟨i,hi,rfl⟩:=List.mem_map.1 hx
   exact h2 i (by simpa using hi)) (by simp [h1])
  refine ⟨h1,hperm.symm.nodup hp,fun x hx=>?_⟩
  obtain ⟨i,hi,rfl⟩:=List.mem_map.1 (hperm.mem_iff.1 hx)
  simp at hi
  omega
 ·rintro ⟨h1,h2,h3⟩
  refine ⟨h1,fun i hi=>?_⟩
  have hg : Good n (l.map Int.toNat):=⟨?_,fun j hj=>by
   obtain ⟨x,hx,rfl⟩:=List.mem_map.1 hj
   have:=h3 x hx
   omega⟩
  ·have:=full_mem hg (by simp [h1]) hi
   obtain ⟨x,hx,e⟩:=List.mem_map.1 this
   have:=h3 x hx
   have : x=i:=by omega
   exact this ▸ hx
  ·refine List.pairwise_map.2 ?_
   have h2' : l.Pairwise (fun a b=>a≠b):=h2
   refine List.Pairwise.imp_of_mem (fun {a b} ha hb hab=>?_) h2'
   have:=h3 a ha
   have:=h3 b hb
   omega
theorem all86_ok {S : AS} {v : Value} {l : List Int} (h : Is S v l) {n : Nat} (hn : n≤1000) {Q : En→AS→Prop} (hq : Q (.ret (.bool (ordOk n l))) S) : Call G 60 [v,.int .i64 n] S Q:=by
 obtain ⟨a,cap,rfl⟩:=h.shape
 refine call_run' (G:=G) rfl (ext_none (by decide)) ?_
 simp
 by_cases hl : l.length=n
 ·have hl1 : (l.length=n)=True:=eq_true hl
  have hl2 : ((l.length : Int)=n)=True:=eq_true (by omega)
  simp [hl1,hl2]
  refine run_loop (fun j a' S'=>∃ i,j=n - i∧i≤n∧S'=S∧Has a' 21 [(0,.slice a l.length cap),(1,.int .i64 n),(5,.int .i64 i)]∧∀ k : Nat,k < i→(k : Int)∈l) _ ⟨0,rfl,by omega,rfl,⟨rfl,rfl,by simp⟩,fun k hk=>by omega⟩ ?_
  rintro _ R hR _ S ⟨i,rfl,hi,rfl,ha,hok⟩
  obtain ⟨z,rfl⟩:=ha.lit
  by_cases hlt : i < n
  ·have hlt' : (i : Int) < n:=by omega
   have hwS:=wrapS (show i < 9223372036854775807 by omega)
   simp [fillF,pickL,hlt,hlt']
   refine has_ok h ?_
   by_cases c1 : (i : Int)∈l
   ·simp [c1,hwS]
    refine hR _ _ _ (by omega) ⟨i + 1,rfl,by omega,rfl,⟨rfl,rfl,by simp⟩,fun k hk=>?_⟩
    rcases Nat.lt_succ_iff_lt_or_eq.1 hk with h | rfl
    ·exact hok k h
    ·exact c1
   ·simp [c1]
    have : ordOk n l=false:=by
     cases hh : ordOk n l with
     | false=>rfl
     | true=>exact absurd ((all_iff.2 hh).2 i hlt) c1
    rw [this] at hq
    exact hq
  ·have hlt' : ¬ (i : Int) < n:=by omega
   obtain rfl : i=n:=by omega
   simp [fillF,pickL]
   rw [all_iff.1 ⟨hl,hok⟩] at hq
   exact hq
 ·have hl' : ¬ (l.length : Int)=n:=by omega
  simp [hl,hl']
  have : ordOk n l=false:=by
   cases hh : ordOk n l with
   | false=>rfl
   | true=>exact absurd (all_iff.2 hh).1 hl
  rw [this] at hq
  exact hq

theorem sl3_app1 {e : TypeId} {S : AS} {v : Value} {ms : List Mv} (h : SlAt S e v (mvsC ms)) (hb : ms.length≤100000) {T : AS} {p fr : Nat} {m : Mv} {wr ex : Bool} (hT : Same S T []) (hp : T.get p=some (.row (mvC m) e wr ex)) (hfr : fr < T.next) (hfS : S.next≤fr) :
  ∃ T',appV T fr e 3 24 v (.slice (some ⟨p,0,none⟩) 1 1)=some (.slice (some ⟨fr,0,none⟩) (ms.length + 1) (ms.length + 1),T')∧SlAt T' e (.slice (some ⟨fr,0,none⟩) (ms.length + 1) (ms.length + 1)) (mvsC (ms ++ [m]))∧Same S T' (ownsOf v)∧T'.next=T.next:=by
 have hsl:=h.stays hT (by simp)
 obtain ⟨T0,a1,a2,a3⟩:=appV_new (fr:=fr) (bytes:=24) (ms:=mvsC [m]) (y:=.slice (some ⟨p,0,none⟩) 1 1) hsl (mvs_uni ms) (by omega) (by simp [mvsC]) (mvs_uni [m]) (by simp [srcCells,hp,mvsC,mvC]) (by simp; omega) (by omega) (mvs_ok [m])
 simp only [mvs_len,List.length_singleton] at a1
 refine ⟨_,a1,.inr ⟨fr,false,by simp,?_,by simp only [AS.next_put,a2]; exact hfr⟩,?_,by simp only [AS.next_put]; exact a2⟩
 ·rw [AS.get_put_self]; simp [mvsC]
 ·refine ⟨by simp only [AS.next_put,a2]; exact hT.1,fun q hq hn=>?_⟩
  rw [AS.get_put_ne _ _ (by omega),a3 q hn,hT.2 q hq (by simp)]
def plF (order : List Int) (i : Nat) (k : Nat) : Int:=if (k : Int)∈order.take i then ixI order k else 0
theorem ixI_nodup {l : List Int} (hn : l.Nodup) {i : Nat} (hi : i < l.length) : ixI l l[i]=i:=by
 unfold ixI; rw [idxOf_nd hn hi]
theorem places_ok {S : AS} {v : Value} {order : List Int} (h : Is S v order) {n : Nat} (hn : n≤1000) (ho : ordOk n order=true) {Q : En→AS→Prop}
  (hq : ∀ S' p,Same S S' []→S.next≤p→p < S'.next→S'.get p=some (.row (rowc n fun k=>ixI order k) 3 true true)→Q (.ret (vs p 0 n n)) S') : Call G 105 [v] S Q:=by
 obtain ⟨a,cap,rfl⟩:=h.shape
 obtain ⟨e1,e2,e3⟩:=ordOk_iff.1 ho
 subst e1
 refine call_run' (G:=G) rfl (ext_none (by decide)) ?_
 have b1 : (order.length : Int)≤281474976710656:=by omega
 have b2 : (order.length : Int)≤9223372036854775807:=by omega
 have b3 : (8 : Int) * (order.length : Int)≤281474976710656:=by omega
 simp [b1,b2,b3,rep_zero]
 generalize hS1 : (S.bump 1).put S.next _=S1
 have s1 : Same S S1 []:=by
  rw [← hS1]
  repeat' first | exact Same.refl _ _ | apply Same.bu | (refine Same.pn ?_ (by first | omega | (simp; omega)))
 have g1 : S1.get S.next=some (.row (rowc order.length fun _=>0) 3 true true):=by rw [← hS1]; simp
 have hn1 : S1.next=S.next + 1:=by rw [← hS1]; simp
 clear hS1
 have hr0 : rowc order.length (plF order 0)=rowc order.length fun _=>0:=rowc_congr fun k _=>by simp [plF]
 refine run_loop (fun m a' S'=>∃ j,m=order.length - j∧j≤order.length∧Same S S' []∧S.next < S'.next∧S'.get S.next=some (.row (rowc order.length (plF order j)) 3 true true)∧Has a' 22 [(3,vs S.next 0 order.length order.length),(9,.slice a order.length cap),(10,.int .i64 order.length),(11,.int .i64 j)]) _ ⟨0,rfl,by omega,s1,by omega,by rw [hr0]; exact g1,⟨rfl,rfl,by simp [vi]⟩⟩ ?_
 rintro _ R hR _ S2 ⟨j,rfl,hj,hs2,hn2,g2,hA⟩
 obtain ⟨z,rfl⟩:=hA.lit
 by_cases hlt : j < order.length
 ·obtain ⟨p,o,cells,e,wr,ex,h1,h2,h3,h4,h5⟩:=(h.stay0 hs2).at hlt
  have hwS:=wrapS (show j < 9223372036854775807 by omega)
  have hb:=e3 order[j] (List.getElem_mem hlt)
  obtain ⟨x,hx⟩ : ∃ x : Nat,order[j]=x:=⟨order[j].toNat,by omega⟩
  have hxl : x < order.length:=by omega
  have hxl' : (x : Int) < order.length:=by omega
  have hst:=rowc_set (f:=plF order j) (x:=(j : Int)) hxl
  have hrow : (rowc order.length fun k=>if k=x then (j : Int) else plF order j k)=rowc order.length (plF order (j + 1)):=rowc_congr fun k _=>by
   unfold plF
   rw [List.take_succ_eq_append_getElem hlt,hx]
   by_cases hk : k=x
   ·subst hk
    have:=ixI_nodup e2 hlt
    rw [hx] at this
    simp [this]
   ·have hk' : ¬ (k : Int)=x:=by omega
    simp [hk,hk']
  simp [fillF,pickL,hlt,h1,h2,h5,hx,hxl,hxl',g2,hst,hwS]
  refine hR _ _ _ (by omega) ⟨j + 1,rfl,by omega,hs2.pn (by omega),by simpa using hn2,by rw [AS.get_put_self,hrow],⟨rfl,rfl,by simp⟩⟩
 ·obtain rfl : j=order.length:=by omega
  simp [fillF,pickL]
  refine hq S2 S.next hs2 (Nat.le_refl _) hn2 ?_
  rw [g2]
  congr 2
  refine rowc_congr fun k hk=>?_
  unfold plF
  rw [List.take_length]
  have:=(all_iff.2 ho).2 k hk
  simp [this]
def slM (order : List Int) (a : Arw) : Mv:=(a.f,a.t,a.w)
def slL (l : List Arw) (order : List Int) : List Mv:=(l.filter fun a=>decide (ixI order a.t < ixI order a.f)).map (slM order)
theorem slL_snoc {l : List Arw} {order : List Int} {i : Nat} (h : i < l.length) : slL (l.take (i + 1)) order=if ixI order l[i].t < ixI order l[i].f then slL (l.take i) order ++ [slM order l[i]] else slL (l.take i) order:=by
 unfold slL
 rw [List.take_succ_eq_append_getElem h,List.filter_append,List.map_append]
 by_cases hc : ixI order l[i].t < ixI order l[i].f <;> simp [hc]
theorem slights_ok {S : AS} {v w : Value} {n : Nat} {l : List Arw} {order : List Int} (h : As S v l) (k : Is S w order) (hn : n≤24) (ho : ordOk n order=true) (ha : arrsOk n none l=true) {Q : En→AS→Prop}
  (hq : ∀ S' r,Same S S' []→SlAt S' 156 r (mvsC (slL l order))→Q (.ret r) S') : Call G 99 [.agg #[.int .i64 n,v],w] S Q:=by
 obtain ⟨a,cap,rfl⟩:=h.shape
 have hlen:=arrs_len (N:=n) (by omega) ha
 refine call_run' (G:=G) rfl (ext_none (by decide)) ?_
 simp
 have s1 : Same S ((S.bump 1).put S.next (AObj.row [Value.int IntKind.i64 n,.slice a l.length cap] 24 true true)) []:=by
  repeat' first | exact Same.refl _ _ | apply Same.bu | (refine Same.pn ?_ (by first | omega | (simp; omega)))
 refine places_ok (k.stay0 s1) (by omega) ho fun S1 p1 hs1 hp1 hp2 gp=>?_
 simp at hp1
 have hs01:=s1.tr0 hs1
 have g0 : S1.get S.next=some (.row [.int .i64 n,.slice a l.length cap] 24 true true):=(hs1.2 _ (by simp) (by simp)).trans (by simp)
 simp [g0]
 refine run_loop (fun m a' S'=>∃ j r,m=l.length - j∧j≤l.length∧Same S1 S' []∧SlAt S' 156 r (mvsC (slL (l.take j) order))∧(∀ m∈ownsOf r,S1.next≤m)∧Has a' 41 [(2,ptr S.next),(5,vs p1 0 n n),(6,r),(12,.slice a l.length cap),(13,.int .i64 l.length),(14,.int .i64 j)]) _ ⟨0,.slice none 0 0,rfl,by omega,.refl _ _,.inl ⟨rfl,rfl⟩,by simp [ownsOf],⟨rfl,rfl,by simp [vi]⟩⟩ ?_
 rintro _ R hR _ S2 ⟨j,r,rfl,hj,hs2,hr,hro,hA⟩
 obtain ⟨z,rfl⟩:=hA.lit
 have hs02:=hs01.tr0 hs2
 have hn2:=hs2.1
 by_cases hlt : j < l.length
 ·obtain ⟨p,o,cells,e,wr,ex,h1,h2,h3,h4,h5,h6,h7,h8,h9⟩:=(h.stay0 hs02).at hlt
  have hwS:=wrapS (show j < 9223372036854775807 by omega)
  have gp2 : S2.get p1=_:=(hs2.2 p1 hp2 (by simp)).trans gp
  obtain ⟨m1,m2,m3,m4,m5,m6⟩:=arrOk_spec ((arrsOk_none ha).1 l[j] (List.getElem_mem hlt))
  obtain ⟨f,hf⟩ : ∃ x : Nat,l[j].f=x:=⟨l[j].f.toNat,by omega⟩
  obtain ⟨t,ht⟩ : ∃ x : Nat,l[j].t=x:=⟨l[j].t.toNat,by omega⟩
  have hfn : f < n:=by omega
  have htn : t < n:=by omega
  have hfn' : (f : Int) < n:=by omega
  have htn' : (t : Int) < n:=by omega
  have r1:=rowc_get (f:=fun k=>ixI order k) hfn
  have r2:=rowc_get (f:=fun k=>ixI order k) htn
  have hp3 : p1≠S2.next:=by omega
  simp [-run_draw,fillF,pickL,hlt,h1,h2,h5,Arw.cells,rowStore,okc,splice]
  refine run_calm rfl ?_
  have hsn:=slL_snoc (order:=order) hlt
  generalize hS3 : AS.put (AS.put (AS.bump S2 1) _ _) _ _=S3
  have hs3 : Same S2 S3 []:=by
   rw [← hS3]
   exact (((Same.refl _ _).bu).pn (by omega)).pn (by omega)
  have g3 : S3.get S2.next=some (.row [.int .i64 l[j].f,.int .i64 l[j].t,.int .i64 l[j].r,.int .i64 l[j].w] 86 true true):=by rw [← hS3]; simp
  have hn3 : S3.next=S2.next + 1:=by rw [← hS3]; simp
  clear hS3
  have gp3 : S3.get p1=_:=(hs3.2 p1 (by omega) (by simp)).trans gp2
  have hr3 : SlAt S3 156 r (mvsC (slL (l.take j) order)):=hr.stays hs3 (by simp)
  have hs13:=hs2.tr0 hs3
  simp [g3,gp3,hf,ht,hfn,htn,hfn',htn',r1,r2]
  rw [hf,ht] at hsn
  by_cases hc : ixI order (t : Int) < ixI order (f : Int)
  ·rw [if_pos hc] at hsn
   simp [hc,g3,hf,ht,placeIn,splice]
   have hll : (slL (l.take j) order).length≤100000:=by
    have : (slL (l.take j) order).length≤(l.take j).length:=by unfold slL; rw [List.length_map]; exact List.length_filter_le _ _
    simp at this; omega
   obtain ⟨T',f1,f2,f3,f4⟩:=sl3_app1 hr3 hll (T:=(S3.bump 2).put S3.next (.row (mvC ((f : Int),(t : Int),l[j].w)) 156 true true)) (p:=S3.next) (fr:=S3.next + 1) (m:=((f : Int),(t : Int),l[j].w)) (wr:=true) (ex:=true)
    (by repeat' first | exact Same.refl _ _ | apply Same.bu | (refine Same.pn ?_ (by first | omega | (simp; omega)))) (by simp) (by simp) (by omega)
   simp only [mvC] at f1
   simp [f1,hwS]
   have e1 : slM order l[j]=((f : Int),(t : Int),l[j].w):=by unfold slM; rw [hf,ht]
   refine hR _ _ _ (by omega) ⟨j + 1,.slice (some ⟨S3.next + 1,0,none⟩) ((slL (l.take j) order).length + 1) ((slL (l.take j) order).length + 1),rfl,by omega,hs13.trans f3 (fun m hm hl=>by have:=hro m hm; omega),by rw [hsn,e1]; exact f2,fun m hm=>by simp [ownsOf] at hm; omega,⟨rfl,rfl,by simp⟩⟩
  ·rw [if_neg hc] at hsn
   simp [hc,hwS]
   exact hR _ _ _ (by omega) ⟨j + 1,r,rfl,by omega,hs13,by rw [hsn]; exact hr3,hro,⟨rfl,rfl,by simp⟩⟩
 ·obtain rfl : j=l.length:=by omega
  simp [fillF,pickL]
  rw [List.take_length] at hr
  exact hq S2 r hs02 hr
theorem pOff_bd {n : Nat} {l : List Arw} {order : List Int} (hn : n≤24) (ha : arrsOk n none l=true) : ∀ j,0≤isum (((slL l order).map (·.2.2)).take j)∧isum (((slL l order).map (·.2.2)).take j)≤576000:=by
 intro j
 have:=isum_bd (l:=((slL l order).map (·.2.2)).take j) fun y hy=>by
  have hy:=List.mem_of_mem_take hy
  obtain ⟨m,hm,rfl⟩:=List.mem_map.1 hy
  unfold slL at hm
  obtain ⟨a,h1,rfl⟩:=List.mem_map.1 hm
  have:=arrOk_spec ((arrsOk_none ha).1 a (List.mem_filter.1 h1).1)
  unfold slM
  simp only
  omega
 have h2 : (((slL l order).map (·.2.2)).take j).length≤576:=by
  have h3:=arrs_len (N:=n) (by omega) ha
  have h4 : (slL l order).length≤l.length:=by unfold slL; rw [List.length_map]; exact List.length_filter_le _ _
  simp; omega
 omega
theorem pOff_sl (l : List Arw) (order : List Int) : isum ((slL l order).map (·.2.2))=pOff l order:=by
 unfold slL pOff
 rw [List.map_map]
 rfl
theorem offence163_ok {S : AS} {v w : Value} {n : Nat} {l : List Arw} {order : List Int} (h : As S v l) (k : Is S w order) (hn : n≤24) (ho : ordOk n order=true) (ha : arrsOk n none l=true) {Q : En→AS→Prop}
  (hq : ∀ S',Same S S' []→Q (.ret (.int .i64 (pOff l order))) S') : Call G 90 [.agg #[.int .i64 n,v],w] S Q:=by
 refine call_run' (G:=G) rfl (ext_none (by decide)) ?_
 simp
 have s1 : Same S ((S.bump 1).put S.next (AObj.row [Value.int IntKind.i64 n,v] 24 true true)) []:=by
  repeat' first | exact Same.refl _ _ | apply Same.bu | (refine Same.pn ?_ (by first | omega | (simp; omega)))
 refine slights_ok (h.stay0 s1) (k.stay0 s1) hn ho ha fun S1 r hs1 hr=>?_
 have hs01:=s1.tr0 hs1
 have hbd:=pOff_bd (order:=order) hn ha
 obtain ⟨ra,hrs⟩ : ∃ ra,r=.slice ra (slL l order).length (slL l order).length:=by
  rcases hr with ⟨rfl,h0⟩ | ⟨p,ex,rfl,_,_⟩
  ·have:=congrArg List.length h0
   simp at this
   exact ⟨none,by rw [this]; rfl⟩
  ·exact ⟨some ⟨p,0,none⟩,by simp⟩
 subst hrs
 simp
 generalize hms : slL l order=ms at *
 have hml : ms.length≤576:=by
  have h3:=arrs_len (N:=n) (by omega) ha
  have h4 : (slL l order).length≤l.length:=by unfold slL; rw [List.length_map]; exact List.length_filter_le _ _
  rw [hms] at h4
  omega
 refine run_loop (fun m a' S'=>∃ j,m=ms.length - j∧j≤ms.length∧Same S1 S' []∧Has a' 22 [(5,.int .i64 (isum ((ms.map (·.2.2)).take j))),(10,.slice ra ms.length ms.length),(11,.int .i64 ms.length),(12,.int .i64 j)]) _ ⟨0,rfl,by omega,.refl _ _,⟨rfl,rfl,by simp [vi,isum]⟩⟩ ?_
 rintro _ R hR _ S2 ⟨j,rfl,hj,hs2,hA⟩
 obtain ⟨z,rfl⟩:=hA.lit
 have hn2:=hs2.1
 by_cases hlt : j < ms.length
 ·have hwS:=wrapS (show j < 9223372036854775807 by omega)
  have hr2 : SlAt S2 156 (.slice ra ms.length ms.length) (mvsC ms):=hr.stays hs2 (by simp)
  rcases hr2 with ⟨e,h0⟩ | ⟨q,ex,e,g1,g2⟩
  ·injection e with e1 e2
   omega
  ·injection e with e1 e2
   subst e1
   have hld : rowLoad (mvsC ms).flatten (j * 3) (some 3)=some (.agg (mvC ms[j]).toArray):=by
    have:=(mvs_uni ms).get (i:=j) (l:=mvC ms[j]) (by simp [mvsC,hlt])
    have hfl:=(mvs_uni ms).len
    simp only [mvs_len] at hfl
    simp [rowLoad,this,hfl]
    omega
   have htk:=isum_take (ms.map (·.2.2)) (i:=j) (by simpa using hlt)
   have b1:=hbd j
   have b2:=hbd (j + 1)
   have hw : IntKind.i64.wrap (isum ((ms.map (·.2.2)).take j) + ms[j].2.2)=isum ((ms.map (·.2.2)).take (j + 1)):=by
    rw [htk,wrap64]
    ·simp
    ·simp at htk; omega
    ·simp at htk; omega
   simp [fillF,pickL,hlt,g1,hld,mvC,rowStore,okc,splice,hw,hwS]
   exact hR _ _ _ (by omega) ⟨j + 1,rfl,by omega,((hs2.bu).pn (by omega)).pn (by omega),⟨rfl,rfl,by simp⟩⟩
 ·obtain rfl : j=ms.length:=by omega
  simp [fillF,pickL]
  have e:=pOff_sl l order
  rw [hms] at e
  rw [List.take_of_length_le (by simp),e]
  exact hq S2 (hs01.tr0 hs2)

def Chg.cg (c : Chg) : Cg:=⟨c.n.toNat,wt c.arrows,c.old,c.passed.toNat⟩
theorem checkOld_spec {N : Int} : ∀ (l seen : List Int),checkOld N seen l=0→(∀ x∈l,0≤x∧x < N∧x∉seen)∧l.Nodup
 | [],seen,_=>⟨by simp,by simp⟩
 | x :: l,seen,h=>by
  rw [checkOld_cons] at h
  split at h
  ·cases h
  ·split at h
   ·cases h
   ·rename_i h1 h2
    obtain ⟨g1,g2⟩:=checkOld_spec l (x :: seen) h
    refine ⟨fun y hy=>?_,?_⟩
    ·rcases List.mem_cons.1 hy with rfl | hy
     ·exact ⟨by omega,by omega,h2⟩
     ·have:=g1 y hy
      simp only [List.mem_cons,not_or] at this
      exact ⟨this.1,this.2.1,this.2.2.2⟩
    ·rw [List.nodup_cons]
     exact ⟨fun hm=>(g1 x hm).2.2 (by simp),g2⟩
structure ChgOk (c : Chg) : Prop where
 n0 : 0≤c.n
 n1 : c.n≤24
 ar : arrsOk c.n none c.arrows=true
 nd : c.old.Nodup
 lt : ∀ x∈c.old,0≤x∧x < c.n
 p0 : 0≤c.passed
 p1 : c.passed≤c.old.length
 am : c.n - c.passed≤8
theorem check_ok {c : Chg} (h : c.check=0) : ChgOk c:=by
 unfold Chg.check at h
 by_cases h1 : checkR c.n c.arrows=0
 ·rw [if_neg (by simp [h1])] at h
  by_cases h2 : checkOld c.n [] c.old=0
  ·rw [if_neg (by simp [h2])] at h
   split at h
   ·cases h
   ·split at h
    ·cases h
    ·obtain ⟨g1,g2,g3⟩:=checkR_pos h1
     obtain ⟨k1,k2⟩:=checkOld_spec _ _ h2
     exact ⟨g1,g2,g3,k2,fun x hx=>⟨(k1 x hx).1,(k1 x hx).2.1⟩,by omega,by omega,by omega⟩
  ·rw [if_pos h2] at h; exact absurd h h2
 ·rw [if_pos h1] at h; exact absurd h h1
theorem nodup_len {l : List Int} {n : Nat} (hn : l.Nodup) (h : ∀ x∈l,0≤x∧x < n) : l.length≤n:=by
 have hnd : ((List.range n).map fun (x : Nat)=>(x : Int)).Nodup:=List.pairwise_map.2 (List.Pairwise.imp (fun h e=>h (Int.ofNat.inj e)) (List.nodup_range (n:=n)))
 have h1 : (((List.range n).map fun (x : Nat)=>(x : Int)).filter fun x=>decide (x∈l)).Perm l:=by
  refine (List.perm_ext_iff_of_nodup (hnd.sublist List.filter_sublist) hn).2 fun x=>?_
  rw [List.mem_filter,decide_eq_true_eq,List.mem_map]
  constructor
  ·exact fun g=>g.2
  ·intro g
   have:=h x g
   exact ⟨⟨x.toNat,by simp; omega,by omega⟩,g⟩
 have h2:=h1.length_eq
 have h3:=List.length_filter_le (fun x=>decide (x∈l)) ((List.range n).map fun (x : Nat)=>(x : Int))
 simp only [List.length_map,List.length_range] at h3
 omega
theorem ChgOk.cgOk {c : Chg} (h : ChgOk c) : CgOk c.cg:=⟨h.nd,fun x hx=>by have:=h.lt x hx; have:=h.n0; unfold Chg.cg; simp only; omega,by have:=h.p0; have:=h.p1; unfold Chg.cg; simp only; omega⟩
theorem ChgOk.olen {c : Chg} (h : ChgOk c) : c.old.length≤c.n.toNat:=nodup_len h.nd fun x hx=>by have:=h.lt x hx; have:=h.n0; omega
theorem ChgOk.cgSm {c : Chg} (h : ChgOk c) : CgSm c.cg:=by
 have h1:=h.n0
 have h2:=h.n1
 have h3:=h.olen
 have hf : c.cg.free.length≤24:=by
  have : c.cg.free.length≤((List.range c.cg.n).map fun (x : Nat)=>(x : Int)).length:=List.length_filter_le _ _
  simp only [List.length_map,List.length_range] at this
  have e : c.cg.n=c.n.toNat:=rfl
  omega
 exact ⟨by show c.n.toNat≤24; omega,fun x y=>wt_bd (arrsOk_none h.ar).1 x y,hf,by show c.old.length≤24; omega,fun x hx=>by
  have:=h.lt x (List.mem_of_mem_take hx)
  have e : c.cg.n=c.n.toNat:=rfl
  omega,h.cgOk.ps⟩
theorem both_ok {S : AS} {v w : Value} {n : Nat} {l : List Arw} {order : List Int} (h : As S v l) (k : Is S w order) (hn : n≤24) (ha : arrsOk n none l=true) {Q : En→AS→Prop}
  (hq : ∀ S',Same S S' []→Q (.ret (.int .i64 (if ordOk n order=true then 0 else 1))) S') : Call G 89 [.agg #[.int .i64 n,v],w] S Q:=by
 refine call_run' (G:=G) rfl (ext_none (by decide)) ?_
 simp
 have s1 : Same S ((S.bump 1).put S.next (AObj.row [Value.int IntKind.i64 n,v] 24 true true)) []:=by
  repeat' first | exact Same.refl _ _ | apply Same.bu | (refine Same.pn ?_ (by first | omega | (simp; omega)))
 have hcr : checkR n l=0:=by
  unfold checkR
  rw [if_neg (by omega),if_neg (by omega),if_pos ha]
 refine rankCheck_ok (h.stay0 s1) fun S1 hs1=>?_
 rw [hcr]
 have g0 : S1.get S.next=some (.row [.int .i64 n,v] 24 true true):=(hs1.2 _ (by simp) (by simp)).trans (by simp)
 simp [g0]
 refine checkOrder_ok (k.stay0 (s1.tr0 hs1)) (by omega) fun S2 hs2=>?_
 simp
 exact hq S2 ((s1.tr0 hs1).tr0 hs2)
theorem Offence_ok {S : AS} {v w : Value} {n : Nat} {l : List Arw} {order : List Int} (h : As S v l) (k : Is S w order) (hn : n≤24) (ho : ordOk n order=true) (ha : arrsOk n none l=true) {Q : En→AS→Prop}
  (hq : ∀ S',Same S S' []→Q (.ret (.tuple #[.int .i64 (offR (wt l) [] order),.int .i64 0])) S') : Call G 67 [.agg #[.int .i64 n,v],w] S Q:=by
 refine call_run' (G:=G) rfl (ext_none (by decide)) ?_
 simp
 have s1 : Same S ((S.bump 1).put S.next (AObj.row [Value.int IntKind.i64 n,v] 24 true true)) []:=by
  repeat' first | exact Same.refl _ _ | apply Same.bu | (refine Same.pn ?_ (by first | omega | (simp; omega)))
 refine both_ok (h.stay0 s1) (k.stay0 s1) hn ha fun S1 hs1=>?_
 rw [if_pos ho]
 have g0 : S1.get S.next=some (.row [.int .i64 n,v] 24 true true):=(hs1.2 _ (by simp) (by simp)).trans (by simp)
 simp [g0]
 refine offence163_ok ((h.stay0 s1).stay0 hs1) ((k.stay0 s1).stay0 hs1) hn ho ha fun S2 hs2=>?_
 obtain ⟨e1,e2,e3⟩:=ordOk_iff.1 ho
 obtain ⟨a1,a2⟩:=arrsOk_none ha
 have hp : pOff l order=offR (wt l) [] order:=pOff_eq a2 e2 fun a hm=>by
  have:=arrOk_spec (a1 a hm)
  have key : ∀ x : Int,0≤x→x < n→x∈order:=fun x h0 h1=>by
   have:=(all_iff.2 ho).2 x.toNat (by omega)
   have e : ((x.toNat : Nat) : Int)=x:=by omega
   rw [e] at this; exact this
  exact ⟨key _ (by omega) (by omega),key _ (by omega) (by omega)⟩
 rw [hp]
 simp
 exact hq S2 ((s1.tr0 hs1).tr0 hs2)
theorem price_ok {S : AS} {va vo w : Value} {c : Chg} {order : List Int} (h : ChgAt S va vo c) (k : Is S w order) (hc : ChgOk c) (ho : ordOk c.cg.n order=true) {Q : En→AS→Prop}
  (hq : ∀ S',Same S S' []→Q (.ret (cV (c.cg.rcost order))) S') : Call G 34 [c.val va vo,w] S Q:=by
 obtain ⟨n,hn⟩ : ∃ n : Nat,c.n=n:=⟨c.n.toNat,by have:=hc.n0; omega⟩
 have hcn : c.cg.n=n:=by show c.n.toNat=n; omega
 have h24:=hc.n1
 rw [hcn] at ho
 obtain ⟨e1,e2,e3⟩:=ordOk_iff.1 ho
 have hol:=hc.olen
 obtain ⟨oa,ocap,rfl⟩:=h.old.shape
 refine call_run' (G:=G) rfl (ext_none (by decide)) ?_
 simp [Chg.val,hn]
 generalize hS1 : AS.put (AS.put (AS.bump S 2) _ _) _ _=S1
 have s1 : Same S S1 []:=by rw [← hS1]; exact (((Same.refl _ _).bu).pn (by omega)).pn (by omega)
 have g0 : S1.get S.next=some (.row [.int .i64 n,va,.slice oa c.old.length ocap,.int .i64 c.passed] 41 true true):=by rw [← hS1]; simp
 have g1 : S1.get (S.next + 1)=some (.row [.int .i64 0,.int .i64 0] 79 true true):=by rw [← hS1]; simp
 have hn1 : S1.next=S.next + 2:=by rw [← hS1]; simp
 clear hS1
 have har:=hc.ar
 rw [hn] at har
 refine Offence_ok (h.arrows.stay0 s1) (k.stay0 s1) (by omega) ho har fun S2 hs2=>?_
 have k0 : S2.get S.next=_:=(hs2.2 _ (by omega) (by simp)).trans g0
 have k1 : S2.get (S.next + 1)=_:=(hs2.2 _ (by omega) (by simp)).trans g1
 simp [k0]
 have hs02:=s1.tr0 hs2
 refine moved_ok (h.old.stay0 hs02) (k.stay0 hs02) e2 (by omega) (by omega) fun S3 hs3=>?_
 have k13 : S3.get (S.next + 1)=_:=(hs3.2 _ (by have:=hs2.1; omega) (by simp)).trans k1
 simp [k13,placeIn,splice,rowStore,okc]
 have hn3:=(hs02.tr0 hs3).1
 refine hq _ ((hs02.tr0 hs3).pn (by omega))
def validR (c : Chg) (order : List Int) : Bool:=if c.check=0 then ordOk c.cg.n order && decide (order.take c.cg.passed=c.old.take c.cg.passed) else false
theorem Valid_ok {S : AS} {va vo w : Value} {c : Chg} {order : List Int} (h : ChgAt S va vo c) (k : Is S w order) {Q : En→AS→Prop}
  (hq : ∀ S',Same S S' []→Q (.ret (.tuple #[.bool (validR c order),.int .i64 c.check])) S') : Call G 33 [c.val va vo,w] S Q:=by
 obtain ⟨oa,ocap,rfl⟩:=h.old.shape
 obtain ⟨b,bcap,rfl⟩:=k.shape
 refine call_run' (G:=G) rfl (ext_none (by decide)) ?_
 simp [Chg.val]
 generalize hS1 : AS.put (AS.bump S 1) _ _=S1
 have s1 : Same S S1 []:=by rw [← hS1]; exact ((Same.refl _ _).bu).pn (by omega)
 have g0 : S1.get S.next=some (.row [.int .i64 c.n,va,.slice oa c.old.length ocap,.int .i64 c.passed] 41 true true):=by rw [← hS1]; simp
 have hn1 : S1.next=S.next + 1:=by rw [← hS1]; simp
 clear hS1
 refine amendCheck_ok (h.stay0 s1) fun S2 hs2=>?_
 have hs02:=s1.tr0 hs2
 have k0 : S2.get S.next=_:=(hs2.2 _ (by omega) (by simp)).trans g0
 have hn2:=hs2.1
 by_cases hc : c.check=0
 ·have ok:=check_ok hc
  obtain ⟨n,hn⟩ : ∃ n : Nat,c.n=n:=⟨c.n.toNat,by have:=ok.n0; omega⟩
  obtain ⟨p,hp⟩ : ∃ p : Nat,c.passed=p:=⟨c.passed.toNat,by have:=ok.p0; omega⟩
  have hcn : c.cg.n=n:=by show c.n.toNat=n; omega
  have hcp : c.cg.passed=p:=by show c.passed.toNat=p; omega
  have h24:=ok.n1
  have hpl:=ok.p1
  have hol:=ok.olen
  have hv : validR c order=(ordOk n order && decide (order.take p=c.old.take p)):=by unfold validR; rw [if_pos hc,hcn,hcp]
  simp [hc,k0,hn]
  refine checkOrder_ok (k.stay0 hs02) (by omega) fun S3 hs3=>?_
  have hs03:=hs02.tr0 hs3
  have k03 : S3.get S.next=_:=(hs3.2 _ (by omega) (by simp)).trans k0
  cases hoo : ordOk n order with
  | true=>
   obtain ⟨e1,e2,e3⟩:=ordOk_iff.1 hoo
   obtain ⟨v1,f1,f2,f3⟩:=(k.stay0 hs03).slc (lo:=none) (hi:=some (.int .i64 p)) (i:=0) (j:=p) (.inl ⟨rfl,rfl⟩) (.inr rfl) (by omega) (by omega)
   obtain ⟨v2,f4,f5,f6⟩:=(h.old.stay0 hs03).slc (lo:=none) (hi:=some (.int .i64 p)) (i:=0) (j:=p) (.inl ⟨rfl,rfl⟩) (.inr rfl) (by omega) (by omega)
   rw [List.drop_zero] at f2 f5
   simp [hoo,k03,hp,f1,f4,undef]
   refine equal_ok f2 f5 ?_
   simp [k03,hp,f1,f4,undef]
   have:=hq S3 hs03
   rw [hv,hoo,hc] at this
   simpa using this
  | false=>
   simp [hoo,k03,undef]
   have:=hq S3 hs03
   rw [hv,hoo,hc] at this
   simpa using this
 ·simp [hc]
  have:=hq S2 hs02
  unfold validR at this
  rw [if_neg hc] at this
  exact this

def costE (c : Chg) (order : List Int) : Int:=if c.check≠0 then c.check else if ordOk c.cg.n order=false then 1 else if validR c order=false then 70 else 0
def costV (c : Chg) (order : List Int) : Cost:=if costE c order=0 then c.cg.rcost order else (0,0)
theorem Cost_ok {S : AS} {va vo w : Value} {c : Chg} {order : List Int} (h : ChgAt S va vo c) (k : Is S w order) {Q : En→AS→Prop}
  (hq : ∀ S',Same S S' []→Q (.ret (.tuple #[.int .i64 (costV c order).1,.int .i64 (costV c order).2,.int .i64 (costE c order)])) S') : Call G 16 [c.val va vo,w] S Q:=by
 refine call_run' (G:=G) rfl (ext_none (by decide)) ?_
 simp [Chg.val]
 generalize hS1 : AS.put (AS.bump S 1) _ _=S1
 have s1 : Same S S1 []:=by rw [← hS1]; exact ((Same.refl _ _).bu).pn (by omega)
 have g0 : S1.get S.next=some (.row [.int .i64 c.n,va,vo,.int .i64 c.passed] 41 true true):=by rw [← hS1]; simp
 have hn1 : S1.next=S.next + 1:=by rw [← hS1]; simp
 clear hS1
 refine Valid_ok (h.stay0 s1) (k.stay0 s1) fun S2 hs2=>?_
 have hs02:=s1.tr0 hs2
 have hn2:=hs2.1
 have k0 : S2.get S.next=_:=(hs2.2 _ (by omega) (by simp)).trans g0
 by_cases hc : c.check=0
 ·have ok:=check_ok hc
  obtain ⟨n,hn⟩ : ∃ n : Nat,c.n=n:=⟨c.n.toNat,by have:=ok.n0; omega⟩
  have hcn : c.cg.n=n:=by show c.n.toNat=n; omega
  have h24:=ok.n1
  simp [hc,k0,hn]
  refine checkOrder_ok (k.stay0 hs02) (by omega) fun S3 hs3=>?_
  have hs03:=hs02.tr0 hs3
  have hn3:=hs3.1
  have k03 : S3.get S.next=_:=(hs3.2 _ (by omega) (by simp)).trans k0
  cases hoo : ordOk n order with
  | false=>
   simp [hoo]
   have:=hq S3 hs03
   have e : costE c order=1:=by unfold costE; rw [if_neg (by simp [hc]),hcn,if_pos hoo]
   unfold costV at this
   rw [e,if_neg (by omega)] at this
   exact this
  | true=>
   cases hv : validR c order with
   | false=>
    simp [hoo,hv]
    have:=hq S3 hs03
    have e : costE c order=70:=by unfold costE; rw [if_neg (by simp [hc]),hcn,if_neg (by simp [hoo]),if_pos hv]
    unfold costV at this
    rw [e,if_neg (by omega)] at this
    exact this
   | true=>
    simp [hoo,hv,k03]
    have e : costE c order=0:=by unfold costE; rw [if_neg (by simp [hc]),hcn,if_neg (by simp [hoo]),if_neg (by simp [hv])]
    have hq' : ∀ S',Same S S' []→Q (.ret (.tuple #[.int .i64 (c.cg.rcost order).1,.int .i64 (c.cg.rcost order).2,.int .i64 0])) S':=fun S' hs=>by
     have:=hq S' hs
     unfold costV at this
     rw [e,if_pos rfl] at this
     exact this
    rw [← hn]
    refine price_ok (h.stay0 hs03.bu) (k.stay0 hs03.bu) ok (by rw [hcn]; exact hoo) fun S4 hs4=>?_
    simp [rowStore,okc,splice]
    exact hq' _ (((hs03.bu.tr0 hs4).pn (by omega)).pn (by omega))
 ·simp [hc]
  have:=hq S2 hs02
  have e : costE c order=c.check:=by unfold costE; rw [if_pos hc]
  unfold costV at this
  rw [e,if_neg hc] at this
  exact this
theorem begins_ok {S : AS} {va vo w : Value} {c : Chg} {order : List Int} (h : ChgAt S va vo c) (k : Is S w order) (hc : ChgOk c) {Q : En→AS→Prop}
  (hq : ∀ S',Same S S' []→Q (.ret (.bool (decide (c.cg.passed≤order.length) && decide (order.take c.cg.passed=c.old.take c.cg.passed)))) S') : Call G 91 [c.val va vo,w] S Q:=by
 obtain ⟨oa,ocap,rfl⟩:=h.old.shape
 obtain ⟨b,bcap,rfl⟩:=k.shape
 obtain ⟨p,hp⟩ : ∃ p : Nat,c.passed=p:=⟨c.passed.toNat,by have:=hc.p0; omega⟩
 have hcp : c.cg.passed=p:=by show c.passed.toNat=p; omega
 have hpl:=hc.p1
 rw [hcp] at hq
 refine call_run' (G:=G) rfl (ext_none (by decide)) ?_
 simp [Chg.val,hp]
 generalize hS1 : AS.put (AS.bump S 1) _ _=S1
 have s1 : Same S S1 []:=by rw [← hS1]; exact ((Same.refl _ _).bu).pn (by omega)
 have g0 : S1.get S.next=some (.row [.int .i64 c.n,va,.slice oa c.old.length ocap,.int .i64 p] 41 true true):=by rw [← hS1]; simp
 clear hS1
 by_cases hl : p≤order.length
 ·have hl1 : (p≤order.length)=True:=eq_true hl
  have hl2 : ((p : Int)≤order.length)=True:=eq_true (by omega)
  obtain ⟨v1,f1,f2,f3⟩:=(k.stay0 s1).slc (lo:=none) (hi:=some (.int .i64 p)) (i:=0) (j:=p) (.inl ⟨rfl,rfl⟩) (.inr rfl) (by omega) hl
  obtain ⟨v2,f4,f5,f6⟩:=(h.old.stay0 s1).slc (lo:=none) (hi:=some (.int .i64 p)) (i:=0) (j:=p) (.inl ⟨rfl,rfl⟩) (.inr rfl) (by omega) (by omega)
  rw [List.drop_zero] at f2 f5
  simp [g0,hl1,hl2,f1,f4,undef]
  refine sameInts_ok f2 f5 ?_
  simp [g0,hl1,hl2,f1,f4,undef]
  have:=hq S1 s1
  simpa [hl] using this
 ·have hl2 : ¬ ((p : Int)≤order.length):=by omega
  simp [g0,hl,hl2,undef]
  have:=hq S1 s1
  simpa [hl] using this
theorem valid_eq {c : Chg} {order : List Int} (hc : c.check=0) : (ordOk c.cg.n order && (decide (c.cg.passed≤order.length) && decide (order.take c.cg.passed=c.old.take c.cg.passed)))=validR c order:=by
 unfold validR
 rw [if_pos hc]
 have ok:=check_ok hc
 cases ho : ordOk c.cg.n order with
 | false=>rfl
 | true=>
  have:=(ordOk_iff.1 ho).1
  have h1:=ok.olen
  have h2:=ok.cgOk.ps
  have e : c.cg.old=c.old:=rfl
  have e2 : c.cg.n=c.n.toNat:=rfl
  rw [e] at h2
  have : c.cg.passed≤order.length:=by omega
  simp [this]
theorem rCost_ok {S : AS} {va vo w : Value} {c : Chg} {order : List Int} (h : ChgAt S va vo c) (k : Is S w order) {Q : En→AS→Prop}
  (hq : ∀ S',Same S S' []→Q (.ret (.tuple #[.int .i64 (costV c order).1,.int .i64 (costV c order).2,.int .i64 (costE c order)])) S') : Call G 70 [c.val va vo,w] S Q:=by
 refine call_run' (G:=G) rfl (ext_none (by decide)) ?_
 simp [Chg.val]
 generalize hS1 : AS.put (AS.bump S 1) _ _=S1
 have s1 : Same S S1 []:=by rw [← hS1]; exact ((Same.refl _ _).bu).pn (by omega)
 have g0 : S1.get S.next=some (.row [.int .i64 c.n,va,vo,.int .i64 c.passed] 41 true true):=by rw [← hS1]; simp
 have hn1 : S1.next=S.next + 1:=by rw [← hS1]; simp
 clear hS1
 refine refCheckC_ok (h.stay0 s1) fun S2 hs2=>?_
 have hs02:=s1.tr0 hs2
 have hn2:=hs2.1
 have k0 : S2.get S.next=_:=(hs2.2 _ (by omega) (by simp)).trans g0
 by_cases hc : c.check=0
 ·have ok:=check_ok hc
  obtain ⟨n,hn⟩ : ∃ n : Nat,c.n=n:=⟨c.n.toNat,by have:=ok.n0; omega⟩
  have hcn : c.cg.n=n:=by show c.n.toNat=n; omega
  have h24:=ok.n1
  have hol:=ok.olen
  simp [hc,k0,hn]
  refine all86_ok (k.stay0 hs02) (by omega) ?_
  cases hoo : ordOk n order with
  | false=>
   simp [k0]
   have:=hq S2 hs02
   have e : costE c order=1:=by unfold costE; rw [if_neg (by simp [hc]),hcn,if_pos hoo]
   unfold costV at this
   rw [e,if_neg (by omega)] at this
   exact this
  | true=>
   simp [k0]
   rw [← hn]
   refine begins_ok (h.stay0 hs02) (k.stay0 hs02) ok fun S3 hs3=>?_
   have hs03:=hs02.tr0 hs3
   have hn3:=hs3.1
   have k03 : S3.get S.next=_:=(hs3.2 _ (by omega) (by simp)).trans k0
   have hv:=valid_eq (order:=order) hc
   rw [hcn,hoo,Bool.true_and] at hv
   rw [hv]
   obtain ⟨e1,e2,e3⟩:=ordOk_iff.1 hoo
   cases hvv : validR c order with
   | false=>
    simp
    have:=hq S3 hs03
    have e : costE c order=70:=by unfold costE; rw [if_neg (by simp [hc]),hcn,if_neg (by simp [hoo]),if_pos hvv]
    unfold costV at this
    rw [e,if_neg (by omega)] at this
    exact this
   | true=>
    simp [k03]
    refine roffence_ok (h.arrows.stay0 hs03) (k.stay0 hs03) (fun x y=>wt_bd (arrsOk_none ok.ar).1 x y) (by omega) fun S4 hs4=>?_
    have hs04:=hs03.tr0 hs4
    have k04 : S4.get S.next=_:=(hs4.2 _ (by omega) (by simp)).trans k03
    simp [k04]
    refine rmoved_ok (h.old.stay0 hs04) (k.stay0 hs04) e2 (by omega) (by omega) fun S5 hs5=>?_
    have hs05:=hs04.tr0 hs5
    have k05 : S5.get S.next=_:=(hs5.2 _ (by have:=hs4.1; omega) (by simp)).trans k04
    simp [k05]
    have e : costE c order=0:=by unfold costE; rw [if_neg (by simp [hc]),hcn,if_neg (by simp [hoo]),if_neg (by simp [hvv])]
    have:=hq S5 hs05
    unfold costV at this
    rw [e,if_pos rfl] at this
    exact this
 ·simp [hc]
  have:=hq S2 hs02
  have e : costE c order=c.check:=by unfold costE; rw [if_pos hc]
  unfold costV at this
  rw [e,if_neg hc] at this
  exact this
end Go.Gx.Z
