/-
  A procession that walks (no program in sight).
-/
import Derived.Test.YtnhaainnhmmbfaaGreatPz
set_option linter.all false
set_option linter.deprecated false
namespace Go.Gx.Z
open Go.Gx Go.Proofs
structure Stp where
 kind : Int
 guest : Int
 n : Int
 ar : List Arw
structure Wk where
 n : Int
 ar : List Arw
 order : List Int
 passed : Nat
def stayL (n : Nat) (g : Int) : List Int:=((List.range n).map fun (x : Nat)=>(x : Int)).filter fun x=>decide (x≠g)
def rsA (stay : List Int) (x : Arw) : Option Arw:=if x.f∈stay∧x.t∈stay then some ⟨ixI stay x.f,ixI stay x.t,x.r,x.w⟩ else none
def rsArr (stay : List Int) (l : List Arw) : List Arw:=l.filterMap (rsA stay)
def rsOld (stay : List Int) (l : List Int) : List Int:=l.filterMap fun x=>if x∈stay then some (ixI stay x) else none
section
variable {σ : Type}
def turnW (ch : σ→Chg→List Int × σ) (s : σ) (w : Wk) (n : Int) (ar : List Arw) (old : List Int) : Except Int (Wk × σ):=
 if (Chg.mk n ar old w.passed).check≠0 then .error (Chg.mk n ar old w.passed).check
 else .ok (⟨n,ar,(ch s ⟨n,ar,old,w.passed⟩).1,w.passed⟩,(ch s ⟨n,ar,old,w.passed⟩).2)
def passW (ch : σ→Chg→List Int × σ) (s : σ) (w : Wk) : Except Int (Wk × σ):=
 if w.passed < w.order.length then .ok (⟨w.n,w.ar,(ch s ⟨w.n,w.ar,w.order,-1⟩).1,w.passed + 1⟩,(ch s ⟨w.n,w.ar,w.order,-1⟩).2) else .error 5
def leaveW (ch : σ→Chg→List Int × σ) (s : σ) (w : Wk) (g : Int) : Except Int (Wk × σ):=
 if 0≤g∧g < w.n then
  if g∈w.order.take w.passed then .error 70
  else turnW ch s w (w.n - 1) (rsArr (stayL w.n.toNat g) w.ar) (rsOld (stayL w.n.toNat g) w.order)
 else .error 1
def renewW (ch : σ→Chg→List Int × σ) (s : σ) (w : Wk) (st : Stp) (more : Int) : Except Int (Wk × σ):=
 if checkR st.n st.ar≠0 then .error (checkR st.n st.ar)
 else if st.n=w.n + more then turnW ch s w st.n st.ar w.order else .error 1
def doW (ch : σ→Chg→List Int × σ) (s : σ) (w : Wk) (st : Stp) : Except Int (Wk × σ):=
 if st.kind=1 then passW ch s w else if st.kind=2 then leaveW ch s w st.guest else if st.kind=3 then renewW ch s w st 1 else if st.kind=4 then renewW ch s w st 0 else .error 1
end
theorem stayL_mem {n : Nat} {g x : Int} : x∈stayL n g↔(0≤x∧x < n)∧x≠g:=by
 unfold stayL
 simp only [List.mem_filter,List.mem_map,List.mem_range,decide_eq_true_eq]
 constructor
 ·rintro ⟨⟨i,h1,rfl⟩,h2⟩; exact ⟨by omega,h2⟩
 ·rintro ⟨h1,h2⟩; exact ⟨⟨x.toNat,by omega,by omega⟩,h2⟩
theorem stayL_sorted (n : Nat) (g : Int) : (stayL n g).Pairwise (· < ·):=by
 unfold stayL
 refine List.Pairwise.filter _ (List.pairwise_map.2 ?_)
 exact List.Pairwise.imp (fun h=>by omega) (List.pairwise_lt_range (n:=n))
theorem stayL_len {n : Nat} {g : Int} (h0 : 0≤g) (h1 : g < n) : (stayL n g).length=n - 1:=by
 have h2 : ((List.range n).map fun (x : Nat)=>(x : Int)).Nodup:=List.pairwise_map.2 ((List.nodup_range (n:=n)).imp fun h e=>h (by omega))
 have h3 : stayL n g=((List.range n).map fun (x : Nat)=>(x : Int)).erase g:=by
  rw [h2.erase_eq_filter]
  unfold stayL
  congr 1
  funext x
  simp only [bne,ne_eq,decide_not]
  congr 1
 rw [h3,List.length_erase_of_mem (List.mem_map.2 ⟨g.toNat,by simp; omega,by omega⟩)]
 simp
theorem sorted_ix {l : List Int} (hs : l.Pairwise (· < ·)) {x y : Int} (hx : x∈l) (hy : y∈l) : ixI l x < ixI l y↔x < y:=by
 obtain ⟨i,hi,h1,h2,_⟩:=ixI_some (ixI_mem.2 hx)
 obtain ⟨j,hj,k1,k2,_⟩:=ixI_some (ixI_mem.2 hy)
 rw [hi,hj]
 rw [List.getElem?_eq_getElem h1] at h2
 rw [List.getElem?_eq_getElem k1] at k2
 simp only [Option.some.injEq] at h2 k2
 rw [List.pairwise_iff_getElem] at hs
 subst h2
 subst k2
 constructor
 ·intro h; exact hs i j h1 k1 (by omega)
 ·intro h
  by_cases h3 : i < j
  ·omega
  ·by_cases h4 : i=j
   ·subst h4; omega
   ·have:=hs j i k1 h1 (by omega); omega
theorem sorted_ix_eq {l : List Int} (hs : l.Pairwise (· < ·)) {x y : Int} (hx : x∈l) (hy : y∈l) : ixI l x=ixI l y↔x=y:=by
 constructor
 ·intro h
  have h1:=sorted_ix hs hx hy
  have h2:=sorted_ix hs hy hx
  omega
 ·rintro rfl; rfl
theorem arrsOk_iff {N : Int} : ∀ {o : Option Arw} {l : List Arw},arrsOk N o l=true↔(∀ x∈l,arrOk N x=true)∧l.Pairwise (fun x y=>ltA x y=true)∧∀ y,o=some y→∀ x∈l,ltA y x=true
 | o,[]=>by cases o <;> simp [arrsOk]
 | none,x :: l=>by
  have ih:=@arrsOk_iff N (some x) l
  simp only [arrsOk,Bool.and_eq_true,ih,List.mem_cons,forall_eq_or_imp,List.pairwise_cons,reduceCtorEq,false_implies,implies_true,and_true,Option.some.injEq,forall_eq']
  constructor
  ·rintro ⟨h1,h2,h3,h4⟩; exact ⟨⟨h1,h2⟩,h4,h3⟩
  ·rintro ⟨⟨h1,h2⟩,h4,h3⟩; exact ⟨h1,h2,h3,h4⟩
 | some y,x :: l=>by
  have ih:=@arrsOk_iff N (some x) l
  simp only [arrsOk,Bool.and_eq_true,ih,List.mem_cons,forall_eq_or_imp,List.pairwise_cons,Option.some.injEq,forall_eq']
  constructor
  ·rintro ⟨⟨h1,h2⟩,h3,h4,h5⟩
   refine ⟨⟨h1,h3⟩,⟨h5,h4⟩,h2,fun z hz=>?_⟩
   have:=h5 z hz
   unfold ltA at *
   simp only [decide_eq_true_eq] at *
   omega
  ·rintro ⟨⟨h1,h3⟩,⟨h5,h4⟩,h2,_⟩; exact ⟨⟨h1,h2⟩,h3,h4,h5⟩
theorem rsA_some {stay : List Int} {x y : Arw} (h : rsA stay x=some y) : (x.f∈stay∧x.t∈stay)∧y=⟨ixI stay x.f,ixI stay x.t,x.r,x.w⟩:=by
 unfold rsA at h
 split at h
 ·rename_i h1; exact ⟨h1,by simpa using h.symm⟩
 ·cases h
theorem rsArr_pw {stay : List Int} (hs : stay.Pairwise (· < ·)) {l : List Arw} (hl : l.Pairwise fun x y=>ltA x y=true) : (rsArr stay l).Pairwise fun x y=>ltA x y=true:=by
 unfold rsArr
 rw [List.pairwise_filterMap]
 refine hl.imp ?_
 intro x y hxy u hu v hv
 obtain ⟨⟨h1,h2⟩,rfl⟩:=rsA_some hu
 obtain ⟨⟨k1,k2⟩,rfl⟩:=rsA_some hv
 unfold ltA at *
 simp only [decide_eq_true_eq] at *
 have e1:=sorted_ix hs h1 k1
 have e2:=sorted_ix_eq hs h1 k1
 have e3:=sorted_ix hs h2 k2
 rcases hxy with h | ⟨h,h'⟩
 ·exact .inl (e1.2 h)
 ·exact .inr ⟨e2.2 h,e3.2 h'⟩

set_option maxRecDepth 100000
set_option maxHeartbeats 4000000
abbrev rfs (e : Int) : Value:=.iface 112 (.int .i64 e)
theorem unless_ok {S : AS} {b : Bool} {e : Int} {Q : En→AS→Prop} (h1 : b=true→Q (.ret (.tuple #[])) S) (h2 : b=false→Q (.panic (rfs e)) S) : Call G 54 [.bool b,.int .i64 e] S Q:=by
 refine call_run' (G:=G) rfl (ext_none (by decide)) ?_
 cases b with
 | true=>simp; exact h1 rfl
 | false=>simp; exact h2 rfl
theorem right_ok {S : AS} {e : Int} {Q : En→AS→Prop} (h1 : e=0→Q (.ret (.tuple #[])) S) (h2 : e≠0→Q (.panic (rfs e)) S) : Call G 52 [.int .i64 e] S Q:=by
 refine call_run' (G:=G) rfl (ext_none (by decide)) ?_
 simp
 refine unless_ok (fun h=>?_) (fun h=>?_)
 ·simp; exact h1 (by simpa using h)
 ·simp; exact h2 (by simpa using h)
def aq (x : Arw) : Q4:=(x.f,x.t,x.r,x.w)
theorem aq_cells (l : List Arw) : (l.map aq).map q4C=l.map Arw.cells:=by rw [List.map_map]; rfl
theorem Qs.as {S : AS} {v : Value} {l : List Arw} (h : Qs S 86 v (l.map aq)) (hl : l.length≤100000) : As S v l:=⟨by rw [← aq_cells]; exact h.ps (by simpa using hl),by omega⟩
theorem Qs.lt {S : AS} {t : TypeId} {v : Value} {l : List Q4} (h : Qs S t v l) : ∀ m∈ownsOf v,m < S.next:=SlAt.owns_lt h
def aqd (x : Arw) : Qd:=((x.f,x.t),(x.r,x.w))
theorem aqd_flat (l : List Arw) : ((l.map aq).map q4C).flatten=flat4 (l.map aqd):=by
 rw [flat4,List.flatMap_def,List.map_map,List.map_map]; rfl
theorem lt_le4 {x y : Arw} (h : ltA x y=true) : le4 (aqd x) (aqd y)=true:=by
 unfold ltA at h
 unfold le4 le2 aqd
 simp only [decide_eq_true_eq] at *
 omega
theorem sortArr_ok {S : AS} {v : Value} {l : List Arw} (h : Qs S 86 v (l.map aq)) (hs : l.Pairwise fun x y=>ltA x y=true) (hl : l.length≤100000) {Q : En→AS→Prop}
  (hq : ∀ S',Same S S' (ownsOf v)→S'.next=S.next→Qs S' 86 v (l.map aq)→Q (.ret (.tuple #[])) S') : Call G 97 [v,.func (.func 80) #[] #[]] S Q:=by
 have hsort : (l.map aqd).mergeSort le4=l.map aqd:=List.mergeSort_of_pairwise (List.pairwise_map.2 (hs.imp lt_le4))
 have hnd : ((l.map aqd).map (·.1)).Nodup:=by
  rw [List.map_map]
  refine List.pairwise_map.2 (hs.imp ?_)
  intro x y hxy e
  unfold ltA at hxy
  simp only [decide_eq_true_eq,Function.comp,aqd,Prod.mk.injEq] at hxy e
  omega
 by_cases h0 : l=[]
 ·subst h0
  have : ∃ x,asortV 80 86 [v,.func (.func 80) #[] #[]] S=some (.tuple #[],S):=⟨(),by
   rcases h with ⟨rfl,_⟩ | ⟨p,ex,rfl,_,_⟩ <;> simp [asortV]⟩
  obtain ⟨_,hx⟩:=this
  exact call_ext (arr_ext hx) (hq S (.refl _ _) rfl h)
 ·rcases h with ⟨_,hn⟩ | ⟨p,ex,rfl,g1,g2⟩
  ·exact absurd (by simpa using hn) h0
  ·have hpos : l.length≠0:=fun h=>h0 (List.length_eq_zero_iff.1 h)
   rw [aqd_flat] at g1
   have hx : asortV 80 86 [.slice (some ⟨p,0,none⟩) ((l.map aq).map q4C).length ((l.map aq).map q4C).length,.func (.func 80) #[] #[]] S=some (.tuple #[],S.put p (.row (flat4 (l.map aqd)) 86 true ex)):=by
    have e0 : (flat4 (l.map aqd)).length=l.length * 4:=by rw [flat4_len,List.length_map]
    have e1 : ((flat4 (l.map aqd)).drop 0).take (l.length * 4)=flat4 (l.map aqd):=by rw [List.drop_zero,← e0,List.take_length]
    have e2 : splice (flat4 (l.map aqd)) 0 (flat4 (l.map aqd))=flat4 (l.map aqd):=by
     unfold splice
     rw [List.drop_eq_nil_of_le (by omega)]
     simp
    unfold asortV
    simp only [List.length_map]
    rw [if_pos ⟨trivial,trivial,trivial,by omega⟩,if_neg hpos,g1]
    simp only []
    rw [if_pos ⟨trivial,by rw [e0]; omega⟩,e1,unflat4_flat]
    simp only []
    rw [if_pos hnd,hsort,e2]
   refine call_ext (arr_ext hx) (hq _ ?_ rfl ?_)
   ·refine (Same.refl _ _).po (by simp [ownsOf])
   ·exact .inr ⟨p,ex,rfl,by rw [AS.get_put_self,aqd_flat],by simpa using g2⟩

def plS (stay : List Int) (i : Nat) : Int→Option Value:=fun x=>if x∈stay.take i then some (.int .i64 (ixI stay x)) else none
theorem plS_step {stay : List Int} (hs : stay.Pairwise (· < ·)) {i : Nat} (hi : i < stay.length) : upd1 (plS stay i) stay[i] (.int .i64 i)=plS stay (i + 1):=by
 funext x
 unfold upd1 plS
 rw [List.take_add_one,List.getElem?_eq_getElem hi]
 simp only [Option.toList_some,List.mem_append,List.mem_singleton]
 by_cases h : x=stay[i]
 ·subst h
  simp only [or_true,if_true]
  congr 2
  obtain ⟨j,hj,h1,h2,_⟩:=ixI_some (ixI_mem.2 (List.getElem_mem hi))
  rw [hj]
  rw [List.getElem?_eq_getElem h1] at h2
  simp only [Option.some.injEq] at h2
  rw [List.pairwise_iff_getElem] at hs
  by_cases c1 : i < j
  ·have:=hs i j hi h1 c1; omega
  ·by_cases c2 : j < i
   ·have:=hs j i h1 hi c2; omega
   ·congr 1; omega
 ·simp [h]
theorem take_notin {stay : List Int} (hs : stay.Pairwise (· < ·)) {i : Nat} (hi : i < stay.length) : stay[i]∉stay.take i:=by
 intro h
 obtain ⟨j,hj,e⟩:=List.mem_iff_getElem.1 h
 simp only [List.length_take] at hj
 rw [List.getElem_take] at e
 rw [List.pairwise_iff_getElem] at hs
 have:=hs j i (by omega) hi (by omega)
 omega
theorem rsArr_step {stay : List Int} {l : List Arw} {i : Nat} (hi : i < l.length) : rsArr stay (l.take (i + 1))=rsArr stay (l.take i) ++ (if l[i].f∈stay∧l[i].t∈stay then [⟨ixI stay l[i].f,ixI stay l[i].t,l[i].r,l[i].w⟩] else []):=by
 unfold rsArr
 rw [List.take_add_one,List.getElem?_eq_getElem hi,List.filterMap_append]
 congr 1
 simp only [Option.toList_some,List.filterMap_cons,List.filterMap_nil,rsA]
 split <;> rename_i h <;> split at h <;> simp_all
theorem rsArr_len (stay : List Int) (l : List Arw) : (rsArr stay l).length≤l.length:=List.length_filterMap_le _ _
theorem restrict_ok {S : AS} {va w : Value} {n : Nat} {l : List Arw} {stay : List Int} (h : As S va l) (k : Is S w stay) (hc : checkR n l=0) (hl : l.length≤100000) (hs : stay.Pairwise (· < ·)) (hb : ∀ x∈stay,0≤x∧x < n) (hsl : stay.length≤100000)
  {Q : En→AS→Prop} (hq : ∀ S' v,Same S S' []→As S' v (rsArr stay l)→(∀ m∈ownsOf v,S.next≤m)→Q (.ret (.tuple #[.agg #[.int .i64 stay.length,v],.int .i64 0])) S') : Call G 81 [.agg #[.int .i64 n,va],w] S Q:=by
 obtain ⟨aa,acap,rfl⟩:=h.shape
 obtain ⟨ka,kcap,rfl⟩:=k.shape
 obtain ⟨hN0,hN1,har⟩:=checkR_pos hc
 refine call_run' (G:=G) rfl (ext_none (by decide)) ?_
 simp
 generalize hS1 : AS.put (AS.put (AS.bump S 2) _ _) _ _=S1
 have s1 : Same S S1 []:=by rw [← hS1]; exact (((Same.refl _ _).bu).pn (by omega)).pn (by omega)
 have g0 : S1.get S.next=some (.row [.int .i64 n,.slice aa l.length acap] 24 true true):=by rw [← hS1]; simp
 have g1 : S1.get (S.next + 1)=some (.row [.int .i64 0,.slice none 0 0] 24 true true):=by rw [← hS1]; simp
 have hn1 : S1.next=S.next + 2:=by rw [← hS1]; simp
 clear hS1
 refine rankCheck_ok (h.stay0 s1) fun S2 hs2=>?_
 rw [hc]
 have t0 : S2.get S.next=_:=(hs2.2 _ (by omega) (by simp)).trans g0
 have t1 : S2.get (S.next + 1)=_:=(hs2.2 _ (by omega) (by simp)).trans g1
 have hs02:=s1.tr0 hs2
 have hn2:=hs2.1
 simp
 generalize hS3 : AS.put (AS.bump S2 1) _ _=S3
 have s3 : Same S2 S3 []:=by rw [← hS3]; exact ((Same.refl _ _).bu).pn (by omega)
 have m3 : MapAt S3 S2.next [.int .i64] false (fun x : Int=>Value.int .i64 x) (plS stay 0):=by
  refine ⟨[],0,by rw [← hS3]; simp,?_⟩
  have : plS stay 0=fun _=>none:=by funext x; simp [plS]
  rw [this]
  exact Fnd.nil
 have hn3 : S3.next=S2.next + 1:=by rw [← hS3]; simp
 clear hS3
 have t30:=(s3.2 _ (by omega) (by simp)).trans t0
 have t31:=(s3.2 _ (by omega) (by simp)).trans t1
 have hs03:=hs02.tr0 s3
 refine run_loop (fun j a' S'=>∃ i,j=stay.length - i∧i≤stay.length∧Same S S' []∧S'.next=S3.next∧S'.get S.next=some (.row [.int .i64 n,.slice aa l.length acap] 24 true true)∧S'.get (S.next + 1)=some (.row [.int .i64 0,.slice none 0 0] 24 true true) ∧
   MapAt S' S2.next [.int .i64] false (fun x : Int=>Value.int .i64 x) (plS stay i)∧Has a' 97 [(1,.slice ka stay.length kcap),(2,ptr S.next),(4,ptr (S.next + 1)),(7,.map (some S2.next)),(26,.slice ka stay.length kcap),(27,.int .i64 stay.length),(28,.int .i64 i)]) _
  ⟨0,rfl,by omega,hs03,rfl,t30,t31,m3,⟨rfl,rfl,by simp⟩⟩ ?_
 rintro _ R hR _ S4 ⟨i,rfl,hi,hs4,hn4,q0,q1,hm,hA⟩
 obtain ⟨x,rfl⟩:=hA.lit
 have k4:=k.stay0 hs4
 by_cases hlt : i < stay.length
 ·obtain ⟨p,o,cells,e,wr,ex,h1,h2,h3,h4,h5⟩:=k4.at hlt
  have hlt' : (i : Int) < stay.length:=by omega
  have hwS:=wrapS (show i < 9223372036854775807 by omega)
  have hxb:=hb _ (List.getElem_mem hlt)
  have hw1 : IntKind.i64.wrap ((n : Int) - 1)=(n : Int) - 1:=wrap64 (by omega) (by omega)
  simp [fillF,pickL,hlt,hlt',h1,h2,h5,q0,hw1]
  refine in_ok ?_
  rw [decide_eq_true (by omega : 0≤stay[i]∧stay[i]≤(n : Int) - 1)]
  have hnone : plS stay i stay[i]=none:=by unfold plS; rw [if_neg (take_notin hs hlt)]
  have hlk:=hm.look keyInt stay[i] (.int .i64 0) true
  rw [hnone] at hlk
  simp [-lookE_map,-msetE_map,hlk]
  obtain ⟨ob,e1,e2⟩:=hm.mset keyInt stay[i] (.int .i64 i)
  simp [-msetE_map,e1]
  rw [plS_step hs hlt] at e2
  refine hR _ _ _ (by omega) ⟨i + 1,rfl,by omega,hs4.pn (by omega),by simpa using hn4,by rw [AS.get_put_ne _ _ (by omega)]; exact q0,by rw [AS.get_put_ne _ _ (by omega)]; exact q1,e2,⟨rfl,rfl,by simp [hwS]⟩⟩
 ·obtain rfl : i=stay.length:=by omega
  simp [fillF,pickL,placeIn,splice,rowStore,okc]
  generalize hS5 : AS.put (AS.put (AS.bump S4 1) _ _) _ _=S5
  have s5 : Same S4 S5 []:=by rw [← hS5]; exact (((Same.refl _ _).bu).pn (by omega)).pn (by omega)
  have p5 : S5.get S4.next=some (.row [.int .i64 stay.length,.slice none 0 0] 24 true true):=by rw [← hS5]; simp
  have hn5 : S5.next=S4.next + 1:=by rw [← hS5]; simp
  have m5 : MapAt S5 S2.next [.int .i64] false (fun x : Int=>Value.int .i64 x) (plS stay stay.length):=by
   obtain ⟨es,c,e1,e2⟩:=hm
   exact ⟨es,c,(s5.2 _ (by omega) (by simp)).trans e1,e2⟩
  clear hS5
  have q50:=(s5.2 _ (by omega) (by simp)).trans q0
  have q51:=(s5.2 _ (by omega) (by simp)).trans q1
  have hs05:=hs4.tr0 s5
  simp [q50]
  refine run_loop (fun j a' S'=>∃ i v,j=l.length - i∧i≤l.length∧Same S S' []∧S5.next≤S'.next∧S'.get S.next=some (.row [.int .i64 n,.slice aa l.length acap] 24 true true)∧S'.get (S.next + 1)=some (.row [.int .i64 0,.slice none 0 0] 24 true true) ∧
    MapAt S' S2.next [.int .i64] false (fun x : Int=>Value.int .i64 x) (plS stay stay.length)∧S'.get S4.next=some (.row [.int .i64 stay.length,v] 24 true true)∧Qs S' 86 v ((rsArr stay (l.take i)).map aq)∧(∀ m∈ownsOf v,S5.next≤m) ∧
    Has a' 97 [(2,ptr S.next),(4,ptr (S.next + 1)),(7,.map (some S2.next)),(12,ptr S4.next),(56,.slice aa l.length acap),(57,.int .i64 l.length),(58,.int .i64 i)]) _
   ⟨0,_,rfl,by omega,hs05,by omega,q50,q51,m5,p5,by simpa [rsArr] using Qs.nil,by simp [ownsOf],⟨rfl,rfl,by simp⟩⟩ ?_
  rintro _ R hR _ S6 ⟨i,v,rfl,hi,hs6,hn6,r0,r1,hm6,r2,hv,hown,hA⟩
  obtain ⟨x,rfl⟩:=hA.lit
  have h6:=h.stay0 hs6
  obtain ⟨va',hvs⟩:=hv.shape
  have hrl:=rsArr_len stay (l.take i)
  rw [List.length_take] at hrl
  by_cases hlt : i < l.length
  ·have hps : Ps S6 4 (.slice aa l.length acap) ((l.map aq).map q4C):=by rw [aq_cells]; exact h6.ps
   obtain ⟨p,o,cells,e,wr,ex,h1,h2,h3,h4,h5,_⟩:=q4_at hps (i:=i) (by simpa using hlt)
   have hlt' : (i : Int) < l.length:=by omega
   have hwS:=wrapS (show i < 9223372036854775807 by omega)
   have hst:=rsArr_step (stay:=stay) hlt
   simp at h5
   generalize l[i]=y at h5 hst
   obtain ⟨yf,yt,yr,yw⟩:=y
   simp [-lookE_map,fillF,pickL,hlt,hlt',h1,h2,h5,aq,q4C,placeIn,splice,rowStore,okc]
   generalize hS7 : AS.put (AS.put (AS.bump S6 1) _ _) _ _=S7
   have s7 : Same S6 S7 []:=by rw [← hS7]; exact (((Same.refl _ _).bu).pn (by omega)).pn (by omega)
   have p7 : S7.get S6.next=some (.row [.int .i64 yf,.int .i64 yt,.int .i64 yr,.int .i64 yw] 86 true true):=by rw [← hS7]; simp
   have hn7 : S7.next=S6.next + 1:=by rw [← hS7]; simp
   clear hS7
   have m7 : MapAt S7 S2.next [.int .i64] false (fun x : Int=>Value.int .i64 x) (plS stay stay.length):=by
    obtain ⟨es,c,e1,e2⟩:=hm6
    exact ⟨es,c,(s7.2 _ (by omega) (by simp)).trans e1,e2⟩
   have t0:=(s7.2 _ (by omega) (by simp)).trans r0
   have t1:=(s7.2 _ (by omega) (by simp)).trans r1
   have t2:=(s7.2 _ (by omega) (by simp)).trans r2
   have l1:=m7.look keyInt yf (.int .i64 0) true
   have l2:=m7.look keyInt yt (.int .i64 0) true
   have hpl : ∀ z,plS stay stay.length z=if z∈stay then some (.int .i64 (ixI stay z)) else none:=fun z=>by unfold plS; rw [List.take_length]
   rw [hpl] at l1 l2
   simp only at hst
   by_cases c1 : yf∈stay
   ·simp [-lookE_map,c1] at l1
    by_cases c2 : yt∈stay
    ·simp [-lookE_map,c2] at l2
     simp [c1,c2] at hst
     simp [-lookE_map,l1,p7,l2,t2,placeIn,splice]
     obtain ⟨T',f1,f2,f3,f4⟩:=(hv.stay0 s7).app1 (T:=(S7.bump 2).put S7.next (.row [.int .i64 (ixI stay yf),.int .i64 (ixI stay yt),.int .i64 yr,.int .i64 yw] 86 true true)) (p:=S7.next) (fr:=S7.next + 1) (a:=(ixI stay yf,ixI stay yt,yr,yw)) (wr:=true) (ex:=true)
      (((Same.refl _ _).bu).pn (by omega)) (by rw [AS.get_put_self]; rfl) (by simp) (by omega) (by simp; omega)
     have hlen : ((rsArr stay (l.take i)).map aq).length=(rsArr stay (l.take i)).length:=by simp
     rw [hlen] at f1 f2
     simp only [f1]
     have u0 : T'.get S.next=_:=(f3.2 _ (by omega) (fun hm=>by have:=hown _ hm; omega)).trans t0
     have u1 : T'.get (S.next + 1)=_:=(f3.2 _ (by omega) (fun hm=>by have:=hown _ hm; omega)).trans t1
     have u2 : T'.get S4.next=_:=(f3.2 _ (by omega) (fun hm=>by have:=hown _ hm; omega)).trans t2
     have u3 : MapAt T' S2.next [.int .i64] false (fun x : Int=>Value.int .i64 x) (plS stay stay.length):=by
      obtain ⟨es,c,e1,e2⟩:=m7
      exact ⟨es,c,(f3.2 _ (by omega) (fun hm=>by have:=hown _ hm; omega)).trans e1,e2⟩
     have hT : S7.next + 2≤T'.next:=by rw [f4]; simp
     simp [u2,rowStore,okc,splice]
     refine hR _ _ _ (by omega) ⟨i + 1,.slice (some ⟨S7.next + 1,0,none⟩) ((rsArr stay (l.take i)).length + 1) ((rsArr stay (l.take i)).length + 1),rfl,by omega,?_,by simp; omega,?_,?_,?_,?_,?_,?_,⟨rfl,rfl,by simp [hwS]⟩⟩
     ·exact ((hs6.tr0 s7).trans f3 (fun m hm hl=>by have:=hown _ hm; omega)).pn (by omega)
     ·rw [AS.get_put_ne _ _ (by omega)]; exact u0
     ·rw [AS.get_put_ne _ _ (by omega)]; exact u1
     ·obtain ⟨es,c,e1,e2⟩:=u3
      exact ⟨es,c,by rw [AS.get_put_ne _ _ (by omega)]; exact e1,e2⟩
     ·rw [AS.get_put_self]
     ·rw [hst,List.map_append]
      refine f2.stays (fp:=[S4.next]) ((Same.refl _ _).po (by simp)) ?_
      simp [ownsOf]; omega
     ·simp [ownsOf]; omega
    ·simp [-lookE_map,c2] at l2
     simp [c2] at hst
     simp [-lookE_map,l1,p7,l2]
     refine hR _ _ _ (by omega) ⟨i + 1,v,rfl,by omega,hs6.tr0 s7,by omega,t0,t1,m7,t2,by rw [hst]; exact hv.stay0 s7,hown,⟨rfl,rfl,by simp [hwS]⟩⟩
   ·simp [-lookE_map,c1] at l1
    simp [c1] at hst
    by_cases c2 : yt∈stay
    ·simp [-lookE_map,c2] at l2
     simp [-lookE_map,l1,p7,l2]
     refine hR _ _ _ (by omega) ⟨i + 1,v,rfl,by omega,hs6.tr0 s7,by omega,t0,t1,m7,t2,by rw [hst]; exact hv.stay0 s7,hown,⟨rfl,rfl,by simp [hwS]⟩⟩
    ·simp [-lookE_map,c2] at l2
     simp [-lookE_map,l1,p7,l2]
     refine hR _ _ _ (by omega) ⟨i + 1,v,rfl,by omega,hs6.tr0 s7,by omega,t0,t1,m7,t2,by rw [hst]; exact hv.stay0 s7,hown,⟨rfl,rfl,by simp [hwS]⟩⟩
  ·obtain rfl : i=l.length:=by omega
   rw [List.take_length] at hv hvs
   rw [List.length_map] at hvs
   subst hvs
   simp [fillF,pickL,r2]
   refine sortArr_ok hv (rsArr_pw hs (arrsOk_iff.1 har).2.1) (by have:=rsArr_len stay l; omega) fun S7 hs7 hn7 hv7=>?_
   have t1:=(hs7.2 _ (by omega) (fun hm=>by have:=hown _ hm; omega)).trans r1
   have t2:=(hs7.2 _ (by omega) (fun hm=>by have:=hown _ hm; omega)).trans r2
   simp [t1,t2,rowStore,okc,splice]
   have hs70 : Same S S7 []:=hs6.trans hs7 (fun m hm hl=>by have:=hown _ hm; omega)
   refine hq _ _ (hs70.pn (by omega)) ((hv7.as (by have:=rsArr_len stay l; omega)).stays (fp:=[S.next + 1]) ((Same.refl _ _).po (by simp)) (fun m hm=>?_)) (fun m hm=>by have:=hown _ hm; omega)
   have:=hown _ hm
   simp; omega
end Go.Gx.Z
