/-
  The reference's next state of a procession.
-/
import Derived.Test.YtnhaainnhmmbfaaGreatZa
set_option linter.all false
set_option linter.deprecated false
namespace Go.Gx.Z
open Go.Gx Go.Proofs
set_option maxRecDepth 100000
set_option maxHeartbeats 4000000
theorem stayL_lenI (g : Int) (h0 : 0≤g) : ∀ n : Nat,(stayL n g).length=if (n : Int)≤g then n else n - 1
 | 0=>by simp [stayL]
 | n + 1=>by
  rw [stayL_step,List.length_append,stayL_lenI g h0 n]
  by_cases c1 : (n : Int)≤g
  ·rw [if_pos c1]
   by_cases c2 : (n : Int)=g
   ·rw [if_neg (fun h=>h c2),if_neg (by omega)]
    simp
   ·rw [if_pos c2,if_pos (by omega)]
    simp
  ·rw [if_neg c1,if_pos (by omega),if_neg (by omega)]
   simp
   omega
theorem stayLg (g : Int) (h0 : 0≤g) : ∀ (n i : Nat),i < (stayL n g).length→(stayL n g)[i]?=some (if (i : Int) < g then (i : Int) else i + 1)
 | 0,i,h=>by simp [stayL] at h
 | n + 1,i,h=>by
  rw [stayL_step] at h ⊢
  have hl:=stayL_lenI g h0 n
  by_cases hi : i < (stayL n g).length
  ·rw [List.getElem?_append_left hi]
   exact stayLg g h0 n i hi
  ·by_cases c2 : (n : Int)=g
   ·rw [if_neg (fun h=>h c2),List.append_nil] at h; omega
   ·rw [if_pos c2,List.length_append] at h
    simp at h
    rw [if_pos c2,List.getElem?_append_right (by omega)]
    obtain rfl : i=(stayL n g).length:=by omega
    simp only [Nat.sub_self,List.getElem?_cons_zero,Option.some.injEq]
    split at hl
    ·rw [if_pos (by omega)]; omega
    ·rw [if_neg (by omega)]; omega
theorem stayL_ix {n : Nat} {g x : Int} (h0 : 0≤g) (h : x∈stayL n g) : ixI (stayL n g) x=if g < x then x - 1 else x:=by
 obtain ⟨i,hi,rfl⟩:=List.mem_iff_getElem.1 h
 rw [ix_at (stayL_sorted n g) hi]
 have:=stayLg g h0 n i hi
 rw [List.getElem?_eq_getElem hi] at this
 simp only [Option.some.injEq] at this
 rw [this]
 split <;> split <;> omega
def lvX (g x : Int) : Option Int:=if g < x then some (x - 1) else if x < g then some x else none
def lvOld (g : Int) (l : List Int) : List Int:=l.filterMap (lvX g)
theorem lvOld_eq {n : Nat} {g : Int} (h0 : 0≤g) {l : List Int} (hl : ∀ x∈l,0≤x∧x < n) : rsOld (stayL n g) l=lvOld g l:=by
 have fc : ∀ {f h : Int→Option Int} (l : List Int),(∀ x∈l,f x=h x)→l.filterMap f=l.filterMap h:=by
  intro f h l
  induction l with
  | nil=>intro _; rfl
  | cons x l ih=>
   intro k
   rw [List.filterMap_cons,List.filterMap_cons,k x (List.mem_cons_self ..),ih fun y hy=>k y (List.mem_cons_of_mem _ hy)]
 unfold rsOld lvOld
 refine fc _ fun x hx=>?_
 have hb:=hl x hx
 unfold lvX
 by_cases c : x=g
 ·subst c
  rw [if_neg (fun h=>(stayL_mem.1 h).2 rfl),if_neg (by omega),if_neg (by omega)]
 ·have hm : x∈stayL n g:=stayL_mem.2 ⟨hb,c⟩
  rw [if_pos hm,stayL_ix h0 hm]
  by_cases c1 : g < x
  ·rw [if_pos c1,if_pos c1]
  ·rw [if_neg c1,if_neg c1,if_pos (by omega)]
theorem lvOld_step {g : Int} {l : List Int} {i : Nat} (hi : i < l.length) : lvOld g (l.take (i + 1))=lvOld g (l.take i) ++ (lvX g l[i]).toList:=by
 unfold lvOld
 rw [List.take_add_one,List.getElem?_eq_getElem hi,List.filterMap_append]
 congr 1
 all_goals (simp only [Option.toList_some,List.filterMap_cons,List.filterMap_nil])
 all_goals (cases lvX g l[i] <;> rfl)
theorem lvOld_len (g : Int) (l : List Int) : (lvOld g l).length≤l.length:=List.length_filterMap_le _ _

def chO : Unit→Chg→List Int × Unit:=fun _ c=>(c.old,())
def colV (w : Wk) (va vo : Value) : Value:=.agg #[.int .i64 w.n,va,vo,.int .i64 w.passed]
def NextE (S : AS) (va vo sv : Value) (w : Wk) (Q : En→AS→Prop) : Except Int (Wk × Unit)→Prop
 | .error e=>∀ S' n x y p ax nx cx ay ny cy,Same S S' []→x=.slice ax nx cx→y=.slice ay ny cy→Q (.ret (.tuple #[.agg #[.int .i64 n,x,y,.int .i64 p],.int .i64 e])) S'
 | .ok (w',_)=>∀ S' va' vo',Same S S' []→As S' va' w'.ar→Is S' vo' w'.order→(∀ m∈ownsOf va',m∈ownsOf va∨m∈ownsOf sv∨S.next≤m)→(∀ m∈ownsOf vo',m∈ownsOf vo∨S.next≤m)→Q (.ret (.tuple #[colV w' va' vo',.int .i64 0])) S'
theorem rnext_pass {S : AS} {va vo sv : Value} {w : Wk} {st : Stp} (ha : As S va w.ar) (ho : Is S vo w.order) (hp : w.passed≤w.order.length) (hsm : w.order.length≤100000) (hl : (w.order.length : Int)=w.n) (hs : As S sv st.ar) (c1 : st.kind=1) {Q : En→AS→Prop}
  (hq : NextE S va vo sv w Q (doW chO () w st)) : Call G 27 [colV w va vo,st.val sv] S Q:=by
 obtain ⟨oa,ocap,rfl⟩:=ho.shape
 obtain ⟨ra,rcap,rfl⟩:=ha.shape
 obtain ⟨sa,scap,rfl⟩:=hs.shape
 refine call_run' (G:=G) rfl (ext_none (by decide)) ?_
 simp [colV,Stp.val]
 generalize hS1 : AS.put _ _ _=S1
 have s1 : Same S S1 []:=by rw [← hS1]; exact ((((Same.refl _ _).bu).pn (by omega)).pn (by omega)).pn (by omega)
 have g0 : S1.get S.next=some (.row [.int .i64 w.n,.slice ra w.ar.length rcap,.slice oa w.order.length ocap,.int .i64 w.passed] 73 true true):=by rw [← hS1,AS.get_put_ne _ _ (by omega),AS.get_put_ne _ _ (by omega),AS.get_put_self]
 have g1 : S1.get (S.next + 1)=some (.row [.int .u8 st.kind,.int .i64 st.guest,.int .i64 st.n,.slice sa st.ar.length scap] 38 true true):=by rw [← hS1]; simp
 have g2 : S1.get (S.next + 2)=some (.row [.int .i64 0,.slice none 0 0,.slice none 0 0,.int .i64 0] 73 true true):=by rw [← hS1]; exact AS.get_put_self _ _ _
 have hnx : S1.next=S.next + 3:=by rw [← hS1]; rfl
 clear hS1
 unfold doW passW at hq
 rw [if_pos c1] at hq
 simp [c1,g0,g1]
 by_cases h : w.passed < w.order.length
 ·rw [if_pos h] at hq
  have hwS:=wrapS (show w.passed < 9223372036854775807 by omega)
  have h' : ¬ w.n≤w.passed:=by omega
  simp [g0,g2,h',placeIn,splice,rowStore,okc,hwS]
  generalize hS2 : AS.put _ _ _=S2
  have s2 : Same S S2 []:=by rw [← hS2]; exact s1.pn (by omega)
  exact hq S2 _ _ s2 (ha.stay0 s2) (ho.stay0 s2) (fun m hm=>.inl hm) (fun m hm=>.inl hm)
 ·rw [if_neg h] at hq
  have h' : w.n≤w.passed:=by omega
  simp [g0,g2,h',placeIn,splice,rowStore,okc]
  generalize hS2 : AS.put _ _ _=S2
  have s2 : Same S S2 []:=by rw [← hS2]; exact s1.pn (by omega)
  exact hq S2 _ _ _ _ _ _ _ _ _ _ s2 rfl rfl
theorem rnext_other {S : AS} {va vo sv : Value} {w : Wk} {st : Stp} (ha : As S va w.ar) (ho : Is S vo w.order) (hs : As S sv st.ar) (c1 : ¬ st.kind=1) (c2 : ¬ st.kind=2) (c3 : ¬ st.kind=3) (c4 : ¬ st.kind=4) {Q : En→AS→Prop}
  (hq : NextE S va vo sv w Q (doW chO () w st)) : Call G 27 [colV w va vo,st.val sv] S Q:=by
 obtain ⟨oa,ocap,rfl⟩:=ho.shape
 obtain ⟨ra,rcap,rfl⟩:=ha.shape
 obtain ⟨sa,scap,rfl⟩:=hs.shape
 refine call_run' (G:=G) rfl (ext_none (by decide)) ?_
 simp [colV,Stp.val]
 generalize hS1 : AS.put _ _ _=S1
 have s1 : Same S S1 []:=by rw [← hS1]; exact ((((Same.refl _ _).bu).pn (by omega)).pn (by omega)).pn (by omega)
 have g0 : S1.get S.next=some (.row [.int .i64 w.n,.slice ra w.ar.length rcap,.slice oa w.order.length ocap,.int .i64 w.passed] 73 true true):=by rw [← hS1,AS.get_put_ne _ _ (by omega),AS.get_put_ne _ _ (by omega),AS.get_put_self]
 have g1 : S1.get (S.next + 1)=some (.row [.int .u8 st.kind,.int .i64 st.guest,.int .i64 st.n,.slice sa st.ar.length scap] 38 true true):=by rw [← hS1]; simp
 have g2 : S1.get (S.next + 2)=some (.row [.int .i64 0,.slice none 0 0,.slice none 0 0,.int .i64 0] 73 true true):=by rw [← hS1]; exact AS.get_put_self _ _ _
 have hnx : S1.next=S.next + 3:=by rw [← hS1]; rfl
 clear hS1
 unfold doW at hq
 rw [if_neg c1,if_neg c2,if_neg c3,if_neg c4] at hq
 simp [c1,c2,c3,c4,g2,placeIn,splice,rowStore,okc]
 generalize hS2 : AS.put _ _ _=S2
 have s2 : Same S S2 []:=by rw [← hS2]; exact s1.pn (by omega)
 exact hq S2 _ _ _ _ _ _ _ _ _ _ s2 rfl rfl
theorem rnext_renew {S : AS} {va vo sv : Value} {w : Wk} {st : Stp} (ha : As S va w.ar) (ho : Is S vo w.order) (hck : checkR w.n w.ar=0) (hp : w.passed≤w.order.length) (hsm : w.order.length≤100000) (hs : As S sv st.ar) (hn1 : -9223372036854775808≤st.n) (hn2 : st.n≤9223372036854775807)
  {more : Int} (c3 : (st.kind=3∧more=1)∨(st.kind=4∧more=0)) {Q : En→AS→Prop}
  (hq : NextE S va vo sv w Q (renewW chO () w st more)) : Call G 27 [colV w va vo,st.val sv] S Q:=by
 obtain ⟨hN0,hN1,har⟩:=checkR_pos hck
 have hw : IntKind.i64.wrap (w.n + 1)=w.n + 1:=wrap64 (by omega) (by omega)
 have k1 : ¬ st.kind=1:=by omega
 have k2 : ¬ st.kind=2:=by omega
 obtain ⟨oa,ocap,rfl⟩:=ho.shape
 obtain ⟨ra,rcap,rfl⟩:=ha.shape
 obtain ⟨sa,scap,rfl⟩:=hs.shape
 refine call_run' (G:=G) rfl (ext_none (by decide)) ?_
 simp [colV,Stp.val]
 generalize hS1 : AS.put _ _ _=S1
 have s1 : Same S S1 []:=by rw [← hS1]; exact ((((Same.refl _ _).bu).pn (by omega)).pn (by omega)).pn (by omega)
 have g0 : S1.get S.next=some (.row [.int .i64 w.n,.slice ra w.ar.length rcap,.slice oa w.order.length ocap,.int .i64 w.passed] 73 true true):=by rw [← hS1,AS.get_put_ne _ _ (by omega),AS.get_put_ne _ _ (by omega),AS.get_put_self]
 have g1 : S1.get (S.next + 1)=some (.row [.int .u8 st.kind,.int .i64 st.guest,.int .i64 st.n,.slice sa st.ar.length scap] 38 true true):=by rw [← hS1]; simp
 have g2 : S1.get (S.next + 2)=some (.row [.int .i64 0,.slice none 0 0,.slice none 0 0,.int .i64 0] 73 true true):=by rw [← hS1]; exact AS.get_put_self _ _ _
 have hnx : S1.next=S.next + 3:=by rw [← hS1]; rfl
 clear hS1
 unfold renewW at hq
 simp [k1,k2,g1]
 rcases c3 with ⟨c3,rfl⟩ | ⟨c3,rfl⟩
 ·simp [c3,g1]
  refine refCheck_ok (hs.stay0 s1) fun S2 hs2=>?_
  have hs02:=s1.tr0 hs2
  have hnx2:=hs2.1
  have k0 : S2.get S.next=_:=(hs2.2 _ (by omega) (by simp)).trans g0
  have k1' : S2.get (S.next + 1)=_:=(hs2.2 _ (by omega) (by simp)).trans g1
  have k2' : S2.get (S.next + 2)=_:=(hs2.2 _ (by omega) (by simp)).trans g2
  by_cases hc : checkR st.n st.ar=0
  ·rw [if_neg (by simp [hc])] at hq
   by_cases he : st.n=w.n + 1
   ·rw [if_pos (by omega)] at hq
    have he':=eq_true he
    simp [hc,k0,k1',c3,hw,he',placeIn,splice,rowStore,okc,-run_draw]
    generalize hS3 : AS.put _ _ _=S3
    have s3 : Same S2 S3 []:=by rw [← hS3]; exact (((Same.refl _ _).bu).pn (by omega)).pn (by omega)
    have g3 : S3.get S2.next=some (.row [.int .i64 st.n,.slice sa st.ar.length scap,.slice oa w.order.length ocap,.int .i64 w.passed] 73 true true):=by rw [← hS3]; exact AS.get_put_self _ _ _
    have hn3 : S3.next=S2.next + 1:=by rw [← hS3]; simp
    clear hS3
    have hs03:=hs02.tr0 s3
    have m2 : S3.get (S.next + 2)=_:=(s3.2 _ (by omega) (by simp)).trans k2'
    rw [run_draw]
    simp [g3]
    refine rchange_ok (hs.stay0 hs03) (ho.stay0 hs03) fun S4 hs4=>?_
    have hs04:=hs03.tr0 hs4
    have hn4:=hs4.1
    have m4 : S4.get S2.next=_:=(hs4.2 _ (by omega) (by simp)).trans g3
    simp [m4]
    refine refCheckC_ok (c:=⟨st.n,st.ar,w.order,w.passed⟩) ⟨hs.stay0 hs04,ho.stay0 hs04,hn1,hn2,by simp only; omega,by simp only; omega⟩ fun S5 hs5=>?_
    have hs05:=hs04.tr0 hs5
    have m5 : S5.get (S.next + 2)=_:=((hs4.tr0 hs5).2 _ (by omega) (by simp)).trans m2
    have m5' : S5.get S2.next=_:=(hs5.2 _ (by omega) (by simp)).trans m4
    simp [m5,m5',placeIn,splice,rowStore,okc]
    generalize hS6 : AS.put _ _ _=S6
    have s6 : Same S S6 []:=by rw [← hS6]; exact hs05.pn (by omega)
    unfold turnW at hq
    by_cases hck' : (Chg.mk st.n st.ar w.order w.passed).check=0
    ·rw [if_neg (by simp [hck'])] at hq
     rw [hck']
     exact hq S6 _ _ s6 (hs.stay0 s6) (ho.stay0 s6) (fun m hm=>.inr (.inl hm)) (fun m hm=>.inl hm)
    ·rw [if_pos hck'] at hq
     exact hq S6 _ _ _ _ _ _ _ _ _ _ s6 rfl rfl
   ·rw [if_neg (by omega)] at hq
    simp [hc,k0,k1',k2',c3,hw,he,placeIn,splice,rowStore,okc]
    generalize hS3 : AS.put _ _ _=S3
    have s3 : Same S S3 []:=by rw [← hS3]; exact hs02.pn (by omega)
    exact hq S3 _ _ _ _ _ _ _ _ _ _ s3 rfl rfl
  ·rw [if_pos hc] at hq
   simp [hc,k0,k1',k2',placeIn,splice,rowStore,okc]
   generalize hS3 : AS.put _ _ _=S3
   have s3 : Same S S3 []:=by rw [← hS3]; exact hs02.pn (by omega)
   exact hq S3 _ _ _ _ _ _ _ _ _ _ s3 rfl rfl
 ·simp [c3,g1]
  refine refCheck_ok (hs.stay0 s1) fun S2 hs2=>?_
  have hs02:=s1.tr0 hs2
  have hnx2:=hs2.1
  have k0 : S2.get S.next=_:=(hs2.2 _ (by omega) (by simp)).trans g0
  have k1' : S2.get (S.next + 1)=_:=(hs2.2 _ (by omega) (by simp)).trans g1
  have k2' : S2.get (S.next + 2)=_:=(hs2.2 _ (by omega) (by simp)).trans g2
  by_cases hc : checkR st.n st.ar=0
  ·rw [if_neg (by simp [hc])] at hq
   by_cases he : st.n=w.n
   ·rw [if_pos (by omega)] at hq
    have he':=eq_true he
    simp [hc,k0,k1',c3,hw,he',placeIn,splice,rowStore,okc,-run_draw]
    generalize hS3 : AS.put _ _ _=S3
    have s3 : Same S2 S3 []:=by rw [← hS3]; exact (((Same.refl _ _).bu).pn (by omega)).pn (by omega)
    have g3 : S3.get S2.next=some (.row [.int .i64 st.n,.slice sa st.ar.length scap,.slice oa w.order.length ocap,.int .i64 w.passed] 73 true true):=by rw [← hS3]; exact AS.get_put_self _ _ _
    have hn3 : S3.next=S2.next + 1:=by rw [← hS3]; simp
    clear hS3
    have hs03:=hs02.tr0 s3
    have m2 : S3.get (S.next + 2)=_:=(s3.2 _ (by omega) (by simp)).trans k2'
    rw [run_draw]
    simp [g3]
    refine rchange_ok (hs.stay0 hs03) (ho.stay0 hs03) fun S4 hs4=>?_
    have hs04:=hs03.tr0 hs4
    have hn4:=hs4.1
    have m4 : S4.get S2.next=_:=(hs4.2 _ (by omega) (by simp)).trans g3
    simp [m4]
    refine refCheckC_ok (c:=⟨st.n,st.ar,w.order,w.passed⟩) ⟨hs.stay0 hs04,ho.stay0 hs04,hn1,hn2,by simp only; omega,by simp only; omega⟩ fun S5 hs5=>?_
    have hs05:=hs04.tr0 hs5
    have m5 : S5.get (S.next + 2)=_:=((hs4.tr0 hs5).2 _ (by omega) (by simp)).trans m2
    have m5' : S5.get S2.next=_:=(hs5.2 _ (by omega) (by simp)).trans m4
    simp [m5,m5',placeIn,splice,rowStore,okc]
    generalize hS6 : AS.put _ _ _=S6
    have s6 : Same S S6 []:=by rw [← hS6]; exact hs05.pn (by omega)
    unfold turnW at hq
    by_cases hck' : (Chg.mk st.n st.ar w.order w.passed).check=0
    ·rw [if_neg (by simp [hck'])] at hq
     rw [hck']
     exact hq S6 _ _ s6 (hs.stay0 s6) (ho.stay0 s6) (fun m hm=>.inr (.inl hm)) (fun m hm=>.inl hm)
    ·rw [if_pos hck'] at hq
     exact hq S6 _ _ _ _ _ _ _ _ _ _ s6 rfl rfl
   ·rw [if_neg (by omega)] at hq
    simp [hc,k0,k1',k2',c3,hw,he,placeIn,splice,rowStore,okc]
    generalize hS3 : AS.put _ _ _=S3
    have s3 : Same S S3 []:=by rw [← hS3]; exact hs02.pn (by omega)
    exact hq S3 _ _ _ _ _ _ _ _ _ _ s3 rfl rfl
  ·rw [if_pos hc] at hq
   simp [hc,k0,k1',k2',placeIn,splice,rowStore,okc]
   generalize hS3 : AS.put _ _ _=S3
   have s3 : Same S S3 []:=by rw [← hS3]; exact hs02.pn (by omega)
   exact hq S3 _ _ _ _ _ _ _ _ _ _ s3 rfl rfl

theorem rnext_leave {S : AS} {va vo sv : Value} {w : Wk} {st : Stp} (ha : As S va w.ar) (ho : Is S vo w.order) (hck : checkR w.n w.ar=0) (hp : w.passed≤w.order.length) (hsm : w.order.length≤100000) (hin : ∀ x∈w.order,0≤x∧x < w.n) (hs : As S sv st.ar) (c2 : st.kind=2) {Q : En→AS→Prop}
  (hq : NextE S va vo sv w Q (leaveW chO () w st.guest)) : Call G 27 [colV w va vo,st.val sv] S Q:=by
 obtain ⟨hN0,hN1,har⟩:=checkR_pos hck
 obtain ⟨n,hn⟩ : ∃ n : Nat,w.n=n:=⟨w.n.toNat,by omega⟩
 have hn24 : n≤24:=by omega
 obtain ⟨oa,ocap,rfl⟩:=ho.shape
 obtain ⟨ra,rcap,rfl⟩:=ha.shape
 obtain ⟨sa,scap,rfl⟩:=hs.shape
 refine call_run' (G:=G) rfl (ext_none (by decide)) ?_
 simp [colV,Stp.val]
 generalize hS1 : AS.put _ _ _=S1
 have s1 : Same S S1 []:=by rw [← hS1]; exact ((((Same.refl _ _).bu).pn (by omega)).pn (by omega)).pn (by omega)
 have g0 : S1.get S.next=some (.row [.int .i64 n,.slice ra w.ar.length rcap,.slice oa w.order.length ocap,.int .i64 w.passed] 73 true true):=by rw [← hS1,AS.get_put_ne _ _ (by omega),AS.get_put_ne _ _ (by omega),AS.get_put_self,hn]
 have g1 : S1.get (S.next + 1)=some (.row [.int .u8 st.kind,.int .i64 st.guest,.int .i64 st.n,.slice sa st.ar.length scap] 38 true true):=by rw [← hS1]; simp
 have g2 : S1.get (S.next + 2)=some (.row [.int .i64 0,.slice none 0 0,.slice none 0 0,.int .i64 0] 73 true true):=by rw [← hS1]; exact AS.get_put_self _ _ _
 have hnx : S1.next=S.next + 3:=by rw [← hS1]; rfl
 clear hS1
 unfold leaveW at hq
 rw [hn,Int.toNat_natCast] at hq
 rw [hn] at hin
 simp [c2,g1]
 have bad : ∀ (e : Int) (S2 : AS),Same S S2 []→NextE S (.slice ra w.ar.length rcap) (.slice oa w.order.length ocap) (.slice sa st.ar.length scap) w Q (.error e) →
   Q (.ret (.tuple #[.agg #[.int .i64 0,.slice none 0 0,.slice none 0 0,.int .i64 0],.int .i64 e])) (S2.put (S.next + 2) (.row [.int .i64 0,.slice none 0 0,.slice none 0 0,.int .i64 0] 73 true true)):=fun e S2 hs2 hq=>
  hq _ _ _ _ _ _ _ _ _ _ _ (hs2.pn (by omega)) rfl rfl
 by_cases c0 : 0≤st.guest
 ·by_cases c1 : st.guest < n
  ·rw [if_pos ⟨c0,c1⟩] at hq
   have c0' : ¬ st.guest < 0:=by omega
   have c1' : ¬ (n : Int)≤st.guest:=by omega
   obtain ⟨v1,e1,e2,e3⟩:=(ho.stay0 s1).slc (lo:=none) (hi:=some (.int .i64 w.passed)) (i:=0) (j:=w.passed) (.inl ⟨rfl,rfl⟩) (.inr rfl) (by omega) hp
   rw [List.drop_zero] at e2
   simp [g0,g1,c0',c1',undef,-run_draw]
   rw [run_draw]
   simp [g0,g1,e1,-run_draw]
   refine has_ok e2 ?_
   simp [g0,g1,e1,-run_draw]
   by_cases hm : st.guest∈w.order.take w.passed
   ·rw [if_pos hm] at hq
    simp [hm,g2,placeIn,splice,rowStore,okc]
    exact bad _ _ s1 hq
   ·rw [if_neg hm] at hq
    simp [hm,-run_draw]
    rw [run_draw]
    simp [g0,g1]
    have s1b : Same S1 (S1.bump 1) []:=(Same.refl _ _).bu
    refine rothers_ok hn24 fun S2 sv2 hs2 hso hsown=>?_
    have hs12:=s1b.tr0 hs2
    have hn2:=hs2.1
    simp at hn2
    have g0' : S2.get S.next=_:=(hs12.2 _ (by omega) (by simp)).trans g0
    have g1' : S2.get (S.next + 1)=_:=(hs12.2 _ (by omega) (by simp)).trans g1
    have g2' : S2.get (S.next + 2)=_:=(hs12.2 _ (by omega) (by simp)).trans g2
    simp [g0',g1']
    have hslt : st.guest < n:=c1
    have hsl:=stayL_len c0 hslt
    have hstl : ∀ y∈stayL n st.guest,0≤y∧y < n:=fun y hy=>(stayL_mem.1 hy).1
    have hs02:=s1.tr0 hs12
    have hrs:=lvOld_eq c0 hin
    refine rrestrict_ok (n:=n) (ha.stay0 hs02) hso (by rw [← hn]; exact hck) (by have:=arrs_len (by omega) har; omega) (stayL_sorted _ _) hstl (by omega) fun S3 rv hs3 hrv hrown=>?_
    have hs13:=hs12.tr0 hs3
    have hn3:=hs3.1
    have h0 : S3.get S.next=_:=(hs3.2 _ (by omega) (by simp)).trans g0'
    have h1 : S3.get (S.next + 1)=_:=(hs3.2 _ (by omega) (by simp)).trans g1'
    have h2 : S3.get (S.next + 2)=_:=(hs3.2 _ (by omega) (by simp)).trans g2'
    obtain ⟨rva,rvc,rfl⟩:=hrv.shape
    simp [h0,h1,rowStore,okc,splice,hsl]
    generalize hS4 : AS.put (AS.put _ _ _) _ _=S4
    have s14 : Same S1 S4 []:=by rw [← hS4]; exact (hs13.pn (by omega)).pn (by omega)
    have s34 : Same S3 S4 [S1.next]:=by rw [← hS4]; exact ((Same.refl _ _).po (by simp)).po (by simp)
    have g7 : S4.get S1.next=some (.row [.int .i64 ((n - 1 : Nat) : Int),.slice rva (rsArr (stayL n st.guest) w.ar).length rvc] 24 true true):=by rw [← hS4]; exact AS.get_put_self _ _ _
    have hn4 : S4.next=S3.next:=by rw [← hS4]; rfl
    clear hS4
    have s04:=s1.tr0 s14
    have q0 : S4.get S.next=_:=(s14.2 _ (by omega) (by simp)).trans g0
    have q1 : S4.get (S.next + 1)=_:=(s14.2 _ (by omega) (by simp)).trans g1
    have q2 : S4.get (S.next + 2)=_:=(s14.2 _ (by omega) (by simp)).trans g2
    rw [c2] at q1
    refine run_loop (fun j a' S'=>∃ t b p,j=w.order.length - t∧t≤w.order.length∧Same S4 S' [] ∧
      p=(lvOld st.guest (w.order.take t)).length∧Ow S' (.slice b p p) (lvOld st.guest (w.order.take t))∧(∀ q∈ownsOf (.slice b p p),S4.next≤q)∧Has a' 145 [(2,ptr S.next),(3,ptr (S.next + 1)),(4,ptr (S.next + 2)),(7,ptr S1.next),(9,.slice b p p),(10,.int .i64 t)]) _
     ⟨0,none,0,rfl,by omega,.refl _ _,by simp [lvOld],by simpa [lvOld] using Ow.nil,by simp [ownsOf],⟨rfl,rfl,by simp⟩⟩ ?_
    rintro _ R hR _ S5 ⟨t,b,p,rfl,ht,hs5,hp',hob,hownb,hA⟩
    obtain ⟨x,rfl⟩:=hA.lit
    have hle:=lvOld_len st.guest (w.order.take t)
    rw [List.length_take] at hle
    have u0 : S5.get S.next=_:=(hs5.2 _ (by omega) (by simp)).trans q0
    have u1 : S5.get (S.next + 1)=_:=(hs5.2 _ (by omega) (by simp)).trans q1
    have u7 : S5.get S1.next=_:=(hs5.2 _ (by omega) (by simp)).trans g7
    have hn5:=hs5.1
    have hs05:=s04.tr0 hs5
    by_cases hlt : t < w.order.length
    ·have hwS:=wrapS (show t < 9223372036854775807 by omega)
     have hlt' : (t : Int) < w.order.length:=by omega
     have hst1:=lvOld_step (g:=st.guest) hlt
     obtain ⟨bp,o,cells,e,wr,ex,z1,z2,z3,z4,z5⟩:=(ho.stay0 hs05).at hlt
     have hxb:=hin _ (List.getElem_mem hlt)
     have app : ∀ (y : Int),lvX st.guest w.order[t]=some y→∃ T' a2,_:=fun y hy=>
      hob.app (T:=(S5.bump 2).put S5.next (.row [.int .i64 y] 3 true true)) (y:=.slice (some ⟨S5.next,0,none⟩) 1 1) (m:=[y]) (fr:=S5.next + 1) (by simp; omega) (((Same.refl _ _).bu).pn (by omega)) (Is.one (by rw [AS.get_put_self]) (by simp)) (by simp) (by omega)
     by_cases x1 : st.guest < w.order[t]
     ·have hx : lvX st.guest w.order[t]=some (w.order[t] - 1):=by unfold lvX; rw [if_pos x1]
      have hw1 : IntKind.i64.wrap (w.order[t] - 1)=w.order[t] - 1:=wrap64 (by omega) (by omega)
      have x2 : ¬ w.order[t] < st.guest:=by omega
      obtain ⟨T',a2,f1,f2,f3,f4,f5⟩:=app _ hx
      rw [hx,Option.toList_some] at hst1
      simp only [List.length_singleton] at f1 f2 f5
      subst hp'
      have v1' : T'.get (S.next + 1)=_:=(f3.2 _ (by omega) (fun hq=>by have:=hownb _ hq; omega)).trans u1
      simp [fillF,pickL,hlt,hlt',u0,u1,z1,z2,z5,x1,x2,hw1,placeIn,splice,f1,v1',hwS]
      refine hR _ _ _ (by omega) ⟨t + 1,a2,(lvOld st.guest (w.order.take t)).length + 1,rfl,by omega,hs5.trans f3 (fun q hq hl=>by have:=hownb q hq; omega),by rw [hst1]; simp,by rw [hst1]; exact f2,fun q hq=>?_,⟨rfl,rfl,by simp⟩⟩
      rcases f5 q hq with h' | h'
      ·exact hownb q h'
      ·omega
     ·by_cases x2 : w.order[t] < st.guest
      ·have hx : lvX st.guest w.order[t]=some w.order[t]:=by unfold lvX; rw [if_neg x1,if_pos x2]
       obtain ⟨T',a2,f1,f2,f3,f4,f5⟩:=app _ hx
       rw [hx,Option.toList_some] at hst1
       simp only [List.length_singleton] at f1 f2 f5
       subst hp'
       simp [fillF,pickL,hlt,hlt',u0,u1,z1,z2,z5,x1,x2,placeIn,splice,f1,hwS]
       refine hR _ _ _ (by omega) ⟨t + 1,a2,(lvOld st.guest (w.order.take t)).length + 1,rfl,by omega,hs5.trans f3 (fun q hq hl=>by have:=hownb q hq; omega),by rw [hst1]; simp,by rw [hst1]; exact f2,fun q hq=>?_,⟨rfl,rfl,by simp⟩⟩
       rcases f5 q hq with h' | h'
       ·exact hownb q h'
       ·omega
      ·have hx : lvX st.guest w.order[t]=none:=by unfold lvX; rw [if_neg x1,if_neg x2]
       rw [hx,Option.toList_none,List.append_nil] at hst1
       simp [fillF,pickL,hlt,hlt',u0,u1,z1,z2,z5,x1,x2,hwS]
       refine hR _ _ _ (by omega) ⟨t + 1,b,p,rfl,by omega,hs5,by rw [hst1]; exact hp',by rw [hst1]; exact hob,hownb,⟨rfl,rfl,by simp⟩⟩
    ·obtain rfl : t=w.order.length:=by omega
     rw [List.take_length] at hp' hob
     subst hp'
     simp [fillF,pickL,u0,u7,placeIn,splice,rowStore,okc,-run_draw]
     generalize hS6 : AS.put _ _ _=S6
     have s6 : Same S5 S6 []:=by rw [← hS6]; exact (((Same.refl _ _).bu).pn (by omega)).pn (by omega)
     have g6 : S6.get S5.next=some (.row [.int .i64 ((n - 1 : Nat) : Int),.slice rva (rsArr (stayL n st.guest) w.ar).length rvc,.slice b (lvOld st.guest w.order).length (lvOld st.guest w.order).length,.int .i64 w.passed] 73 true true):=by rw [← hS6]; exact AS.get_put_self _ _ _
     have hn6 : S6.next=S5.next + 1:=by rw [← hS6]; simp
     clear hS6
     have s56:=hs5.tr0 s6
     have s06:=hs05.tr0 s6
     have w2 : S6.get (S.next + 2)=_:=(s56.2 _ (by omega) (by simp)).trans q2
     have hrv6:=(hrv.stays s34 (fun m hm hk=>by have:=hrown m hm; simp at hk; omega)).stay0 s56
     have hob6:=hob.is.stay0 s6
     rw [run_draw]
     simp [g6]
     refine rchange_ok hrv6 hob6 fun S7 hs7=>?_
     have hs67:=s06.tr0 hs7
     have m7 : S7.get S5.next=_:=(hs7.2 _ (by omega) (by simp)).trans g6
     have hll:=lvOld_len st.guest w.order
     simp [m7]
     refine refCheckC_ok (c:=⟨((n - 1 : Nat) : Int),rsArr (stayL n st.guest) w.ar,lvOld st.guest w.order,w.passed⟩) ⟨hrv6.stay0 hs7,hob6.stay0 hs7,by simp only; omega,by simp only; omega,by simp only; omega,by simp only; omega⟩ fun S8 hs8=>?_
     have hs08:=hs67.tr0 hs8
     have hs78:=hs7.tr0 hs8
     have m8 : S8.get (S.next + 2)=_:=(hs78.2 _ (by omega) (by simp)).trans w2
     have m8' : S8.get S5.next=_:=(hs8.2 _ (by have:=hs7.1; omega) (by simp)).trans m7
     simp [m8,m8',placeIn,splice,rowStore,okc]
     generalize hS9 : AS.put _ _ _=S9
     have s9 : Same S S9 []:=by rw [← hS9]; exact hs08.pn (by omega)
     have s69 : Same S6 S9 [S.next + 2]:=by rw [← hS9]; exact (hs78.mono (by simp)).po (by simp)
     clear hS9
     have hcn : ((n - 1 : Nat) : Int)=(n : Int) - 1:=by omega
     rw [hrs] at hq
     rw [hcn] at *
     unfold turnW at hq
     have hn34:=hs13.1
     by_cases hck' : (Chg.mk ((n : Int) - 1) (rsArr (stayL n st.guest) w.ar) (lvOld st.guest w.order) w.passed).check=0
     ·rw [if_neg (by simp [hck'])] at hq
      rw [hck']
      exact hq S9 _ _ s9 (hrv6.stays s69 (fun m hm hk=>by have:=hrown m hm; simp at hk; omega)) (hob6.stays s69 (fun m hm hk=>by have:=hownb m hm; simp at hk; omega)) (fun m hm=>.inr (.inr (by have:=hrown m hm; omega))) (fun m hm=>.inr (by have:=hownb m hm; omega))
     ·rw [if_pos hck'] at hq
      exact hq S9 _ _ _ _ _ _ _ _ _ _ s9 rfl rfl
  ·rw [if_neg (by omega)] at hq
   have c0' : ¬ st.guest < 0:=by omega
   have c1' : (n : Int)≤st.guest:=by omega
   simp [g0,g1,g2,c0',c1',undef,placeIn,splice,rowStore,okc]
   exact bad _ _ s1 hq
 ·rw [if_neg (by omega)] at hq
  have c0' : st.guest < 0:=by omega
  simp [g0,g1,g2,c0',undef,placeIn,splice,rowStore,okc]
  exact bad _ _ s1 hq
end Go.Gx.Z
