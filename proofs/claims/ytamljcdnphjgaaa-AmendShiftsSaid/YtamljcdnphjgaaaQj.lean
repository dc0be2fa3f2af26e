/-
  Whose index has changed: lists of shifts, concatenation, Shifts.
-/
import Derived.Test.YtamljcdnphjgaaaQi
import Derived.Test.YtamljcdnphjgaaaPu
import Derived.Test.YtamljcdnphjgaaaPr
set_option linter.all false
set_option linter.deprecated false
set_option linter.unusedSimpArgs false
set_option linter.unusedVariables false
namespace Go.Gx.A
open Go.Gx Go.Proofs
set_option maxRecDepth 100000
set_option linter.all false
set_option maxHeartbeats 4000000
def Tr3 (S : AS) (v : Value) (l : List Tri) : Prop:=SlAt S 86 v (l.map enc3)
theorem tr3_uni (l : List Tri) : Uni 3 (l.map enc3):=fun x hx=>by
 obtain ⟨a,_,rfl⟩:=List.mem_map.1 hx
 rfl
theorem tr3_flat (l : List Tri) : (l.map enc3).flatten=flat3 l:=(List.flatMap_def ..).symm
theorem tr3_ok (l : List Tri) : (l.map enc3).flatten.all okc=true:=by
 induction l with
 | nil=>rfl
 | cons a l ih=>simp only [List.map_cons,List.flatten_cons,List.all_append,ih,Bool.and_true]; rfl
theorem Tr3.nil {S : AS} : Tr3 S (.slice none 0 0) []:=.inl ⟨rfl,rfl⟩
theorem Tr3.stays {S S' : AS} {v : Value} {l : List Tri} (h : Tr3 S v l) {fp : List Nat} (hs : Same S S' fp) (hd : ∀ m ∈ ownsOf v,m ∉ fp) : Tr3 S' v l:=SlAt.stays h hs hd
theorem Tr3.shape {S : AS} {v : Value} {l : List Tri} (h : Tr3 S v l) : ∃ a,v=.slice a l.length l.length:=by
 rcases h with ⟨rfl,h0⟩ | ⟨p,ex,rfl,h2,h3⟩
 ·have:=congrArg List.length h0
  simp at this
  subst this
  exact ⟨none,rfl⟩
 ·exact ⟨some ⟨p,0,none⟩,by simp⟩
theorem Tr3.lt {S : AS} {v : Value} {l : List Tri} (h : Tr3 S v l) : ∀ m ∈ ownsOf v,m < S.next:=by
 rcases h with ⟨rfl,h0⟩ | ⟨p,ex,rfl,h2,h3⟩
 ·simp [ownsOf]
 ·simpa [ownsOf] using h3
theorem Tr3.app1 {S T : AS} {v : Value} {l : List Tri} (h : Tr3 S v l) (hT : Same S T []) {p fr : Nat} {a : Tri} {wr ex : Bool} (hp : T.get p=some (.row [.int .i64 a.1,.int .i64 a.2.1,.int .i64 a.2.2] 86 wr ex)) (hfr : fr < T.next) (hfS : S.next ≤ fr) (hb : l.length ≤ 100000) :
  ∃ T',appV T fr 86 3 24 v (.slice (some ⟨p,0,none⟩) 1 1)=some (.slice (some ⟨fr,0,none⟩) (l.length + 1) (l.length + 1),T')∧Tr3 T' (.slice (some ⟨fr,0,none⟩) (l.length + 1) (l.length + 1)) (l ++ [a])∧Same S T' (ownsOf v)∧T'.next=T.next:=by
 have hsl : SlAt T 86 v (l.map enc3):=SlAt.stays h hT (by simp)
 have hy : srcCells T 3 (.slice (some ⟨p,0,none⟩) 1 1)=some (([a].map enc3).length,([a].map enc3).flatten):=by
  unfold srcCells
  simp only [hp]
  simp [enc3]
 obtain ⟨T0,a1,a2,a3⟩:=appV_new (fr:=fr) (bytes:=24) hsl (tr3_uni l) (by omega) (by simp) (tr3_uni [a]) hy (by simp; omega) (by omega) (tr3_ok [a])
 simp only [List.length_map,List.length_singleton] at a1
 refine ⟨_,a1,.inr ⟨fr,false,by simp,?_,by simp only [AS.next_put,a2]; exact hfr⟩,?_,by simp only [AS.next_put]; exact a2⟩
 ·rw [AS.get_put_self]; simp
 ·refine ⟨by simp only [AS.next_put,a2]; exact hT.1,fun q hq hn=>?_⟩
  rw [AS.get_put_ne _ _ (by omega),a3 q hn,hT.2 q hq (by simp)]
theorem Tr3.get {S : AS} {a : Option Addr} {l : List Tri} {n : Nat} (h : Tr3 S (.slice a n n) l) {i : Nat} (hi : i < l.length) : ∃ p ex,a=some ⟨p,0,none⟩∧S.get p=some (.row (flat3 l) 86 true ex)∧p < S.next∧rowLoad (flat3 l) (i * 3) (some 3)=some (.agg #[.int .i64 l[i].1,.int .i64 l[i].2.1,.int .i64 l[i].2.2]):=by
 rcases h with ⟨e,h0⟩ | ⟨p,ex,e,h2,h3⟩
 ·simp only [List.map_eq_nil_iff] at h0
  subst h0
  simp at hi
 ·injection e with e1 e2
  refine ⟨p,ex,e1,by rw [← tr3_flat]; exact h2,h3,?_⟩
  have:=(tr3_uni l).get (i:=i) (l:=enc3 l[i]) (by simp [hi])
  have hfl:=flat3_len l
  rw [tr3_flat] at this
  simp only [rowLoad,this]
  rw [if_pos (by omega)]
  rfl
theorem tveq (s t : Tri) : veq [.int .i64,.int .i64,.int .i64] true (.agg #[.int .i64 s.1,.int .i64 s.2.1,.int .i64 s.2.2]) (.agg #[.int .i64 t.1,.int .i64 t.2.1,.int .i64 t.2.2])=some (decide (s=t)):=keyInt3.eq s t
theorem tindex_ok {S : AS} {v : Value} {l : List Tri} {s : Tri} (h : Tr3 S v l) (hl : l.length ≤ 100000) {Q : En→AS→Prop} (hq : ∀ S' (r : Int),Same S S' []→(0 ≤ r ↔ s ∈ l)→Q (.ret (.int .i64 r)) S') : Call G 153 [v,.agg #[.int .i64 s.1,.int .i64 s.2.1,.int .i64 s.2.2]] S Q:=by
 obtain ⟨a,rfl⟩:=h.shape
 refine call_run' (G:=G) rfl (ext_none (by decide)) ?_
 simp
 generalize hS1 : AS.put (AS.bump S 1) _ _=S1
 have s1 : Same S S1 []:=by rw [← hS1]; exact ((Same.refl _ _).bu).pn (by omega)
 have g0 : S1.get S.next=some (.row [.int .i64 s.1,.int .i64 s.2.1,.int .i64 s.2.2] 86 true true):=by rw [← hS1]; simp
 clear hS1
 have h1:=h.stays s1 (by simp)
 refine run_loop (fun j a' S'=>∃ i,j=l.length - i∧i ≤ l.length∧S'=S1∧Has a' 19 [(0,.slice a l.length l.length),(3,ptr S.next),(7,.int .i64 l.length),(8,.int .i64 i)]∧s ∉ l.take i) _ ⟨0,rfl,by omega,rfl,⟨rfl,rfl,by simp⟩,by simp⟩ ?_
 rintro _ R hR _ _ ⟨i,rfl,hi,rfl,hA,hn⟩
 obtain ⟨x,rfl⟩:=hA.lit
 by_cases hlt : i < l.length
 ·have hwS:=wrapS (show i < 9223372036854775807 by omega)
  obtain ⟨p,ex,rfl,g1,_,hld⟩:=h1.get hlt
  have hv:=tveq s l[i]
  by_cases he : s=l[i]
  ·rw [decide_eq_true he] at hv
   simp [fillF,pickL,hlt,g0,g1,hld,hv]
   exact hq _ _ s1 ⟨fun _=>by rw [he]; exact List.getElem_mem hlt,fun _=>by omega⟩
  ·rw [decide_eq_false he] at hv
   simp [fillF,pickL,hlt,g0,g1,hld,hv,hwS]
   refine hR _ _ _ (by omega) ⟨i + 1,rfl,by omega,rfl,⟨rfl,rfl,by simp⟩,?_⟩
   rw [List.take_add_one,List.getElem?_eq_getElem hlt]
   simp only [List.mem_append,not_or]
   exact ⟨hn,by simpa using he⟩
 ·obtain rfl : i=l.length:=by omega
  rw [List.take_length] at hn
  simp [fillF,pickL]
  exact hq _ _ s1 ⟨fun h=>by omega,fun h=>absurd h hn⟩
theorem tcontains_ok {S : AS} {v : Value} {l : List Tri} {s : Tri} (h : Tr3 S v l) (hl : l.length ≤ 100000) {Q : En→AS→Prop} (hq : ∀ S',Same S S' []→Q (.ret (.bool (decide (s ∈ l)))) S') : Call G 124 [v,.agg #[.int .i64 s.1,.int .i64 s.2.1,.int .i64 s.2.2]] S Q:=by
 refine call_run' (G:=G) rfl (ext_none (by decide)) ?_
 simp
 have s1 : ∀ o,Same S ((S.bump 1).put S.next o) []:=fun o=>((Same.refl _ _).bu).pn (by omega)
 refine tindex_ok (h.stays (s1 _) (by simp)) hl fun S2 r hs2 hr=>?_
 simp
 rw [decide_eq_decide.2 hr]
 exact hq _ ((s1 _).tr0 hs2)
theorem app_in {T : AS} {g fr N : Nat} {c m : List Int} {y : Value} {ex : Bool} (hg : T.get g=some (.row (ints c ++ List.replicate (N - c.length) (.int .i64 0)) 3 true ex)) (hN : c.length + m.length ≤ N) (hy : Is T y m) :
  ∃ T',appV T fr 3 1 8 (.slice (some ⟨g,0,none⟩) c.length N) y=some (.slice (some ⟨g,0,none⟩) (c ++ m).length N,T')∧T'.get g=some (.row (ints (c ++ m) ++ List.replicate (N - (c ++ m).length) (.int .i64 0)) 3 true ex)∧Same T T' [g]∧T'.next=T.next:=by
 have hs : srcCells T 1 y=some (m.length,ints m):=by have:=hy.cs.cells; rw [ints_len] at this; exact this
 unfold appV
 rw [hs]
 simp only []
 rw [if_pos hN]
 by_cases h0 : m=[]
 ·subst h0
  refine ⟨T,by simp,by simpa using hg,.refl _ _,rfl⟩
 ·have hne : (ints m).isEmpty=false:=by
   cases m with
   | nil=>exact absurd rfl h0
   | cons a m=>rfl
  rw [hne]
  simp only [Bool.false_eq_true,if_false,hg]
  have hst : rowStore (ints c ++ List.replicate (N - c.length) (.int .i64 0)) (0 + c.length * 1) (ints m)=some (ints (c ++ m) ++ List.replicate (N - (c ++ m).length) (.int .i64 0)):=by
   unfold rowStore
   rw [if_pos ⟨by simp; omega,ints_ok m⟩]
   have h1 : List.replicate (N - c.length) (Value.int .i64 0)=List.replicate m.length (.int .i64 0) ++ List.replicate (N - (c ++ m).length) (.int .i64 0):=by
    rw [List.replicate_append_replicate,List.length_append]
    congr 1; omega
   rw [h1]
   have:=splice_app (A:=ints c) (B:=List.replicate m.length (.int .i64 0)) (C:=ints m) (D:=List.replicate (N - (c ++ m).length) (.int .i64 0)) (by simp)
   rw [ints_len] at this
   rw [Nat.zero_add,Nat.mul_one,this,ints_append,List.append_assoc]
  rw [hst]
  refine ⟨_,by simp,AS.get_put_self _ _ _,same_put _ _ _,rfl⟩
theorem concat_ok {S : AS} {v : Value} {vs : List Value} {ls : List (List Int)} (h : Ls S v vs ls) (hb : ls.flatten.length ≤ 1000) (hl : ls.length ≤ 1000) {Q : En→AS→Prop} (hq : ∀ S' u,Same S S' []→Is S' u ls.flatten→Q (.ret u) S') : Call G 123 [v] S Q:=by
 obtain ⟨a,cap,rfl⟩:=h.shape
 refine call_run' (G:=G) rfl (ext_none (by decide)) ?_
 simp
 have hsum : ∀ i (hi : i < ls.length),(ls.take (i + 1)).flatten=(ls.take i).flatten ++ ls[i]:=fun i hi=>by
  rw [List.take_add_one,List.getElem?_eq_getElem hi,List.flatten_append]
  simp only [Option.toList_some,List.flatten_cons,List.flatten_nil,List.append_nil]
 have hle : ∀ i,(ls.take i).flatten.length ≤ ls.flatten.length:=fun i=>by
  conv=>rhs; rw [← List.take_append_drop i ls,List.flatten_append,List.length_append]
  omega
 refine run_loop (fun j a' S'=>∃ i,j=ls.length - i∧i ≤ ls.length∧S'=S∧Has a' 36 [(0,.slice a ls.length cap),(3,.int .i64 (ls.take i).flatten.length),(9,.slice a ls.length cap),(10,.int .i64 ls.length),(11,.int .i64 i)]) _ ⟨0,rfl,by omega,rfl,⟨rfl,rfl,by simp⟩⟩ ?_
 rintro _ R hR _ S ⟨i,rfl,hi,rfl,hA⟩
 obtain ⟨x,rfl⟩:=hA.lit
 by_cases hlt : i < ls.length
 ·have hwS:=wrapS (show i < 9223372036854775807 by omega)
  obtain ⟨p,o,cells,e,wr,ex,b,cap',h1,h2,h3,h4,h5,h6,_⟩:=h.at hlt
  have h7:=hsum i hlt
  have h8:=hle (i + 1)
  rw [h7,List.length_append] at h8
  have hw : IntKind.i64.wrap (((ls.take i).flatten.length : Int) + (ls[i].length : Int))=(((ls.take (i + 1)).flatten.length : Nat) : Int):=by
   rw [wrap64 (by omega) (by omega),h7,List.length_append]; omega
  generalize (ls.take i).flatten.length=s0 at *
  generalize hs1 : (ls.take (i + 1)).flatten.length=s1 at *
  simp [fillF,pickL,hlt,h1,h2,h5,hw,hwS]
  exact hR _ _ _ (by omega) ⟨i + 1,rfl,by omega,rfl,⟨rfl,rfl,by simp [hs1]⟩⟩
 ·obtain rfl : i=ls.length:=by omega
  rw [List.take_length]
  generalize hN : ls.flatten.length=N at *
  simp [fillF,pickL]
  by_cases hN0 : N=0
  ·subst hN0
   refine call_ext (grow_ext (x:=(.slice none 0 0,S)) (by simp [growV])) ?_
   simp
   refine run_loop (fun j a' S'=>∃ i,j=ls.length - i∧i ≤ ls.length∧Same S S' []∧Has a' 36 [(0,.slice a ls.length cap),(6,.slice none 0 0),(25,.slice a ls.length cap),(26,.int .i64 ls.length),(27,.int .i64 i)]) _ ⟨0,rfl,by omega,.refl _ _,⟨rfl,rfl,by simp⟩⟩ ?_
   rintro _ R2 hR2 _ S2 ⟨i,rfl,hi,hs2,hA2⟩
   obtain ⟨x2,rfl⟩:=hA2.lit
   by_cases hlt : i < ls.length
   ·have hwS:=wrapS (show i < 9223372036854775807 by omega)
    have hb1 : Same S2 (S2.bump 1) []:=(Same.refl _ _).bu
    obtain ⟨p,o,cells,e,wr,ex,b,cap',h1,h2,h3,h4,h5,h6,_⟩:=(h.stay0 hs2).at hlt
    have h8:=hle (i + 1)
    rw [hsum i hlt,List.length_append] at h8
    have hnil : ls[i]=[]:=List.length_eq_zero_iff.1 (by omega)
    rw [hnil] at h5 h6
    have hs : srcCells (S2.bump 1) 1 (.slice b 0 cap')=some (0,[]):=by have:=(h6.stay0 hb1).cs.cells; simpa using this
    simp [fillF,pickL,hlt,h1,h2,h5,appV,hs]
    exact hR2 _ _ _ (by omega) ⟨i + 1,rfl,by omega,hs2.tr0 hb1,⟨rfl,rfl,by simp [hwS]⟩⟩
   ·obtain rfl : i=ls.length:=by omega
    simp [fillF,pickL]
    have hnil : ls.flatten=[]:=List.length_eq_zero_iff.1 hN
    exact hq _ _ hs2 (by rw [hnil]; exact Is.nil)
  ·refine call_ext (grow_ext (x:=(.slice (some ⟨S.next,0,none⟩) 0 N,(S.bump 1).put S.next (.row (List.replicate N (.int .i64 0)) 3 true false))) ?_) ?_
   ·unfold growV
    simp only []
    rw [if_neg (by omega),if_pos ⟨by omega,by omega⟩]
    simp
   simp
   generalize hS1 : AS.put (AS.bump S 1) _ _=S1
   have s1 : Same S S1 []:=by rw [← hS1]; exact ((Same.refl _ _).bu).pn (by omega)
   have g0 : S1.get S.next=some (.row (List.replicate N (.int .i64 0)) 3 true false):=by rw [← hS1]; simp
   have hn1 : S1.next=S.next + 1:=by rw [← hS1]; simp
   clear hS1
   refine run_loop (fun j a' S'=>∃ i,j=ls.length - i∧i ≤ ls.length∧Same S S' []∧S1.next ≤ S'.next∧S'.get S.next=some (.row (ints (ls.take i).flatten ++ List.replicate (N - (ls.take i).flatten.length) (.int .i64 0)) 3 true false)∧Has a' 36 [(0,.slice a ls.length cap),(6,.slice (some ⟨S.next,0,none⟩) (ls.take i).flatten.length N),(25,.slice a ls.length cap),(26,.int .i64 ls.length),(27,.int .i64 i)]) _ ⟨0,rfl,by omega,s1,Nat.le_refl _,by simpa using g0,⟨rfl,rfl,by simp⟩⟩ ?_
   rintro _ R2 hR2 _ S2 ⟨i,rfl,hi,hs2,hn2,g2,hA2⟩
   obtain ⟨x2,rfl⟩:=hA2.lit
   by_cases hlt : i < ls.length
   ·have hwS:=wrapS (show i < 9223372036854775807 by omega)
    have hb1 : Same S2 (S2.bump 1) []:=(Same.refl _ _).bu
    obtain ⟨p,o,cells,e,wr,ex,b,cap',h1,h2,h3,h4,h5,h6,_⟩:=(h.stay0 hs2).at hlt
    have h8:=hle (i + 1)
    have h9:=hsum i hlt
    rw [h9,List.length_append] at h8
    obtain ⟨T',f1,f2,f3,f4⟩:=app_in (T:=S2.bump 1) (fr:=S2.next) (g:=S.next) (N:=N) (c:=(ls.take i).flatten) (m:=ls[i]) (ex:=false) (by simpa using g2) h8 (h6.stay0 hb1)
    rw [← h9] at f1 f2
    generalize (ls.take i).flatten.length=s0 at *
    generalize hs1' : (ls.take (i + 1)).flatten.length=s1' at *
    simp [fillF,pickL,hlt,h1,h2,h5,f1]
    have hn2' : S2.next ≤ T'.next:=by rw [f4]; simp
    refine hR2 _ _ _ (by omega) ⟨i + 1,rfl,by omega,(hs2.tr0 hb1).trans f3 (fun m hm hl=>by simp at hm; omega),by omega,by rw [hs1']; exact f2,⟨rfl,rfl,by simp [hwS,hs1']⟩⟩
   ·obtain rfl : i=ls.length:=by omega
    rw [List.take_length] at g2 ⊢
    rw [hN] at g2 ⊢
    simp [fillF,pickL]
    have hs2n : S.next < S2.next:=by omega
    refine hq _ _ hs2 ⟨by omega,.inr ⟨S.next,0,N,_,3,true,false,by rw [hN],by omega,g2,hs2n,.inr rfl,by simp [hN],?_⟩⟩
    rw [List.drop_zero,Nat.sub_self,List.replicate_zero,List.append_nil,← ints_len,List.take_length]
theorem Shifts_ok {S : AS} {v w : Value} {old order : List Int} (h : Is S v old) (k : Is S w order) {Q : En→AS→Prop}
  (hq : ∀ S' u l,Same S S' []→Tr3 S' u l→l.length ≤ 1000→(errL [old,order]=0→∃ out,Sh old order out (old ++ order)∧l=out.mergeSort le3)→(errL [old,order] ≠ 0→l=[])→Q (.ret (.tuple #[u,.int .i64 (errL [old,order])])) S') : Call G 64 [v,w] S Q:=by
 obtain ⟨a,cap,rfl⟩:=h.shape
 obtain ⟨b,cap',rfl⟩:=k.shape
 refine call_run' (G:=G) rfl (ext_none (by decide)) ?_
 simp [placeIn,splice]
 have s1 : ∀ o,Same S ((S.bump 1).put S.next o) []:=fun o=>((Same.refl _ _).bu).pn (by omega)
 refine lists_ok (ls_two (wr:=true) (ex:=true) (h.stay0 (s1 _)) (k.stay0 (s1 _)) (by simp) (by simp)) fun S1 hs1=>?_
 have hs:=(s1 _).tr0 hs1
 by_cases he : errL [old,order]=0
 rotate_left
 ·simp [he]
  exact hq S1 _ [] hs .nil (by simp) (fun h0=>absurd h0 he) (fun _=>rfl)
 obtain ⟨b1,b2,b3,b4⟩:=errL_nodup he
 rw [he] at hq
 simp [he,placeIn,splice]
 have s2 : ∀ o,Same S1 ((S1.bump 1).put S1.next o) []:=fun o=>((Same.refl _ _).bu).pn (by omega)
 refine concat_ok (ls_two (wr:=true) (ex:=true) ((h.stay0 hs).stay0 (s2 _)) ((k.stay0 hs).stay0 (s2 _)) (by simp) (by simp)) (by simp; omega) (by simp) fun S2 u hs2 hu=>?_
 have hs12:=(s2 _).tr0 hs2
 have hsS2:=hs.tr0 hs12
 rw [show [old,order].flatten=old ++ order from by simp] at hu
 obtain ⟨ua,ucap,rfl⟩:=hu.shape
 have hul:=hu.small
 have hlen : (old ++ order).length ≤ 400:=by rw [List.length_append]; omega
 generalize hall : old ++ order=all at *
 simp
 refine run_loop (fun j a' S'=>∃ i ov out,j=all.length - i∧i ≤ all.length∧Same S2 S' []∧Tr3 S' ov out∧(∀ m ∈ ownsOf ov,S2.next ≤ m)∧out.length ≤ i∧Sh old order out (all.take i)∧Has a' 54 [(0,.slice a old.length cap),(1,.slice b order.length cap'),(7,ov),(21,.slice ua all.length ucap),(22,.int .i64 all.length),(23,.int .i64 i)]) _ ⟨0,.slice none 0 0,[],rfl,by omega,.refl _ _,.nil,by simp [ownsOf],by simp,Sh.nil old order,⟨rfl,rfl,by simp⟩⟩ ?_
 rintro _ R hR _ S3 ⟨i,ov,out,rfl,hi,hs3,hov,hown,hol,hsh,hA⟩
 obtain ⟨x,rfl⟩:=hA.lit
 have hsS3:=hsS2.tr0 hs3
 by_cases hlt : i < all.length
 ·have hwS:=wrapS (show i < 9223372036854775807 by omega)
  have htk : all.take (i + 1)=all.take i ++ [all[i]]:=by rw [List.take_add_one,List.getElem?_eq_getElem hlt]; rfl
  obtain ⟨p,o,cells,e,wr,ex,h1,h2,h3,h4,h5⟩:=(hu.stay0 hs3).at hlt
  have sb : Same S3 (S3.bump 1) []:=(Same.refl _ _).bu
  simp [fillF,pickL,hlt,h1,h2,h5]
  refine index_ok ((h.stay0 hsS3).stay0 sb) ?_
  simp
  refine index_ok ((k.stay0 hsS3).stay0 sb) ?_
  simp [placeIn,splice,rowStore,okc]
  generalize hS4 : AS.put (AS.put (AS.bump S3 1) _ _) _ _=S4
  have hs4 : Same S3 S4 []:=by rw [← hS4]; exact (((Same.refl _ _).bu).pn (by omega)).pn (by omega)
  have g4 : S4.get S3.next=some (.row [.int .i64 all[i],.int .i64 (ixI old all[i]),.int .i64 (ixI order all[i])] 86 true true):=by rw [← hS4,AS.get_put_self]
  have hn4 : S4.next=S3.next + 1:=by rw [← hS4]; simp
  clear hS4
  have hn3:=hs3.1
  have hov4:=hov.stays hs4 (by simp)
  by_cases hne : ixI old all[i]=ixI order all[i]
  ·simp [g4,hne,undef]
   refine hR _ _ _ (by omega) ⟨i + 1,ov,out,rfl,by omega,hs3.tr0 hs4,hov4,hown,by omega,by rw [htk]; exact hsh.skip hne,⟨rfl,rfl,by simp [hwS]⟩⟩
  ·simp [g4,hne]
   refine tcontains_ok (s:=tri old order all[i]) hov4 (by omega) fun S5 hs5=>?_
   have hs35:=hs4.tr0 hs5
   have g5 : S5.get S3.next=_:=(hs5.2 _ (by omega) (by simp)).trans g4
   have hn5:=hs5.1
   have hov5:=hov4.stays hs5 (by simp)
   by_cases hin : tri old order all[i] ∈ out
   ·simp [hin]
    refine hR _ _ _ (by omega) ⟨i + 1,ov,out,rfl,by omega,hs3.tr0 hs35,hov5,hown,by omega,by rw [htk]; exact hsh.have hin,⟨rfl,rfl,by simp [hwS]⟩⟩
   ·simp [hin,g5,placeIn,splice]
    obtain ⟨T',f1,f2,f3,f4⟩:=hov5.app1 (T:=(S5.bump 2).put S5.next (.row [.int .i64 all[i],.int .i64 (ixI old all[i]),.int .i64 (ixI order all[i])] 86 true true)) (p:=S5.next) (fr:=S5.next + 1) (a:=tri old order all[i]) (wr:=true) (ex:=true)
     (((Same.refl _ _).bu).pn (by omega)) (by rw [AS.get_put_self]; rfl) (by simp) (by simp) (by omega)
    simp [f1]
    have hT : S5.next + 2 ≤ T'.next:=by rw [f4]; simp
    refine hR _ _ _ (by omega) ⟨i + 1,_,_,rfl,by omega,?_,f2,?_,by simp; omega,by rw [htk]; exact hsh.add hin hne,⟨rfl,rfl,by simp [hwS]⟩⟩
    ·exact (hs3.tr0 hs35).trans f3 (fun m hm hl=>by have:=hown m hm; omega)
    ·intro m hm
     simp [ownsOf] at hm
     omega
 ·obtain rfl : i=all.length:=by omega
  rw [List.take_length] at hsh
  obtain ⟨oa,hov'⟩:=hov.shape
  simp [fillF,pickL]
  have hnd : (out.map (·.1)).Nodup:=hsh.nd
  have hsl : (out.mergeSort le3).length=out.length:=List.length_mergeSort _
  by_cases h0 : out=[]
  ·subst h0
   have : ∃ x,tsortV 126 86 [ov,.func (.func 126) #[] #[]] S3=some (.tuple #[],S3):=⟨(),by
    rcases hov with ⟨rfl,_⟩ | ⟨p,ex,rfl,_,_⟩ <;> simp [tsortV]⟩
   obtain ⟨_,hx⟩:=this
   refine call_ext (shift_ext hx) ?_
   simp
   exact hq S3 ov [] hsS3 hov (by simp) (fun _=>⟨[],hsh,by simp⟩) (fun h=>absurd rfl h)
  ·rcases hov with ⟨_,hn⟩ | ⟨p,ex,rfl,g1,g2⟩
   ·exact absurd (by simpa using hn) h0
   ·rw [tr3_flat] at g1
    have hpos : out.length ≠ 0:=fun h=>h0 (List.length_eq_zero_iff.1 h)
    have hx : tsortV 126 86 [.slice (some ⟨p,0,none⟩) (out.map enc3).length (out.map enc3).length,.func (.func 126) #[] #[]] S3=some (.tuple #[],S3.put p (.row (flat3 (out.mergeSort le3)) 86 true ex)):=by
     have e1 : ((flat3 out).drop 0).take (out.length * 3)=flat3 out:=by rw [List.drop_zero,← flat3_len,List.take_length]
     have e2 : splice (flat3 out) 0 (flat3 (out.mergeSort le3))=flat3 (out.mergeSort le3):=by
      unfold splice
      rw [List.drop_eq_nil_of_le (by rw [flat3_len,flat3_len,hsl]; omega)]
      simp
     unfold tsortV
     simp only [List.length_map]
     rw [if_pos ⟨trivial,trivial,trivial,by omega⟩,if_neg hpos,g1]
     simp only []
     rw [if_pos ⟨trivial,by rw [flat3_len]; omega⟩,e1,unflat3_flat]
     simp only []
     rw [if_pos hnd,e2]
    refine call_ext (shift_ext hx) ?_
    simp
    have hpo:=hown p (by simp [ownsOf])
    refine hq _ _ (out.mergeSort le3) (hsS3.pn (by have:=hsS2.1; omega)) ?_ (by omega) (fun _=>⟨out,hsh,rfl⟩) (fun h=>absurd rfl h)
    refine .inr ⟨p,ex,by simp [hsl],by rw [AS.get_put_self,tr3_flat],by simpa using g2⟩
end Go.Gx.A
namespace Go.Gx.A
open Go.Gx Go.Proofs
set_option maxRecDepth 100000
set_option linter.all false
set_option maxHeartbeats 4000000
theorem flat3_append (l m : List Tri) : flat3 (l ++ m)=flat3 l ++ flat3 m:=by simp [flat3]
theorem flat3_take (l : List Tri) (i : Nat) (h : i ≤ l.length) : (flat3 l).take (i * 3)=flat3 (l.take i):=by
 conv=>lhs; rw [← List.take_append_drop i l,flat3_append]
 rw [List.take_append_of_le_length (by rw [flat3_len,List.length_take]; omega)]
 rw [List.take_of_length_le (by rw [flat3_len,List.length_take]; omega)]
theorem flat3_drop (l : List Tri) (i : Nat) (h : i ≤ l.length) : (flat3 l).drop (i * 3)=flat3 (l.drop i):=by
 conv=>lhs; rw [← List.take_append_drop i l,flat3_append]
 have : i * 3=(flat3 (l.take i)).length:=by rw [flat3_len,List.length_take]; omega
 rw [this,List.drop_left]
theorem flat3_get' : ∀ (L : List Tri) (t : Nat),t < L.length * 3→(flat3 L)[t]?=some ((enc3 (L[t / 3]!))[t % 3]!)
 | p :: L,t,h=>by
  show (.int .i64 p.1 :: .int .i64 p.2.1 :: .int .i64 p.2.2 :: flat3 L : List Value)[t]?=_
  match t with
  | 0=>rfl
  | 1=>rfl
  | 2=>rfl
  | t + 3=>
   have e1 : (t + 3) / 3=t / 3 + 1:=by omega
   have e2 : (t + 3) % 3=t % 3:=by omega
   rw [e1,e2]
   simp only [List.getElem?_cons_succ]
   rw [flat3_get' L t (by simp only [List.length_cons] at h; omega)]
   simp
theorem Tr3.slcp {S : AS} {v : Value} {l : List Tri} (h : Tr3 S v l) {lo hi : Option Value} {i j : Nat} (hlo : lo=none∧i=0 ∨ lo=some (.int .i64 i)) (hhi : hi=none∧j=l.length ∨ hi=some (.int .i64 j)) (hij : i ≤ j) (hj : j ≤ l.length) :
  ∃ v',slcE S 86 3 lo hi none v=.ret (v',S)∧∀ T fp,Same S T fp→(∀ m ∈ ownsOf v,m ∉ fp)→srcCells T 3 v'=some (((l.take j).drop i).length,flat3 ((l.take j).drop i)):=by
 have hl : ((l.take j).drop i).length=j - i:=by simp; omega
 have hb : ∀ n,l.length=n→bndsV n n lo hi none=some (i,j,n):=by
  intro n hc
  have hjc : j ≤ n:=by omega
  have hin : i ≤ n:=by omega
  rcases hlo with ⟨rfl,rfl⟩ | rfl <;> rcases hhi with ⟨rfl,rfl⟩ | rfl <;> simp [bndsV,bndV,hij,hj,hc,hjc,hin]
 rcases h with ⟨rfl,h0⟩ | ⟨p,ex,rfl,h2,h3⟩
 ·simp only [List.map_eq_nil_iff] at h0
  subst h0
  simp only [List.length_nil] at hj
  have hj0 : j=0:=by omega
  have hi0 : i=0:=by omega
  subst hj0 hi0
  have:=hb 0 rfl
  exact ⟨.slice none 0 0,by simp [this],fun T fp _ _=>by simp [srcCells,flat3]⟩
 ·rw [List.length_map] at *
  have hbb:=hb l.length rfl
  refine ⟨.slice (some ⟨p,0 + i * 3,none⟩) (j - i) (l.length - i),by simp [h2,hbb],fun T fp hs hd=>?_⟩
  have hT : T.get p=some (.row (flat3 l) 86 true ex):=by rw [hs.2 p h3 (hd p (by simp [ownsOf])),h2,tr3_flat]
  have hd : (flat3 l).drop (0 + i * 3)=flat3 (l.drop i):=by rw [Nat.zero_add]; exact flat3_drop l i (by omega)
  rw [hl]
  simp only [srcCells,hT]
  by_cases h0 : (j - i) * 3=0
  ·rw [if_pos h0]
   have : (l.take j).drop i=[]:=List.drop_eq_nil_of_le (by simp; omega)
   rw [this]; rfl
  ·rw [if_neg h0,if_pos (by rw [flat3_len]; omega),hd,flat3_take _ _ (by simp; omega),List.drop_take]
theorem Tr3.app {S T : AS} {v y : Value} {l m : List Tri} (h : Tr3 S v l) (hT : Same S T []) (hy : srcCells T 3 y=some (m.length,flat3 m)) {fr : Nat} (hfr : fr < T.next) (hfS : S.next ≤ fr) (hb : l.length + m.length ≤ 100000) :
  ∃ T' v',appV T fr 86 3 24 v y=some (v',T')∧Tr3 T' v' (l ++ m)∧Same S T' (ownsOf v)∧T'.next=T.next∧∀ x ∈ ownsOf v',x ∈ ownsOf v ∨ x=fr:=by
 have hsl : SlAt T 86 v (l.map enc3):=SlAt.stays h hT (by simp)
 by_cases hm : m=[]
 ·subst hm
  refine ⟨T,v,?_,by rw [List.append_nil]; exact hsl,hT.mono (by simp),rfl,fun x hx=>.inl hx⟩
  obtain ⟨a,rfl⟩:=h.shape
  unfold appV
  rw [hy]
  simp [flat3]
 ·obtain ⟨T0,a1,a2,a3⟩:=appV_new (fr:=fr) (bytes:=24) hsl (tr3_uni l) (by omega) (by simpa using hm) (tr3_uni m) (by rw [List.length_map,tr3_flat]; exact hy) (by rw [List.length_map,List.length_map]; omega) (by omega) (tr3_ok m)
  simp only [List.length_map] at a1
  refine ⟨_,_,a1,.inr ⟨fr,false,by simp,?_,by simp only [AS.next_put,a2]; exact hfr⟩,?_,by simp only [AS.next_put]; exact a2,fun x hx=>.inr (by simpa [ownsOf] using hx)⟩
  ·rw [AS.get_put_self]; simp
  ·refine ⟨by simp only [AS.next_put,a2]; exact hT.1,fun q hq hn=>?_⟩
   rw [AS.get_put_ne _ _ (by omega),a3 q hn,hT.2 q hq (by simp)]
theorem rShifts_ok {S : AS} {v w : Value} {old order : List Int} (h : Is S v old) (k : Is S w order) {Q : En→AS→Prop}
  (hq : ∀ S' u l,Same S S' []→Tr3 S' u l→l.length ≤ 1000→(errL [old,order]=0→As3 old order l (fresh old order))→(errL [old,order] ≠ 0→l=[])→Q (.ret (.tuple #[u,.int .i64 (errL [old,order])])) S') : Call G 65 [v,w] S Q:=by
 obtain ⟨a,cap,rfl⟩:=h.shape
 obtain ⟨b,cap',rfl⟩:=k.shape
 refine call_run' (G:=G) rfl (ext_none (by decide)) ?_
 simp
 refine rlists_ok h k ?_
 by_cases he : errL [old,order]=0
 rotate_left
 ·simp [he]
  exact hq S _ [] (.refl _ _) .nil (by simp) (fun h0=>absurd h0 he) (fun _=>rfl)
 obtain ⟨b1,b2,b3,b4⟩:=errL_nodup he
 rw [he] at hq
 have t1 : Same S ((S.bump 2).put S.next (.row [] 3 true true)) []:=((Same.refl _ _).bu).pn (by omega)
 obtain ⟨T',ca,cc,f1,f2,f3,f4,f5⟩:=app0 (T:=(S.bump 2).put S.next (.row [] 3 true true)) (p:=S.next) (fr:=S.next + 1) (h.stay0 t1) (by omega) (by simp) (by simp) (by simp)
 simp [he,placeIn,f1]
 have hsT : Same S T' []:=t1.trans f3 (fun m hm hl=>by simp at hm; omega)
 have hco : ∀ m ∈ ownsOf (Value.slice ca old.length cc),S.next ≤ m:=fun m hm=>by have:=f5 m hm; omega
 refine run_loop (fun j a' S'=>∃ i u,j=order.length - i∧i ≤ order.length∧Same S S' []∧Oc S' u (fresh old (order.take i))∧(∀ m ∈ ownsOf u,S.next ≤ m)∧Has a' 104 [(0,.slice a old.length cap),(1,.slice b order.length cap'),(7,u),(8,.int .i64 i)]) _ ⟨0,.slice ca old.length cc,rfl,by omega,hsT,by simpa [fresh] using f2,hco,⟨rfl,rfl,by simp⟩⟩ ?_
 rintro _ R hR _ S1 ⟨i,u,rfl,hi,hs1,hu,huo,hA⟩
 obtain ⟨x,rfl⟩:=hA.lit
 by_cases hlt : i < order.length
 ·have hwS:=wrapS (show i < 9223372036854775807 by omega)
  obtain ⟨p,o,cells,e,wr,ex,h1,h2,h3,h4,h5⟩:=(k.stay0 hs1).at hlt
  have hfs:=fresh_spec (order.take i) old b3
  have hfn:=fresh_snoc old (order.take i) order[i]
  have htk : order.take (i + 1)=order.take i ++ [order[i]]:=by rw [List.take_add_one,List.getElem?_eq_getElem hlt]; rfl
  rw [← htk] at hfn
  have hfl : (fresh old (order.take i)).length ≤ 400:=by have:=hfs.2.2; rw [List.length_take] at this; omega
  obtain ⟨ua,ucap,hus⟩:=hu.shape
  simp [fillF,pickL,hlt,h1,h2,h5]
  refine has_ok hu.is ?_
  by_cases hm : order[i] ∈ fresh old (order.take i)
  ·rw [if_pos hm] at hfn
   simp [hm]
   exact hR _ _ _ (by omega) ⟨i + 1,u,rfl,by omega,hs1,by rw [hfn]; exact hu,huo,⟨rfl,rfl,by simp [hwS]⟩⟩
  ·rw [if_neg hm] at hfn
   simp [hm,h1,h2,h5,placeIn,splice]
   have t2 : Same S1 ((S1.bump 2).put S1.next (.row [.int .i64 order[i]] 3 true true)) []:=((Same.refl _ _).bu).pn (by omega)
   obtain ⟨T2,a2,cap2,g1,g2,g3,g4,g5⟩:=(hu.stay0 t2).app1 (fr:=S1.next + 1) (y:=S1.next) (x:=order[i]) (w:=true) (e:=true) (by omega) (by rw [AS.get_put_self]) (by simp)
   simp [g1]
   have hsT2 : Same S T2 []:=(hs1.tr0 t2).trans g3 (fun m hm hl=>by
    rcases List.mem_cons.1 hm with h | h
    ·have:=hs1.1; omega
    ·have:=huo m h; omega)
   refine hR _ _ _ (by omega) ⟨i + 1,_,rfl,by omega,hsT2,by rw [hfn]; exact g2,fun m hm=>?_,⟨rfl,rfl,by simp [hwS]⟩⟩
   rcases g5 m hm with h | h
   ·have:=hs1.1; omega
   ·exact huo m h
 ·obtain rfl : i=order.length:=by omega
  rw [List.take_length] at hu
  obtain ⟨hfn,hfm,hfl⟩:=fresh_spec order old b3
  obtain ⟨ua,ucap,rfl⟩:=hu.shape
  have hui:=hu.is
  simp [fillF,pickL]
  generalize fresh old order=all at *
  have hal : all.length ≤ 400:=by omega
  refine run_loop (fun j a' S'=>∃ i ov out,j=all.length - i∧i ≤ all.length∧Same S1 S' []∧Tr3 S' ov out∧(∀ m ∈ ownsOf ov,S1.next ≤ m)∧out.length ≤ i∧As3 old order out (all.take i)∧Has a' 104 [(0,.slice a old.length cap),(1,.slice b order.length cap'),(7,.slice ua all.length ucap),(10,ov),(11,.int .i64 i)]) _ ⟨0,.slice none 0 0,[],rfl,by omega,.refl _ _,.nil,by simp [ownsOf],by simp,As3.nil old order,⟨rfl,rfl,by simp⟩⟩ ?_
  rintro _ R2 hR2 _ S3 ⟨i,ov,out,rfl,hi,hs3,hov,hown,hol,hsh,hA3⟩
  obtain ⟨x3,rfl⟩:=hA3.lit
  have hsS3:=hs1.tr0 hs3
  by_cases hlt : i < all.length
  ·have hwS:=wrapS (show i < 9223372036854775807 by omega)
   have htk : all.take (i + 1)=all.take i ++ [all[i]]:=by rw [List.take_add_one,List.getElem?_eq_getElem hlt]; rfl
   have hnew : all[i] ∉ all.take i:=fun hm=>by
    obtain ⟨j,hj,e⟩:=List.getElem_of_mem hm
    rw [List.getElem_take] at e
    simp at hj
    have:=(List.getElem_inj hfn).1 e
    omega
   obtain ⟨p,o,cells,e,wr,ex,h1,h2,h3,h4,h5⟩:=(hui.stay0 hs3).at hlt
   have sb : Same S3 (S3.bump 1) []:=(Same.refl _ _).bu
   simp [fillF,pickL,hlt,h1,h2,h5]
   refine rindex_ok ((h.stay0 hsS3).stay0 sb) ?_
   simp [h1,h2,h5]
   refine rindex_ok ((k.stay0 hsS3).stay0 sb) ?_
   simp [h1,h2,h5,placeIn,splice,rowStore,okc]
   generalize hS4 : AS.put (AS.put (AS.bump S3 1) _ _) _ _=S4
   have hs4 : Same S3 S4 []:=by rw [← hS4]; exact (((Same.refl _ _).bu).pn (by omega)).pn (by omega)
   have g4 : S4.get S3.next=some (.row [.int .i64 all[i],.int .i64 (ixI old all[i]),.int .i64 (ixI order all[i])] 86 true true):=by rw [← hS4,AS.get_put_self]
   have hn4 : S4.next=S3.next + 1:=by rw [← hS4]; simp
   clear hS4
   have hn3:=hs3.1
   have hov4:=hov.stays hs4 (by simp)
   by_cases hne : ixI old all[i]=ixI order all[i]
   ·simp [hne]
    refine hR2 _ _ _ (by omega) ⟨i + 1,ov,out,rfl,by omega,hs3.tr0 hs4,hov4,hown,by omega,by rw [htk]; exact hsh.skip hne,⟨rfl,rfl,by simp [hwS]⟩⟩
   ·obtain ⟨oa,hovs⟩:=hov4.shape
    simp [hne]
    refine cut_block (fun a' S'=>∃ q,plc out all[i] q∧S'=S4∧Has a' 104 [(0,.slice a old.length cap),(1,.slice b order.length cap'),(7,.slice ua all.length ucap),(10,ov),(11,.int .i64 i),(12,ptr S3.next),(13,.int .i64 q)]) ?_ ?_
    ·intro M hM
     refine run_loop (fun m a' S'=>∃ q,m=out.length - q∧q ≤ out.length∧S'=S4∧(∀ t (h : t < out.length),t < q→out[t].1 < all[i])∧Has a' 104 [(0,.slice a old.length cap),(1,.slice b order.length cap'),(7,.slice ua all.length ucap),(10,ov),(11,.int .i64 i),(12,ptr S3.next),(13,.int .i64 q)]) _ ⟨0,rfl,by omega,rfl,fun t _ h=>by omega,⟨rfl,rfl,by simp⟩⟩ ?_
     rintro _ R3 hR3 _ _ ⟨q,rfl,hq',rfl,hlow,hA4⟩
     obtain ⟨x4,rfl⟩:=hA4.lit
     by_cases hql : q < out.length
     ·have hwq:=wrapS (show q < 9223372036854775807 by omega)
      have hov4':=hov4
      rw [hovs] at hov4'
      obtain ⟨pp,ex',rfl,g6,_,hld⟩:=hov4'.get hql
      have hcell : (flat3 out)[q * 3]?=some (.int .i64 out[q].1):=by
       rw [flat3_get' out (q * 3) (by omega)]
       have e1 : q * 3 / 3=q:=by omega
       have e2 : q * 3 % 3=0:=by omega
       rw [e1,e2]
       simp [enc3,hql]
      by_cases hlt2 : out[q].1 < all[i]
      ·simp [fillF,pickL,hovs,hql,g6,g4,hcell,hlt2,undef]
       refine hR3 _ _ _ (by omega) ⟨q + 1,rfl,by omega,rfl,fun t ht htq=>?_,⟨rfl,rfl,by simp [hwq,hovs]⟩⟩
       by_cases e : t=q
       ·subst e; exact hlt2
       ·exact hlow t ht (by omega)
      ·simp [fillF,pickL,hovs,hql,g6,g4,hcell,hlt2,undef]
       exact hM _ _ ⟨q,⟨by omega,hlow,fun _=>hlt2⟩,rfl,⟨rfl,rfl,by simp [hovs]⟩⟩
     ·obtain rfl : q=out.length:=by omega
      simp [fillF,pickL,hovs,undef]
      exact hM _ _ ⟨out.length,⟨by omega,hlow,fun h=>by omega⟩,rfl,⟨rfl,rfl,by simp [hovs]⟩⟩
    ·rintro _ S4 ⟨q,hpl,rfl,hA5⟩
     obtain ⟨x5,rfl⟩:=hA5.lit
     have hql:=hpl.1
     obtain ⟨v1,j1,j2⟩:=hov4.slcp (lo:=none) (hi:=some (.int .i64 q)) (i:=0) (j:=q) (.inl ⟨rfl,rfl⟩) (.inr rfl) (by omega) hql
     rw [List.drop_zero] at j2
     have sb4 : Same S4 (S4.bump 1) []:=(Same.refl _ _).bu
     have hov5:=hov4.stays sb4 (by simp)
     obtain ⟨v1',j1',j2'⟩:=hov5.slcp (lo:=none) (hi:=some (.int .i64 q)) (i:=0) (j:=q) (.inl ⟨rfl,rfl⟩) (.inr rfl) (by omega) hql
     rw [List.drop_zero] at j2'
     obtain ⟨T1,n1,k1,k2,k3,k4,k5⟩:=(Tr3.nil (S:=S4)).app (T:=S4.bump 1) sb4 (j2' _ [] (.refl _ _) (by simp)) (fr:=S4.next) (by simp) (Nat.le_refl _) (by simp; omega)
     rw [List.nil_append] at k2
     have hT1 : Same S4 T1 []:=by simpa [ownsOf] using k3
     have k5' : ∀ m ∈ ownsOf n1,S4.next ≤ m:=fun m hm=>by
      rcases k5 m hm with h | h
      ·simp [ownsOf] at h
      ·omega
     have g5 : T1.get S3.next=_:=(hT1.2 _ (by omega) (by simp)).trans g4
     have hk4 : T1.next=S4.next + 1:=by rw [k4]; simp
     obtain ⟨T2,l1,l2,l3,l4⟩:=k2.app1 (T:=(T1.bump 2).put T1.next (.row [.int .i64 all[i],.int .i64 (ixI old all[i]),.int .i64 (ixI order all[i])] 86 true true)) (p:=T1.next) (fr:=T1.next + 1) (a:=tri old order all[i]) (wr:=true) (ex:=true)
      (((Same.refl _ _).bu).pn (by omega)) (by rw [AS.get_put_self]; rfl) (by simp) (by simp) (by simp; omega)
     have hT2 : Same S4 T2 []:=hT1.trans l3 (fun m hm hl=>by have:=k5' m hm; omega)
     have hl4 : T2.next=T1.next + 2:=by rw [l4]; simp
     have sb2 : Same T2 (T2.bump 1) []:=(Same.refl _ _).bu
     have hT2b : Same S4 (T2.bump 1) []:=hT2.tr0 sb2
     have hov6:=hov4.stays hT2b (by simp)
     obtain ⟨v2,o1,o2⟩:=hov6.slcp (lo:=some (.int .i64 q)) (hi:=none) (i:=q) (j:=out.length) (.inr rfl) (.inl ⟨rfl,rfl⟩) hql (Nat.le_refl _)
     rw [List.take_length] at o2
     obtain ⟨T3,n3,r1,r2,r3,r4,r5⟩:=l2.app (T:=T2.bump 1) sb2 (o2 _ [] (.refl _ _) (by simp)) (fr:=T2.next) (by simp) (by omega) (by simp; omega)
     have hT3 : Same S4 T3 []:=hT2.trans r3 (fun m hm hl=>by simp [ownsOf] at hm; omega)
     have hr4 : T3.next=T2.next + 1:=by rw [r4]; simp
     have hql2 : (out.take q).length=q:=by rw [List.length_take]; omega
     rw [hql2] at l1 r1
     simp [fillF,pickL,j1',k1,g5,placeIn,splice,l1,o1,r1]
     refine hR2 _ _ _ (by omega) ⟨i + 1,n3,_,rfl,by omega,(hs3.tr0 hs4).tr0 hT3,r2,fun m hm=>?_,?_,by rw [htk]; exact hsh.add hnew hne hpl,⟨rfl,rfl,by simp [hwS]⟩⟩
     ·rcases r5 m hm with h | h
      ·simp [ownsOf] at h; omega
      ·omega
     ·simp; omega
  ·obtain rfl : i=all.length:=by omega
   rw [List.take_length] at hsh
   obtain ⟨oa,hov'⟩:=hov.shape
   simp [fillF,pickL]
   exact hq S3 ov out hsS3 hov (by omega) (fun _=>hsh) (fun h=>absurd rfl h)
end Go.Gx.A
namespace Go.Gx.A
open Go.Gx Go.Proofs
set_option maxRecDepth 100000
set_option linter.all false
set_option maxHeartbeats 4000000
theorem shifts_walk {S : AS} {v w : Value} {old order : List Int} (h : Is S v old) (k : Is S w order) : Call G 21 [v,w] S fun e _=>e=.ret (.bool true):=by
 obtain ⟨a,cap,rfl⟩:=h.shape
 obtain ⟨b,cap',rfl⟩:=k.shape
 refine call_run' (G:=G) rfl (ext_none (by decide)) ?_
 refine cut2 (fun a' S'=>S'=S∧Has a' 57 [(0,.slice a old.length cap),(1,.slice b order.length cap')]) ?_ ?_
 ·intro M hM
  simp
  by_cases c1 : (30 : Int) < old.length
  ·simp [c1,undef]
   refine alive_ok ?_
   simp
  ·simp [c1,undef]
   by_cases c2 : (30 : Int) < order.length
   ·simp [c2,undef]
    refine alive_ok ?_
    simp
   ·simp [c2,undef]
    exact hM _ _ ⟨rfl,⟨rfl,rfl,by simp⟩⟩
 ·rintro _ S ⟨rfl,hA⟩
  obtain ⟨x,rfl⟩:=hA.lit
  simp [fillF,pickL]
  refine Shifts_ok h k fun S1 u l hs1 hu hl h1 h2=>?_
  simp
  refine rShifts_ok (h.stay0 hs1) (k.stay0 hs1) fun S2 u2 l2 hs2 hu2 hl2 h3 h4=>?_
  have hll : l=l2:=by
   by_cases he : errL [old,order]=0
   ·obtain ⟨out,g1,rfl⟩:=h1 he
    obtain ⟨b1,b2,b3,b4⟩:=errL_nodup he
    refine sh_sorted g1 (h3 he) fun x=>?_
    rw [(fresh_spec order old b3).2.1,List.mem_append]
   ·rw [h2 he,h4 he]
  subst hll
  have hu':=hu.stays hs2 (by simp)
  obtain ⟨ua,rfl⟩:=hu'.shape
  obtain ⟨ub,rfl⟩:=hu2.shape
  simp [undef]
  refine run_loop (fun j a' S'=>∃ i,j=l.length - i∧i ≤ l.length∧S'=S2∧Has a' 57 [(5,.slice ua l.length l.length),(7,.slice ub l.length l.length),(42,.int .i64 l.length),(43,.int .i64 i)]) _ ⟨0,rfl,by omega,rfl,⟨rfl,rfl,by simp⟩⟩ ?_
  rintro _ R hR _ _ ⟨i,rfl,hi,rfl,hA2⟩
  obtain ⟨x2,rfl⟩:=hA2.lit
  by_cases hlt : i < l.length
  ·have hwS:=wrapS (show i < 9223372036854775807 by omega)
   obtain ⟨p,ex,rfl,g1,_,hld⟩:=hu'.get hlt
   obtain ⟨q,ex',rfl,g2,_,_⟩:=hu2.get hlt
   have hv:=tveq l[i] l[i]
   rw [decide_eq_true rfl] at hv
   simp [fillF,pickL,hlt,g1,g2,hld,hv,hwS]
   exact hR _ _ _ (by omega) ⟨i + 1,rfl,by omega,rfl,⟨rfl,rfl,by simp⟩⟩
  ·obtain rfl : i=l.length:=by omega
   simp [fillF,pickL]
   refine alive_ok ?_
   simp
end Go.Gx.A
