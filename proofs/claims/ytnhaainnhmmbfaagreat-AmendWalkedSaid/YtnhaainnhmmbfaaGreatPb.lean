/-
  Checking a change: the program's way and the reference's.
-/
import Derived.Test.YtnhaainnhmmbfaaGreatPa
set_option linter.all false
set_option linter.deprecated false
namespace Go.Gx.Z
open Go.Gx Go.Proofs
set_option maxRecDepth 100000
set_option maxHeartbeats 4000000
def checkOld (N : Int) : List Int→List Int→Int
 | _,[]=>0
 | seen,x :: r=>if x < 0∨N≤x then 1 else if x∈seen then 6 else checkOld N (x :: seen) r
theorem checkOld_cons {N : Int} {seen : List Int} {x : Int} {r : List Int} : checkOld N seen (x :: r)=if x < 0∨N≤x then 1 else if x∈seen then 6 else checkOld N (x :: seen) r:=rfl
structure Chg where
 n : Int
 arrows : List Arw
 old : List Int
 passed : Int
def Chg.check (c : Chg) : Int:=
 if checkR c.n c.arrows≠0 then checkR c.n c.arrows else if checkOld c.n [] c.old≠0 then checkOld c.n [] c.old else
 if c.passed < 0∨(c.old.length : Int) < c.passed then 1 else if 8 < c.n - c.passed then 2 else 0
structure ChgAt (S : AS) (va vo : Value) (c : Chg) : Prop where
 arrows : As S va c.arrows
 old : Is S vo c.old
 n1 : -9223372036854775808≤c.n
 n2 : c.n≤9223372036854775807
 p1 : -9223372036854775808≤c.passed
 p2 : c.passed≤9223372036854775807
def Chg.val (c : Chg) (va vo : Value) : Value:=.agg #[.int .i64 c.n,va,vo,.int .i64 c.passed]
theorem ChgAt.stay0 {S S' : AS} {va vo : Value} {c : Chg} (h : ChgAt S va vo c) (hs : Same S S' []) : ChgAt S' va vo c:=⟨h.arrows.stay0 hs,h.old.stay0 hs,h.n1,h.n2,h.p1,h.p2⟩
theorem checkR_pos {N : Int} {l : List Arw} (h : checkR N l=0) : 0≤N∧N≤24∧arrsOk N none l=true:=by
 unfold checkR at h
 split at h
 ·cases h
 ·split at h
  ·cases h
  ·split at h
   ·rename_i h3; exact ⟨by omega,by omega,h3⟩
   ·cases h
theorem amendCheck_ok {S : AS} {va vo : Value} {c : Chg} (h : ChgAt S va vo c) {Q : En→AS→Prop} (hq : ∀ S',Same S S' []→Q (.ret (.int .i64 c.check)) S') : Call G 38 [c.val va vo] S Q:=by
 obtain ⟨a,cap,rfl⟩:=h.old.shape
 refine call_run' (G:=G) rfl (ext_none (by decide)) ?_
 simp [Chg.val]
 have s1 : Same S ((S.bump 1).put S.next (AObj.row [Value.int IntKind.i64 c.n,va,.slice a c.old.length cap,Value.int IntKind.i64 c.passed] 41 true true)) []:=by
  repeat' first | exact Same.refl _ _ | apply Same.bu | (refine Same.pn ?_ (by first | omega | (simp; omega)))
 refine rankCheck_ok (h.arrows.stay0 s1) fun S1 hs1=>?_
 have s2:=s1.tr0 hs1
 have k1 : S1.get S.next=_:=(hs1.2 S.next (by simp) (by simp)).trans (AS.get_put_self _ _ _)
 have hn1:=hs1.1
 simp at hn1
 by_cases hr : checkR c.n c.arrows=0
 ·have hne : S.next≠S1.next:=by omega
  simp [hr,k1,hne]
  have hsm:=h.old.small
  obtain ⟨hN0,hN1,_⟩:=checkR_pos hr
  have hck : c.check=if checkOld c.n [] c.old≠0 then checkOld c.n [] c.old else if c.passed < 0∨(c.old.length : Int) < c.passed then 1 else if 8 < c.n - c.passed then 2 else 0:=by unfold Chg.check; rw [if_neg (by simp [hr])]
  refine run_loop (fun j a' S'=>∃ i seen,j=c.old.length - i∧i≤c.old.length∧Same S S' []∧S1.next < S'.next∧S'.get S.next=some (.row [.int .i64 c.n,va,.slice a c.old.length cap,.int .i64 c.passed] 41 true true)∧Has a' 58 [(1,ptr S.next),(4,.map (some S1.next)),(15,.slice a c.old.length cap),(16,.int .i64 c.old.length),(17,.int .i64 i)] ∧
   MapAt S' S1.next [.int .i64] false (fun x : Int=>Value.int .i64 x) (fun x=>if x∈seen then some (.bool true) else none)∧checkOld c.n [] c.old=checkOld c.n seen (c.old.drop i)) _ ⟨0,[],rfl,by omega,?_,?_,?_,⟨rfl,rfl,by simp⟩,?_,by simp⟩ ?_
  ·repeat' first | exact s2 | apply Same.bu | (refine Same.pn ?_ (by first | omega | (simp; omega)))
  ·simp
  ·simp [hne,k1]
  ·exact ⟨[],0,by simp,by simpa using Fnd.nil⟩
  rintro _ R hR _ S2 ⟨i,seen,rfl,hi,hs2,hn2,hg2,ha,hm,hok⟩
  obtain ⟨x,rfl⟩:=ha.lit
  by_cases hlt : i < c.old.length
  ·obtain ⟨p,o,cells,e,wr,ex,h1,h2,h3,h4,h5⟩:=(h.old.stay0 hs2).at hlt
   have hlt' : (i : Int) < c.old.length:=by omega
   rw [List.drop_eq_getElem_cons hlt] at hok
   rw [checkOld_cons] at hok
   simp [fillF,pickL,hlt,hlt',h1,h2,h5]
   have out : checkOld c.n [] c.old≠0→∀ U,Same S U []→Q (.ret (.int .i64 (checkOld c.n [] c.old))) U:=fun h0 U hU=>by
    rw [hck,if_pos h0] at hq; exact hq U hU
   by_cases c1 : c.old[i] < 0
   ·simp [c1]
    simp [c1] at hok
    rw [hok] at out
    exact out (by omega) _ hs2
   simp [c1,hg2]
   by_cases c2 : c.n≤c.old[i]
   ·simp [c2]
    simp [c2] at hok
    rw [hok] at out
    exact out (by omega) _ hs2
   simp [c2,hm.look keyInt]
   simp [c1,c2] at hok
   by_cases c3 : c.old[i]∈seen
   ·simp [c3]
    simp [c3] at hok
    rw [hok] at out
    exact out (by omega) _ hs2
   ·obtain ⟨ob,e1,e2⟩:=hm.mset keyInt c.old[i] (.bool true)
    simp [c3,e1]
    simp [c3] at hok
    refine hR _ _ _ (by omega) ⟨i + 1,c.old[i] :: seen,rfl,by omega,?_,by simpa using hn2,?_,⟨rfl,rfl,by simp [wrapS (show i < 9223372036854775807 by omega)]⟩,?_,hok⟩
    ·exact hs2.pn (by omega)
    ·simp [hne,hg2]
    ·have hf : (fun x=>if x∈c.old[i] :: seen then some (Value.bool true) else none)=upd1 (fun x : Int=>if x∈seen then some (Value.bool true) else none) c.old[i] (.bool true):=by
      funext y
      unfold upd1
      by_cases hy : y=c.old[i]
      ·simp [hy]
      ·simp [hy]
     rw [hf]; exact e2
  ·have hlt' : ¬ (i : Int) < c.old.length:=by omega
   obtain rfl : i=c.old.length:=by omega
   rw [List.drop_length] at hok
   have h0 : checkOld c.n [] c.old=0:=by rw [hok]; rfl
   rw [h0] at hck
   simp at hck
   have hp1:=h.p1
   have hp2:=h.p2
   simp [fillF,pickL,hg2]
   by_cases c4 : c.passed < 0
   ·simp [c4]
    rw [hck,if_pos (.inl c4)] at hq
    exact hq _ hs2
   simp [c4,hg2]
   by_cases c5 : (c.old.length : Int) < c.passed
   ·simp [c5]
    rw [hck,if_pos (.inr c5)] at hq
    exact hq _ hs2
   have hw : IntKind.i64.wrap (c.n - c.passed)=c.n - c.passed:=wrap64 (by omega) (by omega)
   simp [c5,hg2,hw]
   rw [if_neg (by omega)] at hck
   by_cases c6 : 8 < c.n - c.passed
   ·simp [c6]
    rw [hck,if_pos c6] at hq
    exact hq _ hs2
   ·simp [c6]
    rw [hck,if_neg c6] at hq
    exact hq _ hs2
 ·simp [hr]
  have : c.check=checkR c.n c.arrows:=by unfold Chg.check; rw [if_pos hr]
  rw [this] at hq
  exact hq _ s2
theorem refCheckC_ok {S : AS} {va vo : Value} {c : Chg} (h : ChgAt S va vo c) {Q : En→AS→Prop} (hq : ∀ S',Same S S' []→Q (.ret (.int .i64 c.check)) S') : Call G 64 [c.val va vo] S Q:=by
 obtain ⟨a,cap,rfl⟩:=h.old.shape
 refine call_run' (G:=G) rfl (ext_none (by decide)) ?_
 simp [Chg.val]
 have s1 : Same S ((S.bump 1).put S.next (AObj.row [Value.int IntKind.i64 c.n,va,.slice a c.old.length cap,Value.int IntKind.i64 c.passed] 41 true true)) []:=by
  repeat' first | exact Same.refl _ _ | apply Same.bu | (refine Same.pn ?_ (by first | omega | (simp; omega)))
 refine refCheck_ok (h.arrows.stay0 s1) fun S1 hs1=>?_
 have s2:=s1.tr0 hs1
 have k1 : S1.get S.next=_:=(hs1.2 S.next (by simp) (by simp)).trans (AS.get_put_self _ _ _)
 have hn1:=hs1.1
 simp at hn1
 by_cases hr : checkR c.n c.arrows=0
 ·simp [hr]
  have hsm:=h.old.small
  obtain ⟨hN0,hN1,_⟩:=checkR_pos hr
  have hck : c.check=if checkOld c.n [] c.old≠0 then checkOld c.n [] c.old else if c.passed < 0∨(c.old.length : Int) < c.passed then 1 else if 8 < c.n - c.passed then 2 else 0:=by unfold Chg.check; rw [if_neg (by simp [hr])]
  refine run_loop (fun j a' S'=>∃ i seen,j=c.old.length - i∧i≤c.old.length∧S'=S1∧Has a' 65 [(1,ptr S.next),(4,.int .i64 i)] ∧
   (∀ x,x∈seen↔x∈c.old.take i)∧checkOld c.n [] c.old=checkOld c.n seen (c.old.drop i)) _ ⟨0,[],rfl,by omega,rfl,⟨rfl,rfl,by simp⟩,by simp,by simp⟩ ?_
  rintro _ R hR _ _ ⟨i,seen,rfl,hi,rfl,ha,hm,hok⟩
  obtain ⟨x,rfl⟩:=ha.lit
  by_cases hlt : i < c.old.length
  ·obtain ⟨p,o,cells,e,wr,ex,h1,h2,h3,h4,h5⟩:=(h.old.stay0 s2).at hlt
   have hlt' : (i : Int) < c.old.length:=by omega
   rw [List.drop_eq_getElem_cons hlt,checkOld_cons] at hok
   have out : checkOld c.n [] c.old≠0→∀ U,Same S U []→Q (.ret (.int .i64 (checkOld c.n [] c.old))) U:=fun h0 U hU=>by
    rw [hck,if_pos h0] at hq; exact hq U hU
   simp [fillF,pickL,hlt,hlt',h1,h2,h5,k1]
   by_cases c1 : c.old[i] < 0
   ·simp [c1]
    simp [c1] at hok
    rw [hok] at out
    exact out (by omega) _ s2
   simp [c1,h1,h2,h5,k1]
   by_cases c2 : c.n≤c.old[i]
   ·simp [c2]
    simp [c2] at hok
    rw [hok] at out
    exact out (by omega) _ s2
   obtain ⟨v',f1,f2,f3⟩:=(h.old.stay0 s2).slc (lo:=none) (hi:=some (.int .i64 i)) (i:=0) (j:=i) (.inl ⟨rfl,rfl⟩) (.inr rfl) (by omega) (by omega)
   simp [c2,k1,h1,h2,h5,f1]
   refine has_ok f2 ?_
   simp [k1,h1,h2,h5,f1]
   simp [c1,c2] at hok
   by_cases c3 : c.old[i]∈List.take i c.old
   ·simp [c3]
    rw [if_pos ((hm _).2 c3)] at hok
    rw [hok] at out
    exact out (by omega) _ s2
   ·simp [c3]
    rw [if_neg (fun hh=>c3 ((hm _).1 hh))] at hok
    refine hR _ _ _ (by omega) ⟨i + 1,c.old[i] :: seen,rfl,by omega,rfl,⟨rfl,rfl,by simp [wrapS (show i < 9223372036854775807 by omega)]⟩,?_,hok⟩
    intro y
    rw [List.take_succ_eq_append_getElem hlt,List.mem_append,List.mem_cons,hm y]
    simp [or_comm]
  ·have hlt' : ¬ (i : Int) < c.old.length:=by omega
   obtain rfl : i=c.old.length:=by omega
   rw [List.drop_length] at hok
   have h0 : checkOld c.n [] c.old=0:=by rw [hok]; rfl
   rw [h0] at hck
   simp at hck
   have hp1:=h.p1
   have hp2:=h.p2
   simp [fillF,pickL,k1]
   by_cases c4 : c.passed < 0
   ·simp [c4]
    rw [hck,if_pos (.inl c4)] at hq
    exact hq _ s2
   simp [c4,k1]
   by_cases c5 : (c.old.length : Int) < c.passed
   ·simp [c5]
    rw [hck,if_pos (.inr c5)] at hq
    exact hq _ s2
   have hw : IntKind.i64.wrap (c.n - c.passed)=c.n - c.passed:=wrap64 (by omega) (by omega)
   simp [c5,k1,hw]
   rw [if_neg (by omega)] at hck
   by_cases c6 : 8 < c.n - c.passed
   ·simp [c6]
    rw [hck,if_pos c6] at hq
    exact hq _ s2
   ·simp [c6]
    rw [hck,if_neg c6] at hq
    exact hq _ s2
 ·simp [hr]
  have : c.check=checkR c.n c.arrows:=by unfold Chg.check; rw [if_pos hr]
  rw [this] at hq
  exact hq _ s2

theorem u3 : Tryz.prog.underlying 3=some (.int .i64):=by kernel_rfl
theorem u4 : Tryz.prog.underlying 4=some .bool:=by kernel_rfl
theorem u22 : Tryz.prog.underlying 22=some (.slice 86):=by kernel_rfl
theorem u25 : Tryz.prog.underlying 25=some (.slice 3):=by kernel_rfl
theorem n3 : Tryz.prog.cellsOf 3=1:=by kernel_rfl
theorem n181 : Tryz.prog.cellsOf 86=4:=by kernel_rfl
theorem n22 : Tryz.prog.cellsOf 22=1:=by kernel_rfl
theorem n24 : Tryz.prog.cellsOf 24=2:=by kernel_rfl
theorem fa24 : fieldsAt Tryz.prog 24=[(3,0),(22,1)]:=by kernel_rfl
theorem fa181 : fieldsAt Tryz.prog 86=[(3,0),(3,1),(3,2),(3,3)]:=by kernel_rfl
theorem is_of {P : Program} {S : AS} {d : Nat} {t e : TypeId} {v : Value} (hu : P.underlying t=some (.slice e)) (he : P.underlying e=some (.int .i64)) (h1 : P.cellsOf e=1) (hv : S.Valid) (h : Ty P S (d + 2) t [v]) :
  ∃ l : List Int,Is S v l∧l.length≤maxLen∧∀ x∈l,-9223372036854775808≤x∧x≤9223372036854775807:=by
 obtain ⟨cs,g1,g2,g3⟩:=ty_slice1 hu h1 hv h
 obtain ⟨l,rfl,hl⟩:=ints_of fun c hc=>ty_int he (g3 c hc)
 have hlen : l.length≤maxLen:=by simpa using g2
 have hcs : l.map (Value.int .i64 ·)=ints l:=rfl
 rw [hcs] at g1
 refine ⟨l,⟨hlen,?_⟩,hlen,hl⟩
 have hc:=g1.cells
 obtain ⟨a0,c0,hsh⟩:=g1.shape
 rw [ints_len] at hsh hc
 unfold Ty at h
 rw [hu] at h
 simp only [List.cons.injEq,and_true] at h
 rcases h with rfl | rfl | ⟨n,len,cap,cells,et,rfl,h2,h3,h4,h5,h6,h7⟩
 ·have hl0 : l.length=0:=by injection hsh with _ h _; exact h.symm
  exact .inl ⟨List.length_eq_zero_iff.1 hl0,.inl rfl⟩
 ·have hl0 : l.length=0:=by injection hsh with _ h _; exact h.symm
  exact .inl ⟨List.length_eq_zero_iff.1 hl0,.inr ⟨_,_,_,rfl⟩⟩
 ·have hl0 : l.length=len:=by injection hsh with _ h _; exact h.symm
  subst hl0
  rw [h1,Nat.mul_one] at h6
  refine .inr ⟨n,0,cap,cells,et,false,true,rfl,h3,h2,hv _ _ h2 (by simp),.inl rfl,by omega,?_⟩
  simp only [srcCells,Nat.mul_one,h2] at hc
  split at hc
  ·rename_i h0
   have : l=[]:=List.length_eq_zero_iff.1 h0
   subst this; simp
  ·rw [if_pos (by omega)] at hc
   simp only [Option.some.injEq,Prod.mk.injEq,true_and] at hc
   exact hc
theorem as_of {S : AS} {d : Nat} {v : Value} (hv : S.Valid) (h : Ty Tryz.prog S (d + 3) 22 [v]) : ∃ l : List Arw,As S v l:=by
 obtain ⟨ls,h1,h2,h3⟩:=ty_slice u22 n181 (by omega) hv h
 have : ∃ l : List Arw,ls=l.map Arw.cells:=by
  clear h1 h2
  induction ls with
  | nil=>exact ⟨[],rfl⟩
  | cons x xs ih=>
   obtain ⟨l,rfl⟩:=ih fun y hy=>h3 y (by simp [hy])
   obtain ⟨g1,g2⟩:=ty_struct fa181 (by simp) (h3 x (by simp))
   rw [n181] at g1
   match x,g1 with
   | [a,b,c,e],_=>
    have ga:=g2 (3,0) (by simp)
    have gb:=g2 (3,1) (by simp)
    have gc:=g2 (3,2) (by simp)
    have gd:=g2 (3,3) (by simp)
    simp only [n3] at ga gb gc gd
    obtain ⟨n0,rfl,_⟩:=ty_int u3 ga
    obtain ⟨n1,rfl,_⟩:=ty_int u3 gb
    obtain ⟨n2,rfl,_⟩:=ty_int u3 gc
    obtain ⟨n3,rfl,_⟩:=ty_int u3 gd
    exact ⟨⟨n0,n1,n2,n3⟩ :: l,rfl⟩
 obtain ⟨l,rfl⟩:=this
 exact ⟨l,h1,by rw [List.length_map] at h2; exact h2⟩
theorem tyV_struct {P : Program} {S : AS} {d : Nat} {t : TypeId} {v : Value} {L : List (TypeId × Nat)} (hL : fieldsAt P t=L) (hne : L≠[]) (h : TyV P S d t v) : ∃ cs,v=.agg cs.toArray∧Ty P S d t cs:=by
 subst hL
 unfold fieldsAt at hne
 unfold TyV at h
 cases hu : P.underlying t with
 | none=>rw [hu] at hne; exact absurd rfl hne
 | some u=>
  rw [hu] at h hne
  cases u with
  | struct fs=>exact h
  | _=>exact absurd rfl hne
end Go.Gx.Z
