/-
  The functions of this seat as the proofs use them; small ones.
-/
import Derived.Test.YtnhaainnhmmbfaaGreatDe
import Derived.Test.YtnhaainnhmmbfaaGreatFe
set_option linter.all false
set_option linter.deprecated false
namespace Go.Gx.Z
open Go.Gx Go.Proofs
set_option maxRecDepth 100000
def G : Tab:=⟨tab,extOr insX (extOr arrX (extOf [6]))⟩
theorem ext_none {k : Nat} {args : List Value} {S : AS} (h : ¬ (k=51∨k=6∨k=97)) : G.ext k args S=none:=by
 simp only [not_or] at h
 obtain ⟨h1,h2,h6⟩:=h
 show extOr insX (extOr arrX (extOf [6])) k args S=none
 rw [extOr_right (by unfold insX; rw [if_neg h1]),extOr_right (by unfold arrX; rw [if_neg h6])]
 exact extOf_none (.inr (by simpa using h2))
theorem alive_ok {S : AS} {Q : En→AS→Prop} (hq : Q (.ret (.bool true)) S) : Call G 6 [] S Q:=call_ext (by
 show extOr insX (extOr arrX (extOf [6])) 6 [] S=some (.bool true,S)
 rw [extOr_right rfl,extOr_right rfl]
 exact extOf_some (by simp)) hq
theorem arr_ext {args : List Value} {S : AS} {x : Value × AS} (h : asortV 80 86 args S=some x) : G.ext 97 args S=some x:=by
 show extOr insX (extOr arrX (extOf [6])) 97 args S=some x
 rw [extOr_right rfl]
 exact extOr_left (by unfold arrX; rw [if_pos rfl]; exact h)
abbrev ptr (d : Nat) : Value:=.pointer (some ⟨d,0,none⟩)
theorem wrap64 {x : Int} (h1 : -9223372036854775808≤x) (h2 : x≤9223372036854775807) : IntKind.i64.wrap x=x:=by
 simp only [IntKind.wrap,IntKind.bits,IntKind.signed]
 simp
 omega
theorem wrapS {i : Nat} (h : i < 9223372036854775807) : IntKind.i64.wrap ((i : Int) + 1)=((i + 1 : Nat) : Int):=by rw [wrap64 (by omega) (by omega)]; rfl
theorem _root_.Go.Gx.Same.bu {S U : AS} {fp : List Nat} {k : Nat} (h : Same S U fp) : Same S (U.bump k) fp:=⟨by have:=h.1; simp; omega,fun m hm hn=>by rw [AS.get_bump]; exact h.2 m hm hn⟩
theorem _root_.Go.Gx.Same.pn {S U : AS} {fp : List Nat} {d : Nat} {o : AObj} (h : Same S U fp) (hd : S.next≤d) : Same S (U.put d o) fp:=⟨by have:=h.1; simp; omega,fun m hm hn=>by rw [AS.get_put_ne _ _ (by omega)]; exact h.2 m hm hn⟩
theorem _root_.Go.Gx.Same.po {S U : AS} {fp : List Nat} {d : Nat} {o : AObj} (h : Same S U fp) (hd : d∈fp) : Same S (U.put d o) fp:=⟨by have:=h.1; simp; omega,fun m hm hn=>by rw [AS.get_put_ne _ _ (by rintro rfl; exact hn hd)]; exact h.2 m hm hn⟩
theorem _root_.Go.Gx.Same.tr0 {S U V : AS} (h : Same S U []) (k : Same U V []) : Same S V []:=h.trans k (by simp)
@[simp] theorem rowLoad2 {a b : Value} : rowLoad [a,b] 0 (some 2)=some (.agg #[a,b]):=rfl
@[simp] theorem rowLoad2' {a b c d : Value} : rowLoad [a,b,c,d] 0 (some 2)=some (.agg #[a,b]):=rfl
@[simp] theorem rowLoad3 {a b c : Value} : rowLoad [a,b,c] 0 (some 3)=some (.agg #[a,b,c]):=rfl
@[simp] theorem rowLoad4 {a b c d : Value} : rowLoad [a,b,c,d] 0 (some 4)=some (.agg #[a,b,c,d]):=rfl
def ints (l : List Int) : List Value:=l.map fun n=>.int .i64 n
@[simp] theorem ints_len (l : List Int) : (ints l).length=l.length:=by simp [ints]
@[simp] theorem ints_nil : ints []=[]:=rfl
@[simp] theorem ints_cons (n : Int) (l : List Int) : ints (n :: l)=.int .i64 n :: ints l:=rfl
theorem ints_ok (l : List Int) : (ints l).all okc=true:=by simp [ints,okc]
theorem ints_take (l : List Int) (n : Nat) : (ints l).take n=ints (l.take n):=by simp [ints,List.map_take]
theorem ints_drop (l : List Int) (n : Nat) : (ints l).drop n=ints (l.drop n):=by simp [ints,List.map_drop]
structure Is (S : AS) (v : Value) (l : List Int) : Prop where
 small : l.length≤9223372036854775807
 c : (l=[]∧(v=.slice none 0 0∨∃ b o s,v=.slice (some ⟨b,o,some s⟩) 0 0)) ∨
  ∃ p o cap cells e wr ex,v=.slice (some ⟨p,o,none⟩) l.length cap∧l.length≤cap∧S.get p=some (.row cells e wr ex)∧p < S.next∧(ex=true∨e=3)∧o + l.length≤cells.length∧(cells.drop o).take l.length=ints l
theorem Is.row {S : AS} {p : Nat} {l : List Int} {wr ex : Bool} (h : S.get p=some (.row (ints l) 3 wr ex)) (hp : p < S.next) (hs : l.length≤9223372036854775807) : Is S (.slice (some ⟨p,0,none⟩) l.length l.length) l:=
 ⟨hs,.inr ⟨p,0,l.length,ints l,3,wr,ex,rfl,Nat.le_refl _,h,hp,.inr rfl,by simp,by rw [List.drop_zero,← ints_len,List.take_length]⟩⟩
theorem Is.nil {S : AS} : Is S (.slice none 0 0) []:=⟨by simp,.inl ⟨rfl,.inl rfl⟩⟩
theorem Is.cs {S : AS} {v : Value} {l : List Int} (h : Is S v l) : Cs S v (ints l):=by
 rcases h.c with ⟨rfl,rfl | ⟨b,o,s,rfl⟩⟩ | ⟨p,o,cap,cells,e,wr,ex,rfl,h1,h2,h3,h4,h5,h6⟩
 ·exact ⟨⟨_,_,rfl⟩,rfl,by simp [ownsOf]⟩
 ·exact ⟨⟨_,_,rfl⟩,rfl,by simp [ownsOf]⟩
 ·refine ⟨⟨_,_,by rw [ints_len]⟩,?_,fun b hb=>by simp [ownsOf] at hb; subst hb; exact h3⟩
  simp only [srcCells,Nat.mul_one,ints_len]
  split
  ·rename_i h0
   have : l=[]:=List.length_eq_zero_iff.1 h0
   subst this; rfl
  ·rw [h2]
   simp only
   rw [if_pos h5,h6]
theorem Is.shape {S : AS} {v : Value} {l : List Int} (h : Is S v l) : ∃ a cap,v=.slice a l.length cap:=by
 obtain ⟨a,cap,e⟩:=h.cs.shape
 exact ⟨a,cap,by rw [e,ints_len]⟩
theorem Is.owns_lt {S : AS} {v : Value} {l : List Int} (h : Is S v l) : ∀ b∈ownsOf v,b < S.next:=h.cs.lt
theorem Is.stays {S S' : AS} {v : Value} {l : List Int} (h : Is S v l) {fp : List Nat} (hs : Same S S' fp) (hd : ∀ m∈ownsOf v,m∉fp) : Is S' v l:=by
 refine ⟨h.small,?_⟩
 rcases h.c with h | ⟨p,o,cap,cells,e,wr,ex,rfl,h1,h2,h3,h4,h5,h6⟩
 ·exact .inl h
 ·exact .inr ⟨p,o,cap,cells,e,wr,ex,rfl,h1,by rw [hs.2 p h3 (hd p (by simp [ownsOf]))]; exact h2,Nat.lt_of_lt_of_le h3 hs.1,h4,h5,h6⟩
theorem Is.stay0 {S S' : AS} {v : Value} {l : List Int} (h : Is S v l) (hs : Same S S' []) : Is S' v l:=h.stays hs (by simp)
theorem Is.at {S : AS} {v : Value} {l : List Int} (h : Is S v l) {i : Nat} (hi : i < l.length) :
  ∃ p o cells e wr ex,(∀ (S' : AS) (j : IntKind),idxE S' 1 none (.int j i) v=.ret (.pointer (some ⟨p,o,none⟩),S'))∧S.get p=some (.row cells e wr ex)∧p < S.next∧p∈ownsOf v∧cells[o]?=some (.int .i64 l[i]):=by
 obtain ⟨p,o,cells,e,wr,ex,h1,h2,h3,h4,h5⟩:=h.cs.idx (S':=S) (j:=.i64) (i:=i) (by simpa using hi)
 refine ⟨p,o,cells,e,wr,ex,fun S' j=>?_,h2,h3,h4,?_⟩
 ·obtain ⟨a,cap,rfl⟩:=h.shape
  match a with
  | none=>simp [idxE] at h1
  | some ⟨b,q,some s⟩=>simp [idxE] at h1
  | some ⟨b,q,none⟩=>
   simp [hi] at h1 ⊢
   exact h1
 ·rw [h5]
  simp [ints]
theorem Is.slc {S : AS} {v : Value} {l : List Int} (h : Is S v l) {lo hi : Option Value} {i j : Nat} (hlo : lo=none∧i=0∨lo=some (.int .i64 i)) (hhi : hi=none∧j=l.length∨hi=some (.int .i64 j)) (hij : i≤j) (hj : j≤l.length) :
  ∃ v',slcE S 3 1 lo hi none v=.ret (v',S)∧Is S v' ((l.take j).drop i)∧∀ m∈ownsOf v',m∈ownsOf v:=by
 have hl : ((l.take j).drop i).length=j - i:=by simp; omega
 have hb : ∀ cap,l.length≤cap→bndsV l.length cap lo hi none=some (i,j,cap):=by
  intro cap hc
  have hjc : j≤cap:=by omega
  rcases hlo with ⟨rfl,rfl⟩ | rfl <;> rcases hhi with ⟨rfl,rfl⟩ | rfl <;> simp [bndsV,bndV,hij,hj,hc,hjc]
 rcases h.c with ⟨rfl,rfl | ⟨b,o,s,rfl⟩⟩ | ⟨p,o,cap,cells,e,wr,ex,rfl,h1,h2,h3,h4,h5,h6⟩
 ·have:=hb 0 (by simp)
  simp at hj
  subst hj
  have hi0 : i=0:=by omega
  subst hi0
  refine ⟨.slice none 0 0,?_,⟨by simp,.inl ⟨rfl,.inl rfl⟩⟩,by simp [ownsOf]⟩
  simp only [List.length_nil] at this
  simp [this]
 ·have:=hb 0 (by simp)
  simp only [List.length_nil] at this
  refine ⟨.slice (some ⟨b,o,some s⟩) 0 0,?_,⟨by simp,.inl ⟨by simp,.inr ⟨b,o,s,rfl⟩⟩⟩,by simp [ownsOf]⟩
  simp [this]
 ·refine ⟨.slice (some ⟨p,o + i,none⟩) (j - i) (cap - i),?_,⟨by have:=h.small; omega,.inr ⟨p,o + i,cap - i,cells,e,wr,ex,by rw [hl],by omega,h2,h3,h4,by omega,?_⟩⟩,by simp [ownsOf]⟩
  ·simp [h2,hb cap h1,h4]
  ·rw [hl,← ints_drop,← ints_take,← h6,List.take_take,Nat.min_eq_left hj,List.drop_take,List.drop_drop]
def cmpI (a b : Int) : Int:=if a < b then -1 else if b < a then 1 else 0
theorem nan_ok {S : AS} {x : Int} {Q : En→AS→Prop} (hq : Q (.ret (.bool false)) S) : Call G 102 [.int .i64 x] S Q:=by
 refine call_run' (G:=G) rfl (ext_none (by decide)) ?_
 simp [hq]
theorem compare_ok {S : AS} {x y : Int} {Q : En→AS→Prop} (hq : Q (.ret (.int .i64 (cmpI x y))) S) : Call G 96 [.int .i64 x,.int .i64 y] S Q:=by
 refine call_run' (G:=G) rfl (ext_none (by decide)) ?_
 simp
 refine nan_ok ?_
 simp
 refine nan_ok ?_
 simp
 unfold cmpI at hq
 by_cases h1 : x < y
 ·simp [h1] at hq ⊢; exact hq
 ·by_cases h2 : y < x
  ·simp [h1,h2] at hq ⊢; exact hq
  ·simp [h1,h2] at hq ⊢; exact hq
theorem in_ok {S : AS} {x lo hi : Int} {Q : En→AS→Prop} (hq : Q (.ret (.bool (decide (lo≤x∧x≤hi)))) S) : Call G 79 [.int .i64 x,.int .i64 lo,.int .i64 hi] S Q:=by
 refine call_run' (G:=G) rfl (ext_none (by decide)) ?_
 simp
 by_cases h1 : lo≤x
 ·simp [h1] at hq ⊢; exact hq
 ·simp [h1] at hq ⊢; exact hq
theorem or_ok {S : AS} {v : Value} {l : List Int} (h : Is S v l) {Q : En→AS→Prop} (hq : Q (.ret (.int .i64 ((l.find? fun x=>decide (x≠0)).getD 0))) S) : Call G 95 [v] S Q:=by
 obtain ⟨a,cap,rfl⟩:=h.shape
 refine call_run' (G:=G) rfl (ext_none (by decide)) ?_
 simp
 have hsm:=h.small
 refine run_loop (fun j a' S'=>∃ i,j=l.length - i∧i≤l.length∧S'=S∧Has a' 18 [(0,.slice a l.length cap),(3,.int .i64 0),(6,.slice a l.length cap),(7,.int .i64 l.length),(8,.int .i64 i)]∧(l.find? fun x=>decide (x≠0))=((l.drop i).find? fun x=>decide (x≠0))) _ ⟨0,rfl,by omega,rfl,⟨rfl,rfl,by simp⟩,by simp⟩ ?_
 rintro _ R hR _ _ ⟨i,rfl,hi,rfl,ha,hne⟩
 obtain ⟨x,rfl⟩:=ha.lit
 by_cases hlt : i < l.length
 ·obtain ⟨p,o,cells,e,wr,ex,h1,h2,h3,h4,h5⟩:=h.at hlt
  rw [List.drop_eq_getElem_cons hlt,List.find?_cons] at hne
  by_cases h0 : l[i]=0
  ·simp [fillF,pickL,hlt,h1,h2,h5,h0]
   refine hR _ _ _ (by omega) ⟨i + 1,rfl,by omega,rfl,⟨rfl,rfl,by simp [wrapS (show i < 9223372036854775807 by omega)]⟩,?_⟩
   simp [h0] at hne
   simpa using hne
  ·simp [fillF,pickL,hlt,h1,h2,h5,h0]
   simp [h0] at hne
   simp [hne] at hq
   exact hq
 ·have : i=l.length:=by omega
  subst this
  simp at hne
  have hf : l.find? (fun x=>decide (x≠0))=none:=by simpa using hne
  rw [hf] at hq
  simp [fillF,pickL]
  exact hq
theorem has_ok {S : AS} {v : Value} {l : List Int} {n : Int} (h : Is S v l) {Q : En→AS→Prop} (hq : Q (.ret (.bool (decide (n∈l)))) S) : Call G 61 [v,.int .i64 n] S Q:=by
 obtain ⟨a,cap,rfl⟩:=h.shape
 refine call_run' (G:=G) rfl (ext_none (by decide)) ?_
 simp
 have hsm:=h.small
 refine run_loop (fun j a' S'=>∃ i,j=l.length - i∧i≤l.length∧S'=S∧Has a' 18 [(0,.slice a l.length cap),(1,.int .i64 n),(5,.int .i64 i)]∧(n∈l↔n∈l.drop i)) _ ⟨0,rfl,by omega,rfl,⟨rfl,rfl,by simp⟩,by simp⟩ ?_
 rintro _ R hR _ _ ⟨i,rfl,hi,rfl,ha,hne⟩
 obtain ⟨x,rfl⟩:=ha.lit
 by_cases hlt : i < l.length
 ·obtain ⟨p,o,cells,e,wr,ex,h1,h2,h3,h4,h5⟩:=h.at hlt
  rw [List.drop_eq_getElem_cons hlt,List.mem_cons] at hne
  by_cases h0 : l[i]=n
  ·have : n∈l:=hne.2 (.inl h0.symm)
   simp [fillF,pickL,hlt,h1,h2,h5,h0]
   simp [this] at hq
   exact hq
  ·simp [fillF,pickL,hlt,h1,h2,h5,h0]
   refine hR _ _ _ (by omega) ⟨i + 1,rfl,by omega,rfl,⟨rfl,rfl,by simp [wrapS (show i < 9223372036854775807 by omega)]⟩,?_⟩
   rw [hne]
   simp [Ne.symm h0]
 ·have : i=l.length:=by omega
  subst this
  simp at hne
  simp [hne] at hq
  simp [fillF,pickL]
  exact hq

theorem extOK : ExtOK Tryz.prog G.ext:=extOr_ok insX_ok (extOr_ok arrX_ok (extOf_ok (P:=Tryz.prog) (ks:=[6]) fun k hk=>by
 simp only [List.mem_cons,List.not_mem_nil,or_false] at hk
 subst hk
 exact ⟨⟨Tryz.f6,Tryz.func6,by kernel_rfl,by kernel_rfl⟩,top_true⟩))

structure Arw where
 f : Int
 t : Int
 r : Int
 w : Int
 deriving DecidableEq
def Arw.cells (x : Arw) : List Value:=[.int .i64 x.f,.int .i64 x.t,.int .i64 x.r,.int .i64 x.w]
def cmpA (x y : Arw) : Int:=if cmpI x.f y.f≠0 then cmpI x.f y.f else cmpI x.t y.t
theorem compareArrows_ok {S : AS} {x y : Arw} {Q : En→AS→Prop} (hq : ∀ S',Same S S' []→Q (.ret (.int .i64 (cmpA x y))) S') : Call G 80 [.agg x.cells.toArray,.agg y.cells.toArray] S Q:=by
 refine call_run' (G:=G) rfl (ext_none (by decide)) ?_
 simp [Arw.cells]
 refine compare_ok ?_
 simp
 refine compare_ok ?_
 simp [placeIn,splice]
 refine or_ok (l:=[cmpI x.f y.f,cmpI x.t y.t]) (Is.row (wr:=true) (ex:=true) (by simp) (by simp) (by simp)) ?_
 have hr : (List.find? (fun x=>decide (x≠0)) [cmpI x.f y.f,cmpI x.t y.t]).getD 0=cmpA x y:=by
  unfold cmpA
  by_cases h1 : cmpI x.f y.f=0
  ·by_cases h2 : cmpI x.t y.t=0
   ·simp [h1,h2]
   ·simp [h1,h2]
  ·simp [h1]
 rw [hr]
 simp
 refine hq _ ?_
 repeat' first | exact Same.refl _ _ | apply Same.bu | (refine Same.pn ?_ (by first | omega | (simp; omega)))
def arrOk (N : Int) (x : Arw) : Bool:=decide (0≤x.f∧x.f≤N - 1) && decide (0≤x.t∧x.t≤N - 1) && decide (x.f≠x.t) && decide (0≤x.r∧x.r≤23) && decide (1≤x.w∧x.w≤1000)
def ltA (x y : Arw) : Bool:=decide (x.f < y.f∨x.f=y.f∧x.t < y.t)
theorem cmpA_lt (x y : Arw) : cmpA x y < 0↔ltA x y=true:=by
 unfold cmpA cmpI ltA
 simp only [decide_eq_true_eq]
 repeat' split
 all_goals omega
def arrsOk (N : Int) : Option Arw→List Arw→Bool
 | _,[]=>true
 | none,x :: r=>arrOk N x && arrsOk N (some x) r
 | some y,x :: r=>arrOk N x && ltA y x && arrsOk N (some x) r
def checkR (N : Int) (l : List Arw) : Int:=if N > 24 then 2 else if N < 0 then 1 else if arrsOk N none l=true then 0 else 1
structure As (S : AS) (v : Value) (l : List Arw) : Prop where
 ps : Ps S 4 v (l.map Arw.cells)
 small : l.length≤9223372036854775807
theorem As.stays {S S' : AS} {v : Value} {l : List Arw} (h : As S v l) {fp : List Nat} (hs : Same S S' fp) (hd : ∀ m∈ownsOf v,m∉fp) : As S' v l:=⟨h.ps.stays hs hd,h.small⟩
theorem As.stay0 {S S' : AS} {v : Value} {l : List Arw} (h : As S v l) (hs : Same S S' []) : As S' v l:=h.stays hs (by simp)
theorem As.shape {S : AS} {v : Value} {l : List Arw} (h : As S v l) : ∃ a cap,v=.slice a l.length cap:=by
 obtain ⟨a,cap,e⟩:=h.ps.shape
 exact ⟨a,cap,by rw [e,List.length_map]⟩
theorem As.at {S : AS} {v : Value} {l : List Arw} (h : As S v l) {i : Nat} (hi : i < l.length) :
  ∃ p o cells e wr ex,(∀ (S' : AS) (j : IntKind),idxE S' 4 none (.int j i) v=.ret (.pointer (some ⟨p,o,none⟩),S'))∧S.get p=some (.row cells e wr ex)∧p < S.next∧p∈ownsOf v ∧
   rowLoad cells o (some 4)=some (.agg l[i].cells.toArray)∧cells[o]?=some (.int .i64 l[i].f)∧cells[o + 1]?=some (.int .i64 l[i].t)∧cells[o + 2]?=some (.int .i64 l[i].r)∧cells[o + 3]?=some (.int .i64 l[i].w):=by
 obtain ⟨p,o,cells,e,wr,ex,h1,h2,h3,h4,h5,h6⟩:=h.ps.idx (S':=S) (by omega) (j:=.i64) (i:=i) (l:=l[i].cells) (by simp [hi])
 refine ⟨p,o,cells,e,wr,ex,fun S' j=>?_,h2,h3,h4,h6,h5 0 (by omega),h5 1 (by omega),h5 2 (by omega),h5 3 (by omega)⟩
 obtain ⟨a,cap,rfl⟩:=h.shape
 match a with
 | none=>simp [idxE] at h1
 | some ⟨b,q,some s⟩=>simp [idxE] at h1
 | some ⟨b,q,none⟩=>
  simp [hi] at h1 ⊢
  exact h1
theorem rankCheck_ok {S : AS} {v : Value} {N : Int} {l : List Arw} (h : As S v l) {Q : En→AS→Prop} (hq : ∀ S',Same S S' []→Q (.ret (.int .i64 (checkR N l))) S') : Call G 53 [.agg #[.int .i64 N,v]] S Q:=by
 obtain ⟨a,cap,rfl⟩:=h.shape
 refine call_run' (G:=G) rfl (ext_none (by decide)) ?_
 simp
 by_cases h24 : N > 24
 ·simp [h24]
  have : checkR N l=2:=by unfold checkR; rw [if_pos h24]
  rw [this] at hq
  refine hq _ ?_
  repeat' first | exact Same.refl _ _ | apply Same.bu | (refine Same.pn ?_ (by first | omega | (simp; omega)))
 ·by_cases h0 : N < 0
  ·simp [h24,h0]
   have : checkR N l=1:=by unfold checkR; rw [if_neg h24,if_pos h0]
   rw [this] at hq
   refine hq _ ?_
   repeat' first | exact Same.refl _ _ | apply Same.bu | (refine Same.pn ?_ (by first | omega | (simp; omega)))
  ·simp [h24,h0]
   have hsm:=h.small
   have hcr : checkR N l=if arrsOk N none l=true then 0 else 1:=by unfold checkR; rw [if_neg h24,if_neg h0]
   have hw1 : IntKind.i64.wrap (N - 1)=N - 1:=wrap64 (by omega) (by omega)
   refine run_loop (fun j a' S'=>∃ i,j=l.length - i∧i≤l.length∧Same S S' []∧S.next < S'.next∧S'.get S.next=some (.row [.int .i64 N,.slice a l.length cap] 24 true true)∧Has a' 68 [(1,ptr S.next),(12,.slice a l.length cap),(13,.int .i64 l.length),(14,.int .i64 i)]∧arrsOk N none l=arrsOk N (if i=0 then none else l[i - 1]?) (l.drop i)) _ ⟨0,rfl,by omega,(by repeat' first | exact Same.refl _ _ | apply Same.bu | (refine Same.pn ?_ (by first | omega | (simp; omega)))),by simp,by simp,⟨rfl,rfl,by simp⟩,by simp⟩ ?_
   rintro _ R hR _ S1 ⟨i,rfl,hi,hs1,hn1,hg1,ha,hok⟩
   obtain ⟨x,rfl⟩:=ha.lit
   by_cases hlt : i < l.length
   ·obtain ⟨p,o,cells,e,wr,ex,h1,h2,h3,h4,h5,h6,h7,h8,h9⟩:=(h.stay0 hs1).at hlt
    have hlt' : (i : Int) < l.length:=by omega
    rw [List.drop_eq_getElem_cons hlt] at hok
    have hp1 : p≠S1.next:=by omega
    have hp2 : S.next≠S1.next:=by omega
    have bad : arrsOk N none l=false→∀ U,Same S U []→Q (.ret (.int .i64 1)) U:=fun hb U hU=>by
     rw [hcr,hb] at hq; exact hq U hU
    have hokx : arrOk N l[i]=false→arrsOk N none l=false:=fun hf=>by
     rw [hok]
     by_cases hi0 : i=0
     ·subst hi0; simp [arrsOk,hf]
     ·simp only [hi0,if_false]
      rw [List.getElem?_eq_getElem (show i - 1 < l.length by omega)]; simp [arrsOk,hf]
    have hsU : ∀ o1 o2,Same S (((S1.bump 1).put S1.next o1).put S1.next o2) []:=fun o1 o2=>by
     repeat' first | exact hs1 | apply Same.bu | (refine Same.pn ?_ (by first | omega | (simp; omega)))
    simp [fillF,pickL,hlt,hlt',h1,h2,h5,hp1,hp2,Arw.cells,rowStore,splice,hg1,hw1]
    refine in_ok ?_
    by_cases c1 : 0≤l[i].f∧l[i].f≤N - 1
    ·simp [c1,hg1,hp2,hw1]
     refine in_ok ?_
     by_cases c2 : 0≤l[i].t∧l[i].t≤N - 1
     ·simp [c2,hg1,hp2,hw1]
      by_cases c3 : l[i].f=l[i].t
      ·simp [c3]
       exact bad (hokx (by simp [arrOk,c3])) _ (hsU _ _)
      ·simp [c3]
       refine in_ok ?_
       by_cases c4 : 0≤l[i].r∧l[i].r≤23
       ·simp [c4]
        refine in_ok ?_
        by_cases c5 : 1≤l[i].w∧l[i].w≤1000
        ·simp [c5]
         have hax : arrOk N l[i]=true:=by simp [arrOk,c1,c2,c3,c4,c5]
         by_cases hi0 : i=0
         ·have hi0' : ¬ 0 < i:=by omega
          simp [hi0']
          refine hR _ _ _ (by omega) ⟨i + 1,rfl,by omega,hsU _ _,by simp; omega,by simp [hp2,hg1],⟨rfl,rfl,by simp [wrapS (show i < 9223372036854775807 by omega)]⟩,?_⟩
          rw [hok,if_pos hi0,if_neg (by omega),Nat.add_sub_cancel,List.getElem?_eq_getElem hlt]
          simp [arrsOk,hax]
         ·have hi1 : i - 1 < l.length:=by omega
          obtain ⟨p',o',cells',e',wr',ex',g1,g2,g3,g4,g5,_⟩:=(h.stay0 hs1).at hi1
          have hw2 : IntKind.i64.wrap ((i : Int) - 1)=((i - 1 : Nat) : Int):=by rw [wrap64 (by omega) (by omega)]; omega
          have hp3 : p'≠S1.next:=by omega
          have hi0' : 0 < i:=by omega
          simp [hi0',hi0,hg1,hp2,hw2,g1,g2,g5,hp3]
          refine compareArrows_ok (x:=l[i - 1]) (y:=l[i]) fun S2 hs2=>?_
          have hs3:=(hsU (AObj.row [Value.int IntKind.i64 0,Value.int IntKind.i64 0,Value.int IntKind.i64 0,Value.int IntKind.i64 0] 86 true true) (AObj.row l[i].cells 86 true true)).tr0 hs2
          have k1 : S2.get S.next=_:=(hs2.2 S.next (by simp; omega) (by simp)).trans (by simp [hp2]; exact hg1)
          have k2 : S2.get S1.next=_:=(hs2.2 S1.next (by simp) (by simp)).trans (by simp; rfl)
          have k3 : S2.get p'=_:=(hs2.2 p' (by simp; omega) (by simp)).trans (by simp [hp3]; exact g2)
          simp [k1,k2,k3,g1,g5,hw2,hi0']
          have hlt2:=cmpA_lt l[i - 1] l[i]
          rw [if_neg hi0,List.getElem?_eq_getElem hi1] at hok
          by_cases hc : 0≤cmpA l[i - 1] l[i]
          ·have hf : ltA l[i - 1] l[i]=false:=by
            cases hh : ltA l[i - 1] l[i] with
            | false=>rfl
            | true=>have:=hlt2.2 hh; omega
           simp [hc]
           exact bad (by rw [hok]; simp [arrsOk,hf]) _ hs3
          ·have hf : ltA l[i - 1] l[i]=true:=hlt2.1 (by omega)
           simp [hc]
           refine hR _ _ _ (by omega) ⟨i + 1,rfl,by omega,hs3,by have:=hs2.1; simp at this; omega,k1,⟨rfl,rfl,by simp [wrapS (show i < 9223372036854775807 by omega)]⟩,?_⟩
           rw [hok,if_neg (by omega),Nat.add_sub_cancel,List.getElem?_eq_getElem hlt]
           simp [arrsOk,hax,hf]
        ·simp [c5]
         exact bad (hokx (by simp only [arrOk,c5]; simp)) _ (hsU _ _)
       ·simp [c4]
        exact bad (hokx (by simp only [arrOk,c4]; simp)) _ (hsU _ _)
     ·simp [c2]
      exact bad (hokx (by simp only [arrOk,c2]; simp)) _ (hsU _ _)
    ·simp [c1]
     exact bad (hokx (by simp only [arrOk,c1]; simp)) _ (hsU _ _)
   ·have hlt' : ¬ (i : Int) < l.length:=by omega
    obtain rfl : i=l.length:=by omega
    simp [fillF,pickL]
    rw [List.drop_length] at hok
    have : arrsOk N none l=true:=by rw [hok]; split <;> simp [arrsOk]
    rw [hcr,this] at hq
    exact hq _ hs1

set_option maxHeartbeats 4000000
theorem refCheck_ok {S : AS} {v : Value} {N : Int} {l : List Arw} (h : As S v l) {Q : En→AS→Prop} (hq : ∀ S',Same S S' []→Q (.ret (.int .i64 (checkR N l))) S') : Call G 59 [.agg #[.int .i64 N,v]] S Q:=by
 obtain ⟨a,cap,rfl⟩:=h.shape
 refine call_run' (G:=G) rfl (ext_none (by decide)) ?_
 simp
 by_cases h24 : N > 24
 ·simp [h24]
  have : checkR N l=2:=by unfold checkR; rw [if_pos h24]
  rw [this] at hq
  refine hq _ ?_
  repeat' first | exact Same.refl _ _ | apply Same.bu | (refine Same.pn ?_ (by first | omega | (simp; omega)))
 ·by_cases h0 : N < 0
  ·simp [h24,h0]
   have : checkR N l=1:=by unfold checkR; rw [if_neg h24,if_pos h0]
   rw [this] at hq
   refine hq _ ?_
   repeat' first | exact Same.refl _ _ | apply Same.bu | (refine Same.pn ?_ (by first | omega | (simp; omega)))
  ·simp [h24,h0]
   have hsm:=h.small
   have hcr : checkR N l=if arrsOk N none l=true then 0 else 1:=by unfold checkR; rw [if_neg h24,if_neg h0]
   refine run_loop (fun j a' S'=>∃ i,j=l.length - i∧i≤l.length∧Same S S' []∧S.next < S'.next∧S'.get S.next=some (.row [.int .i64 N,.slice a l.length cap] 24 true true)∧Has a' 100 [(1,ptr S.next),(3,.int .i64 i)]∧arrsOk N none l=arrsOk N (if i=0 then none else l[i - 1]?) (l.drop i)) _ ⟨0,rfl,by omega,(by repeat' first | exact Same.refl _ _ | apply Same.bu | (refine Same.pn ?_ (by first | omega | (simp; omega)))),by simp,by simp,⟨rfl,rfl,by simp⟩,by simp⟩ ?_
   rintro _ R hR _ S1 ⟨i,rfl,hi,hs1,hn1,hg1,ha,hok⟩
   obtain ⟨x,rfl⟩:=ha.lit
   by_cases hlt : i < l.length
   ·obtain ⟨p,o,cells,e,wr,ex,h1,h2,h3,h4,h5,h6,h7,h8,h9⟩:=(h.stay0 hs1).at hlt
    have hlt' : (i : Int) < l.length:=by omega
    rw [List.drop_eq_getElem_cons hlt] at hok
    have hp1 : p≠S1.next:=by omega
    have hp2 : S.next≠S1.next:=by omega
    have bad : arrsOk N none l=false→∀ U,Same S U []→Q (.ret (.int .i64 1)) U:=fun hb U hU=>by
     rw [hcr,hb] at hq; exact hq U hU
    have hokx : arrOk N l[i]=false→arrsOk N none l=false:=fun hf=>by
     rw [hok]
     by_cases hi0 : i=0
     ·subst hi0; simp [arrsOk,hf]
     ·simp only [hi0,if_false]
      rw [List.getElem?_eq_getElem (show i - 1 < l.length by omega)]; simp [arrsOk,hf]
    have hsU : ∀ o1 o2,Same S (((S1.bump 1).put S1.next o1).put S1.next o2) []:=fun o1 o2=>by
     repeat' first | exact hs1 | apply Same.bu | (refine Same.pn ?_ (by first | omega | (simp; omega)))
    simp [fillF,pickL,hlt,hlt',h1,h2,h5,hp1,hp2,Arw.cells,rowStore,splice,hg1]
    by_cases c1 : l[i].f < 0
    ·simp [c1]
     exact bad (hokx (by simp [arrOk]; omega)) _ (hsU _ _)
    simp [c1,hg1,hp2]
    by_cases c2 : N≤l[i].f
    ·simp [c2]
     exact bad (hokx (by simp [arrOk]; omega)) _ (hsU _ _)
    simp [c2,hg1,hp2]
    by_cases c3 : l[i].t < 0
    ·simp [c3]
     exact bad (hokx (by simp [arrOk]; omega)) _ (hsU _ _)
    simp [c3,hg1,hp2]
    by_cases c4 : N≤l[i].t
    ·simp [c4]
     exact bad (hokx (by simp [arrOk]; omega)) _ (hsU _ _)
    simp [c4,hg1,hp2]
    by_cases c5 : l[i].f=l[i].t
    ·simp [c5]
     exact bad (hokx (by simp [arrOk,c5])) _ (hsU _ _)
    simp [c5,hg1,hp2]
    by_cases c6 : l[i].r < 0
    ·simp [c6]
     exact bad (hokx (by simp [arrOk]; omega)) _ (hsU _ _)
    simp [c6,hg1,hp2]
    by_cases c7 : 23 < l[i].r
    ·simp [c7]
     exact bad (hokx (by simp [arrOk]; omega)) _ (hsU _ _)
    simp [c7,hg1,hp2]
    by_cases c8 : l[i].w < 1
    ·simp [c8]
     exact bad (hokx (by simp [arrOk]; omega)) _ (hsU _ _)
    simp [c8,hg1,hp2]
    by_cases c9 : 1000 < l[i].w
    ·simp [c9]
     exact bad (hokx (by simp [arrOk]; omega)) _ (hsU _ _)
    simp [c9,hg1,hp2]
    have hax : arrOk N l[i]=true:=by simp [arrOk]; omega
    by_cases hi0 : i=0
    ·have hi0' : ¬ 0 < i:=by omega
     simp [hi0']
     refine hR _ _ _ (by omega) ⟨i + 1,rfl,by omega,hsU _ _,by simp; omega,by simp [hp2,hg1],⟨rfl,rfl,by simp [wrapS (show i < 9223372036854775807 by omega)]⟩,?_⟩
     rw [hok,if_pos hi0,if_neg (by omega),Nat.add_sub_cancel,List.getElem?_eq_getElem hlt]
     simp [arrsOk,hax]
    ·have hi1 : i - 1 < l.length:=by omega
     obtain ⟨p',o',cells',e',wr',ex',g1,g2,g3,g4,g5,_⟩:=(h.stay0 hs1).at hi1
     have hw2 : IntKind.i64.wrap ((i : Int) - 1)=((i - 1 : Nat) : Int):=by rw [wrap64 (by omega) (by omega)]; omega
     have hp3 : p'≠S1.next:=by omega
     have hi0' : 0 < i:=by omega
     have hp4 : S.next≠S1.next + 1:=by omega
     have hp5 : p'≠S1.next + 1:=by omega
     simp [hi0',hi0,hg1,hp2,hw2,g1,g2,g5,hp3,hp4,hp5,Arw.cells,rowStore,splice]
     have hsV : ∀ o1 o2 o3 o4,Same S (((((((S1.bump 1).put S1.next o1).put S1.next o2).bump 1).put (S1.next + 1) o3).put (S1.next + 1) o4)) []:=fun o1 o2 o3 o4=>by
      repeat' first | exact hs1 | apply Same.bu | (refine Same.pn ?_ (by first | omega | (simp; omega)))
     rw [if_neg hi0,List.getElem?_eq_getElem hi1] at hok
     have nlt : ltA l[i - 1] l[i]=false→arrsOk N none l=false:=fun hf=>by rw [hok]; simp [arrsOk,hf]
     have go : ltA l[i - 1] l[i]=true→arrsOk N none l=arrsOk N (if i + 1=0 then none else l[i + 1 - 1]?) (l.drop (i + 1)):=fun hf=>by
      rw [hok,if_neg (by omega),Nat.add_sub_cancel,List.getElem?_eq_getElem hlt]
      simp [arrsOk,hax,hf]
     by_cases d1 : l[i].f < l[i - 1].f
     ·simp [d1,undef]
      exact bad (nlt (by simp [ltA]; omega)) _ (hsV _ _ _ _)
     ·simp [d1]
      by_cases d2 : l[i - 1].f=l[i].f
      ·simp [d2]
       by_cases d3 : l[i].t≤l[i - 1].t
       ·simp [d3]
        exact bad (nlt (by simp [ltA]; omega)) _ (hsV _ _ _ _)
       ·simp [d3]
        refine hR _ _ _ (by omega) ⟨i + 1,rfl,by omega,hsV _ _ _ _,by simp; omega,by simp [hp2,hp4,hg1],⟨rfl,rfl,by simp [wrapS (show i < 9223372036854775807 by omega)]⟩,go (by simp [ltA]; omega)⟩
      ·simp [d2]
       refine hR _ _ _ (by omega) ⟨i + 1,rfl,by omega,hsV _ _ _ _,by simp; omega,by simp [hp2,hp4,hg1],⟨rfl,rfl,by simp [wrapS (show i < 9223372036854775807 by omega)]⟩,go (by simp [ltA]; omega)⟩
   ·have hlt' : ¬ (i : Int) < l.length:=by omega
    obtain rfl : i=l.length:=by omega
    simp [fillF,pickL,hg1]
    rw [List.drop_length] at hok
    have : arrsOk N none l=true:=by rw [hok]; split <;> simp [arrsOk]
    rw [hcr,this] at hq
    exact hq _ hs1
end Go.Gx.Z
