/-
  Lists that are made; the reference's kept list.
-/
import Derived.Test.YtnhaainnhmmbfaaGreatPl
set_option linter.all false
set_option linter.deprecated false
namespace Go.Gx.Z
open Go.Gx Go.Proofs
set_option maxRecDepth 100000
set_option maxHeartbeats 4000000
def ones (l : List Int) : List (List Value):=l.map fun x=>[.int .i64 x]
theorem ones_flat (l : List Int) : (ones l).flatten=ints l:=by
 induction l with
 | nil=>rfl
 | cons x l ih=>simp only [ones,List.map_cons,List.flatten_cons] at ih ⊢; rw [ih]; rfl
@[simp] theorem ones_len (l : List Int) : (ones l).length=l.length:=by simp [ones]
theorem ones_uni (l : List Int) : Uni 1 (ones l):=by
 intro x hx
 obtain ⟨y,_,rfl⟩:=List.mem_map.1 hx
 rfl
theorem ones_append (l m : List Int) : ones (l ++ m)=ones l ++ ones m:=by simp [ones]
def Ow (S : AS) (v : Value) (l : List Int) : Prop:=SlAt S 3 v (ones l)∧l.length≤9223372036854775807
theorem Ow.nil {S : AS} : Ow S (.slice none 0 0) []:=⟨.inl ⟨rfl,rfl⟩,by simp⟩
theorem Ow.is {S : AS} {v : Value} {l : List Int} (h : Ow S v l) : Is S v l:=by
 refine ⟨h.2,?_⟩
 rcases h.1 with ⟨rfl,hn⟩ | ⟨p,ex,rfl,h2,h3⟩
 ·have : l=[]:=by
   have:=congrArg List.length hn
   simp at this
   exact this
  exact .inl ⟨this,.inl rfl⟩
 ·rw [ones_flat] at h2
  refine .inr ⟨p,0,l.length,ints l,3,true,ex,by simp,Nat.le_refl _,h2,h3,.inr rfl,by simp,by rw [List.drop_zero,← ints_len,List.take_length]⟩
theorem Ow.shape {S : AS} {v : Value} {l : List Int} (h : Ow S v l) : ∃ a,v=.slice a l.length l.length:=by
 rcases h.1 with ⟨rfl,hn⟩ | ⟨p,ex,rfl,h2,h3⟩
 ·have:=congrArg List.length hn
  simp at this
  exact ⟨none,by rw [this]; rfl⟩
 ·exact ⟨some ⟨p,0,none⟩,by simp⟩
theorem Ow.owns_lt {S : AS} {v : Value} {l : List Int} (h : Ow S v l) : ∀ b∈ownsOf v,b < S.next:=h.1.owns_lt
theorem Ow.stays {S S' : AS} {v : Value} {l : List Int} (h : Ow S v l) {fp : List Nat} (hs : Same S S' fp) (hd : ∀ m∈ownsOf v,m∉fp) : Ow S' v l:=⟨h.1.stays hs hd,h.2⟩
theorem Ow.stay0 {S S' : AS} {v : Value} {l : List Int} (h : Ow S v l) (hs : Same S S' []) : Ow S' v l:=h.stays hs (by simp)
theorem Ow.app {S : AS} {v : Value} {l : List Int} (h : Ow S v l) {T : AS} {y : Value} {m : List Int} {fr : Nat} (hb : l.length + m.length≤100000) (hT : Same S T []) (hy : Is T y m) (hfr : fr < T.next) (hfS : S.next≤fr) :
  ∃ T' a,appV T fr 3 1 8 v y=some (.slice a (l.length + m.length) (l.length + m.length),T')∧Ow T' (.slice a (l.length + m.length) (l.length + m.length)) (l ++ m)∧Same S T' (ownsOf v)∧T'.next=T.next∧∀ q∈ownsOf (.slice a (l.length + m.length) (l.length + m.length)),q∈ownsOf v∨q=fr:=by
 have hsl:=h.1.stays hT (by simp)
 have hc:=hy.cs.cells
 rw [ints_len] at hc
 by_cases hm : m=[]
 ·subst hm
  obtain ⟨a,rfl⟩:=h.shape
  refine ⟨T,a,?_,?_,⟨hT.1,fun q hq _=>hT.2 q hq (by simp)⟩,rfl,fun q hq=>.inl hq⟩
  ·unfold appV
   rw [hc]
   simp
  ·have:=h.stay0 hT
   simpa using this
 ·have hne : ones m≠[]:=by
   intro e
   have:=congrArg List.length e
   simp at this
   exact hm this
  obtain ⟨T0,a1,a2,a3⟩:=appV_new (fr:=fr) (bytes:=8) (ms:=ones m) (y:=y) hsl (ones_uni l) (by omega) hne (ones_uni m) (by rw [hc,ones_len,ones_flat]) (by simp; omega) (by omega) (by rw [ones_flat]; exact ints_ok m)
  simp only [ones_len] at a1
  refine ⟨_,some ⟨fr,0,none⟩,a1,⟨.inr ⟨fr,false,by simp,?_,by simp only [AS.next_put,a2]; exact hfr⟩,by simp; omega⟩,?_,by simp only [AS.next_put]; exact a2,fun q hq=>.inr (by simpa [ownsOf] using hq)⟩
  ·rw [AS.get_put_self,ones_append]
  ·refine ⟨by simp only [AS.next_put,a2]; exact hT.1,fun q hq hn=>?_⟩
   rw [AS.get_put_ne _ _ (by omega),a3 q hn,hT.2 q hq (by simp)]
theorem Is.one {S : AS} {p : Nat} {x : Int} {wr ex : Bool} (h : S.get p=some (.row [.int .i64 x] 3 wr ex)) (hp : p < S.next) : Is S (.slice (some ⟨p,0,none⟩) 1 1) [x]:=Is.row (l:=[x]) h hp (by simp)

def SB (B : Nat) (S S' : AS) (fp : List Nat) : Prop:=S.next≤S'.next∧∀ m,m < B→m∉fp→S'.get m=S.get m
theorem SB.refl (B : Nat) (S : AS) (fp : List Nat) : SB B S S fp:=⟨Nat.le_refl _,fun _ _ _=>rfl⟩
theorem SB.trans {B : Nat} {S U V : AS} {fp : List Nat} (h : SB B S U fp) (k : SB B U V fp) : SB B S V fp:=⟨Nat.le_trans h.1 k.1,fun m hm hn=>by rw [k.2 m hm hn,h.2 m hm hn]⟩
theorem SB.bu {B : Nat} {S U : AS} {fp : List Nat} {k : Nat} (h : SB B S U fp) : SB B S (U.bump k) fp:=⟨by have:=h.1; simp; omega,fun m hm hn=>by rw [AS.get_bump]; exact h.2 m hm hn⟩
theorem SB.pn {B : Nat} {S U : AS} {fp : List Nat} {d : Nat} {o : AObj} (h : SB B S U fp) (hd : B≤d) : SB B S (U.put d o) fp:=⟨by have:=h.1; simp; omega,fun m hm hn=>by rw [AS.get_put_ne _ _ (by omega)]; exact h.2 m hm hn⟩
theorem SB.po {B : Nat} {S U : AS} {fp : List Nat} {d : Nat} {o : AObj} (h : SB B S U fp) (hd : d∈fp) : SB B S (U.put d o) fp:=⟨by have:=h.1; simp; omega,fun m hm hn=>by rw [AS.get_put_ne _ _ (by rintro rfl; exact hn hd)]; exact h.2 m hm hn⟩
theorem SB.of {B : Nat} {S U V : AS} {fp gp : List Nat} (h : SB B S U fp) (k : Same U V gp) (hB : B≤U.next) (hg : ∀ m∈gp,B≤m∨m∈fp) : SB B S V fp:=by
 refine ⟨Nat.le_trans h.1 k.1,fun m hm hn=>?_⟩
 have : m∉gp:=fun hk=>by
  rcases hg m hk with h | h
  ·omega
  ·exact hn h
 rw [k.2 m (by omega) this,h.2 m hm hn]
theorem Is.sb {B : Nat} {S S' : AS} {v : Value} {l : List Int} (h : Is S v l) {fp : List Nat} (hs : SB B S S' fp) (hb : ∀ m∈ownsOf v,m < B∧m∉fp) : Is S' v l:=by
 refine ⟨h.small,?_⟩
 rcases h.c with h | ⟨p,o,cap,cells,e,wr,ex,rfl,h1,h2,h3,h4,h5,h6⟩
 ·exact .inl h
 ·have:=hb p (by simp [ownsOf])
  exact .inr ⟨p,o,cap,cells,e,wr,ex,rfl,h1,by rw [hs.2 p this.1 this.2]; exact h2,Nat.lt_of_lt_of_le h3 hs.1,h4,h5,h6⟩
theorem _root_.Go.Gx.MapAt.sb {B : Nat} {S S' : AS} {n : Nat} {ks : List K} {agg : Bool} {α : Type} [DecidableEq α] {key : α→Value} {f : α→Option Value} (h : MapAt S n ks agg key f) {fp : List Nat} (hs : SB B S S' fp) (hn : n < B) (hf : n∉fp) : MapAt S' n ks agg key f:=by
 obtain ⟨es,c,h1,h2⟩:=h
 exact ⟨es,c,by rw [hs.2 n hn hf]; exact h1,h2⟩
def flw : List Pl→Nat→Nat→List Int
 | [],_,_=>[]
 | (none,_) :: r,a,left=>if left=0 then [] else flw r a left
 | (some b,x) :: r,a,left=>if left=0 then [] else if 1 + L r (b + 1)=left∧a≤b then x :: flw r (b + 1) (left - 1) else flw r a left
theorem flw_kept : ∀ (r : List Pl) (a : Nat),flw r a (L r a)=keptG r a
 | [],_=>rfl
 | (none,y) :: r,a=>by
  simp only [flw,keptG,L]
  by_cases h : L r a=0
  ·simp only [h,if_true]
   have:=keptG_len r a
   rw [h] at this
   exact (List.length_eq_zero_iff.1 this).symm
  ·simp only [h,if_false]; exact flw_kept r a
 | (some b,x) :: r,a=>by
  have hlen:=keptG_len ((some b,x) :: r) a
  simp only [flw]
  by_cases h0 : L ((some b,x) :: r) a=0
  ·rw [if_pos h0]
   rw [h0] at hlen
   exact (List.length_eq_zero_iff.1 hlen).symm
  ·rw [if_neg h0]
   simp only [keptG]
   by_cases hc : a≤b∧1 + L r (b + 1)=L ((some b,x) :: r) a
   ·rw [if_pos ⟨hc.2,hc.1⟩,if_pos hc,← hc.2]
    have : 1 + L r (b + 1) - 1=L r (b + 1):=by omega
    rw [this,flw_kept r (b + 1)]
   ·rw [if_neg (fun h=>hc ⟨h.2,h.1⟩),if_neg hc]
    have : L ((some b,x) :: r) a=L r a:=by
     simp only [L] at hc ⊢
     by_cases hb : a≤b
     ·simp only [hb,if_true,true_and] at hc ⊢; omega
     ·simp [hb]
    rw [this,flw_kept r a]
def lgAt (old order : List Int) (i : Nat) : Int:=((lg (places old order)).getD i 0 : Nat)
theorem lgAt_none {old order : List Int} {i : Nat} (hi : i < old.length) (h : order.idxOf? old[i]=none) : lgAt old order i=0:=by
 unfold lgAt
 rw [List.getD_eq_getElem?_getD,lg_get (places old order) i (none,old[i]) (by simp [places,hi,h])]
 rfl
theorem lgAt_some {old order : List Int} {i b : Nat} (hi : i < old.length) (h : order.idxOf? old[i]=some b) : lgAt old order i=(1 + L ((places old order).drop (i + 1)) (b + 1) : Nat):=by
 unfold lgAt
 rw [List.getD_eq_getElem?_getD,lg_get (places old order) i (some b,old[i]) (by simp [places,hi,h])]
 rfl
def plV (order : List Int) (x : Int) : Option Value:=(order.idxOf? x).map fun (i : Nat)=>Value.int .i64 i
structure KM (S : AS) (B c2 c8 c5 c16 c17 lr mp : Nat) (v2 : Value) (old order : List Int) : Prop where
 g2 : S.get c2=some (.row [v2] 25 true true)
 is : Is S v2 old
 g8 : S.get c8=some (.row [rowv old.length lr] 25 true true)
 gl : S.get lr=some (.row (rowc old.length (lgAt old order)) 3 true true)
 g5 : S.get c5=some (.row [.map (some mp)] 126 true true)
 gm : MapAt S mp [.int .i64] false (fun x : Int=>Value.int .i64 x) (plV order)
 g17 : S.get c17=some (.row [.func (.func 76) #[] #[ptr c2,ptr c8,ptr c5,ptr c16,ptr c17]] 137 true true)
 lt : c2 < B∧c8 < B∧c5 < B∧c16 < B∧c17 < B∧lr < B∧mp < B∧B≤S.next
 ne : c2≠c16∧c8≠c16∧c5≠c16∧c17≠c16∧lr≠c16∧mp≠c16
 ow : ∀ m∈ownsOf v2,m < B∧m≠c16
theorem KM.sb {S S' : AS} {B c2 c8 c5 c16 c17 lr mp : Nat} {v2 : Value} {old order : List Int} (h : KM S B c2 c8 c5 c16 c17 lr mp v2 old order) (hs : SB B S S' [c16]) : KM S' B c2 c8 c5 c16 c17 lr mp v2 old order:=by
 obtain ⟨l1,l2,l3,l4,l5,l6,l7,l8⟩:=h.lt
 obtain ⟨n1,n2,n3,n4,n5,n6⟩:=h.ne
 exact ⟨by rw [hs.2 _ l1 (by simpa using n1)]; exact h.g2,h.is.sb hs (fun m hm=>by have:=h.ow m hm; simpa using this),by rw [hs.2 _ l2 (by simpa using n2)]; exact h.g8,by rw [hs.2 _ l6 (by simpa using n5)]; exact h.gl,
  by rw [hs.2 _ l3 (by simpa using n3)]; exact h.g5,h.gm.sb hs l7 (by simpa using n6),by rw [hs.2 _ l5 (by simpa using n4)]; exact h.g17,⟨l1,l2,l3,l4,l5,l6,l7,Nat.le_trans l8 hs.1⟩,h.ne,h.ow⟩
def Follows (B c2 c8 c5 c16 c17 lr mp : Nat) (v2 : Value) (old order : List Int) (from_ : Nat) : Prop:=∀ (a left : Nat),a≤order.length→left≤old.length→∀ (S : AS) (oa : Option Addr) (on : Nat) (out : List Int),
  KM S B c2 c8 c5 c16 c17 lr mp v2 old order→S.get c16=some (.row [.slice oa on on] 25 true true)→Ow S (.slice oa on on) out→on=out.length→out.length≤from_→(∀ m∈ownsOf (.slice oa on on),B≤m)→∀ (Q : En→AS→Prop),
  (∀ S' oa' on' out',SB B S S' [c16]→out'=out ++ flw ((places old order).drop from_) a left→S'.get c16=some (.row [.slice oa' on' on'] 25 true true)→Ow S' (.slice oa' on' on') out'→on'=out'.length→(∀ m∈ownsOf (.slice oa' on' on'),B≤m)→Q (.ret (.tuple #[])) S') →
  Call G 76 [.int .i64 from_,.int .i64 ((a : Int) - 1),.int .i64 left,ptr c2,ptr c8,ptr c5,ptr c16,ptr c17] S Q
theorem flw_zero : ∀ (r : List Pl) (a : Nat),flw r a 0=[]
 | [],_=>rfl
 | (none,_) :: _,_=>rfl
 | (some _,_) :: _,_=>rfl
theorem follow_step {B c2 c8 c5 c16 c17 lr mp : Nat} {v2 : Value} {old order : List Int} (hl1 : old.length≤1000) (hl2 : order.length≤1000) (from_ : Nat) (hf : from_≤old.length) (IH : ∀ f',from_ < f'→f'≤old.length→Follows B c2 c8 c5 c16 c17 lr mp v2 old order f') :
  Follows B c2 c8 c5 c16 c17 lr mp v2 old order from_:=by
 intro a left ha hle S oa on out hK h16 how hon hof hob Q hq
 subst hon
 obtain ⟨va,vcap,rfl⟩:=hK.is.shape
 refine call_run' (G:=G) rfl (ext_none (by decide)) ?_
 simp
 refine run_loop (fun j a' S'=>∃ i,j=old.length - i∧from_≤i∧i≤old.length∧S'=S∧Has a' 58 [(1,.int .i64 ((a : Int) - 1)),(2,.int .i64 left),(3,ptr c2),(4,ptr c8),(5,ptr c5),(6,ptr c16),(7,ptr c17),(11,.int .i64 i)] ∧
  flw ((places old order).drop from_) a left=flw ((places old order).drop i) a left) _ ⟨from_,rfl,by omega,hf,rfl,⟨rfl,rfl,by simp⟩,rfl⟩ ?_
 rintro _ R hR _ S ⟨i,rfl,hfi,hi,rfl,hA,hfl⟩
 obtain ⟨x,rfl⟩:=hA.lit
 have g2:=hK.g2
 have g8:=hK.g8
 have gl:=hK.gl
 have g5:=hK.g5
 have g17:=hK.g17
 have hpl : i < old.length→i < (places old order).length:=fun h=>by rw [places_len]; exact h
 by_cases hlt : i < old.length
 ·have hlt' : (i : Int) < old.length:=by omega
  have hp : (places old order)[i]'(hpl hlt)=(order.idxOf? old[i],old[i]):=by simp [places]
  rw [List.drop_eq_getElem_cons (hpl hlt),hp] at hfl
  by_cases h0 : left=0
  ·subst h0
   simp [fillF,pickL,g2,hlt,hlt']
   rw [flw_zero] at hq
   refine hq S oa out.length out (.refl _ _ _) (by simp) h16 how rfl hob
  ·have h0' : 0 < left:=by omega
   have h0'' : (0 : Int) < left:=by omega
   obtain ⟨p,o,cells,e,wr,ex,h1,h2,h3,h4,h5⟩:=hK.is.at hlt
   have r1:=rowc_get (f:=lgAt old order) hlt
   have hwS : IntKind.i64.wrap ((i : Int) + 1)=(i : Int) + 1:=wrapS (by omega)
   simp [fillF,pickL,g2,hlt,hlt',h0',h0'',g8,gl,r1,rowv]
   cases hix : order.idxOf? old[i] with
   | none=>
    have hc : ¬ lgAt old order i=(left : Int):=by rw [lgAt_none hlt hix]; omega
    rw [hix] at hfl
    simp only [flw,h0,if_false] at hfl
    simp [hc,hwS]
    exact hR _ _ _ (by omega) ⟨i + 1,rfl,by omega,by omega,rfl,⟨rfl,rfl,by simp⟩,hfl⟩
   | some b=>
    have hbl:=(List.getElem?_eq_some_iff.1 (idxOf_some hix).1).1
    have hlg:=lgAt_some hlt hix
    rw [hix] at hfl
    simp only [flw,h0,if_false] at hfl
    by_cases hc : 1 + L ((places old order).drop (i + 1)) (b + 1)=left
    ·have hc' : lgAt old order i=(left : Int):=by rw [hlg,hc]
     have hlook:=hK.gm.look keyInt old[i] (.int .i64 0) false
     have hpv : plV order old[i]=some (.int .i64 b):=by unfold plV; rw [hix]; rfl
     rw [hpv] at hlook
     simp only [Option.getD_some,Bool.false_eq_true,if_false] at hlook
     simp [hc',g5,g2,h1,h2,h5,hlook]
     by_cases hab : a≤b
     ·have hab' : (a : Int) - 1 < b:=by omega
      rw [if_pos ⟨hc,hab⟩] at hfl
      simp [hab',h16,g2,h1,h2,h5,placeIn,splice]
      obtain ⟨hB2,hB8,hB5,hB16,hB17,hBl,hBm,hBS⟩:=hK.lt
      obtain ⟨T',a',f1,f2,f3,f4,f5⟩:=how.app (T:=(S.bump 2).put S.next (.row [.int .i64 old[i]] 3 true true)) (y:=.slice (some ⟨S.next,0,none⟩) 1 1) (m:=[old[i]]) (fr:=S.next + 1) (by simp; omega)
       (by repeat' first | exact Same.refl _ _ | apply Same.bu | (refine Same.pn ?_ (by first | omega | (simp; omega)))) (Is.one (wr:=true) (ex:=true) (by simp) (by simp)) (by simp) (by omega)
      simp only [List.length_cons,List.length_nil,Nat.zero_add] at f1 f2 f5
      have sT : SB B S T' [c16]:=(SB.refl B S _).of f3 hBS (fun m hm=>.inl (hob m hm))
      have k16 : T'.get c16=some (.row [.slice oa out.length out.length] 25 true true):=by
       rw [f3.2 c16 (by omega) (fun hm=>by have:=hob _ hm; omega)]; exact h16
      simp [f1,k16,rowStore,splice]
      have hnew : ∀ m∈ownsOf (.slice a' (out.length + 1) (out.length + 1)),B≤m:=fun m hm=>by
       rcases f5 m hm with h | h
       ·exact hob m h
       ·omega
      have f2' : Ow (T'.put c16 (.row [.slice a' (out.length + 1) (out.length + 1)] 25 true true)) (.slice a' (out.length + 1) (out.length + 1)) (out ++ [old[i]]):=
       f2.stays (same_put T' c16 _) (fun m hm hh=>by have:=hnew m hm; simp at hh; omega)
      have sU : SB B S (T'.put c16 (.row [.slice a' (out.length + 1) (out.length + 1)] 25 true true)) [c16]:=sT.po (by simp)
      have u16 : (T'.put c16 (.row [.slice a' (out.length + 1) (out.length + 1)] 25 true true)).get c16=some (.row [.slice a' (out.length + 1) (out.length + 1)] 25 true true):=by simp
      revert f2' sU u16
      generalize T'.put c16 _=U
      intro f2' sU u16
      have hKU:=hK.sb sU
      obtain ⟨p',o',cells',e',wr',ex',q1,q2,q3,q4,q5⟩:=hKU.is.at hlt
      have hlook':=hKU.gm.look keyInt old[i] (.int .i64 0) false
      rw [hpv] at hlook'
      simp only [Option.getD_some,Bool.false_eq_true,if_false] at hlook'
      have hwL : IntKind.i64.wrap ((left : Int) - 1)=(left : Int) - 1:=wrap64 (by omega) (by omega)
      simp [hKU.g17,hKU.g2,hKU.g5,q1,q2,q5,hlook',hwS,hwL,calleeOf]
      have hrec:=IH (i + 1) (by omega) (by omega) (b + 1) (left - 1) (by omega) (by omega) U a' (out.length + 1) (out ++ [old[i]]) hKU u16 f2' (by simp) (by simp; omega) hnew
      have e1 : (((b + 1 : Nat) : Int) - 1)=b:=by omega
      have e2 : (((left - 1 : Nat) : Int))=(left : Int) - 1:=by omega
      have e3 : ((i + 1 : Nat) : Int)=(i : Int) + 1:=by omega
      rw [e1,e2,e3] at hrec
      refine hrec _ fun S' oa' on' out' s1 s2 s3 s4 s5 s6=>?_
      simp
      refine hq S' oa' on' out' (sU.trans s1) ?_ s3 s4 s5 s6
      rw [s2,hfl]; simp
     ·have hab' : ¬ (a : Int) - 1 < b:=by omega
      rw [if_neg (fun h=>hab h.2)] at hfl
      simp [hab',hwS]
      exact hR _ _ _ (by omega) ⟨i + 1,rfl,by omega,by omega,rfl,⟨rfl,rfl,by simp⟩,hfl⟩
    ·have hc' : ¬ lgAt old order i=(left : Int):=by rw [hlg]; omega
     rw [if_neg (fun h=>hc h.1)] at hfl
     simp [hc',hwS]
     exact hR _ _ _ (by omega) ⟨i + 1,rfl,by omega,by omega,rfl,⟨rfl,rfl,by simp⟩,hfl⟩
 ·have hlt' : ¬ (i : Int) < old.length:=by omega
  obtain rfl : i=old.length:=by omega
  rw [List.drop_eq_nil_of_le (show (places old order).length≤old.length by rw [places_len]; exact Nat.le_refl _)] at hfl
  simp [fillF,pickL,g2,hlt,hlt']
  simp only [flw] at hfl
  exact hq S oa out.length out (.refl _ _ _) (by rw [hfl]; simp) h16 how rfl hob
theorem follow_ok {B c2 c8 c5 c16 c17 lr mp : Nat} {v2 : Value} {old order : List Int} (hl1 : old.length≤1000) (hl2 : order.length≤1000) : ∀ (k from_ : Nat),old.length - from_≤k→from_≤old.length→Follows B c2 c8 c5 c16 c17 lr mp v2 old order from_
 | 0,from_,hk,hf=>follow_step hl1 hl2 from_ hf fun f' h1 h2=>by omega
 | k + 1,from_,hk,hf=>follow_step hl1 hl2 from_ hf fun f' h1 h2=>follow_ok hl1 hl2 k f' (by omega) h2

def plN (order : List Int) (i : Nat) (x : Int) : Option Value:=plV (order.take i) x
theorem plN_succ {order : List Int} (hn : order.Nodup) {i : Nat} (hi : i < order.length) : plN order (i + 1)=upd1 (plN order i) order[i] (.int .i64 i):=by
 funext x
 unfold upd1 plN plV
 rw [List.take_succ_eq_append_getElem hi]
 have hnt : ∀ j,j < i→order[j]?≠some order[i]:=fun j hj e=>by
  have:=nodup_inj hn e (List.getElem?_eq_getElem hi)
  omega
 have hni : order[i]∉order.take i:=by
  intro hm
  obtain ⟨j,hj⟩:=List.getElem?_of_mem hm
  have hjl : j < i:=by
   have:=(List.getElem?_eq_some_iff.1 hj).1
   simp at this; omega
  rw [List.getElem?_take_of_lt hjl] at hj
  exact hnt j hjl hj
 simp only [List.idxOf?]
 rw [List.findIdx?_append]
 by_cases hx : x=order[i]
 ·subst hx
  have : List.findIdx? (fun y=>y == order[i]) (order.take i)=none:=by
   rw [List.findIdx?_eq_none_iff]
   intro y hy
   simp
   rintro rfl; exact hni hy
  rw [this]
  simp; omega
 ·rw [if_neg hx]
  cases h : List.findIdx? (fun y=>y == x) (order.take i) with
  | some j=>simp
  | none=>
   have : List.findIdx? (fun y=>y == x) [order[i]]=none:=by
    rw [List.findIdx?_eq_none_iff]
    intro y hy
    simp at hy ⊢
    subst hy
    exact fun e=>hx e.symm
   rw [this]; rfl
theorem kept_ok {S : AS} {v w : Value} {old order : List Int} (h : Is S v old) (k : Is S w order) (hn : order.Nodup) (hl1 : old.length≤1000) (hl2 : order.length≤1000) {Q : En→AS→Prop}
  (hq : ∀ S' a n,Same S S' []→n=(kept old order).length→Ow S' (.slice a n n) (kept old order)→(∀ m∈ownsOf (.slice a n n),S.next≤m)→Q (.ret (.slice a n n)) S') : Call G 50 [v,w] S Q:=by
 obtain ⟨a,cap,rfl⟩:=h.shape
 obtain ⟨b,cap',rfl⟩:=k.shape
 refine call_run' (G:=G) rfl (ext_none (by decide)) ?_
 simp
 simp only [Nat.add_assoc,Nat.reduceAdd]
 refine run_loop (fun j a' S'=>∃ i,j=order.length - i∧i≤order.length∧SB S.next S S' []∧S'.next=S.next + 3∧S'.get S.next=some (.row [.slice a old.length cap] 25 true true)∧S'.get (S.next + 2)=some (.row [.map (some (S.next + 1))] 126 true true) ∧
  Has a' 105 [(2,ptr S.next),(5,ptr (S.next + 2)),(19,.slice b order.length cap'),(20,.int .i64 order.length),(21,.int .i64 i)]∧MapAt S' (S.next + 1) [.int .i64] false (fun x : Int=>Value.int .i64 x) (plN order i)) _ ⟨0,rfl,by omega,?_,by rfl,by simp,by simp,⟨rfl,rfl,by simp⟩,?_⟩ ?_
 ·repeat' first | exact SB.refl _ _ _ | apply SB.bu | (refine SB.pn ?_ (by first | omega | (simp; omega)))
 ·refine ⟨[],0,by simp,?_⟩
  have : plN order 0=fun _=>none:=by funext x; simp [plN,plV]
  rw [this]; exact Fnd.nil
 rintro _ R hR _ S1 ⟨i,rfl,hi,hs1,hn1,g1,g2,hA,hm⟩
 obtain ⟨x,rfl⟩:=hA.lit
 have okB : ∀ m∈ownsOf (Value.slice a old.length cap),m < S.next∧m∉[]:=fun m hm=>⟨h.owns_lt m hm,by simp⟩
 have okC : ∀ m∈ownsOf (Value.slice b order.length cap'),m < S.next∧m∉[]:=fun m hm=>⟨k.owns_lt m hm,by simp⟩
 by_cases hlt : i < order.length
 ·obtain ⟨p,o,cells,e,wr,ex,h1,h2,h3,h4,h5⟩:=(k.sb hs1 okC).at hlt
  obtain ⟨ob,e1,e2⟩:=hm.mset keyInt order[i] (.int .i64 i)
  simp [fillF,pickL,hlt,h1,h2,h5,g2,e1]
  rw [← plN_succ hn hlt] at e2
  exact hR _ _ _ (by omega) ⟨i + 1,rfl,by omega,hs1.pn (by omega),by simpa using hn1,by simp [g1],by simp [g2],⟨rfl,rfl,by simp [wrapS (show i < 9223372036854775807 by omega)]⟩,e2⟩
 ·obtain rfl : i=order.length:=by omega
  have hpl : plN order order.length=plV order:=by funext x; simp [plN]
  rw [hpl] at hm
  have c1 : 8 * (old.length : Int)≤281474976710656:=by omega
  have c2 : (old.length : Int)≤9223372036854775807:=by omega
  have hw1 : IntKind.i64.wrap ((old.length : Int) - 1)=(old.length : Int) - 1:=wrap64 (by omega) (by omega)
  have d1 : S.next≠S.next + 3:=by omega
  have d2 : S.next≠S.next + 3 + 1:=by omega
  have d3 : S.next + 2≠S.next + 3:=by omega
  have d4 : S.next + 2≠S.next + 3 + 1:=by omega
  have d5 : S.next + 3≠S.next + 3 + 1:=by omega
  simp [fillF,pickL,g1,c1,c2,hw1,rep_zero,hn1,d1,d2,d3,d4,d5]
  simp only [Nat.add_assoc,Nat.reduceAdd]
  refine run_loop (fun j a' S'=>∃ (i : Int) (f : Nat→Int),j=(i + 1).toNat∧-1≤i∧i < old.length∧SB S.next S S' []∧S'.next=S.next + 5∧S'.get S.next=some (.row [.slice a old.length cap] 25 true true)∧S'.get (S.next + 2)=some (.row [.map (some (S.next + 1))] 126 true true) ∧
   S'.get (S.next + 4)=some (.row [rowv old.length (S.next + 3)] 25 true true)∧S'.get (S.next + 3)=some (.row (rowc old.length f) 3 true true) ∧
   Has a' 105 [(2,ptr S.next),(5,ptr (S.next + 2)),(8,ptr (S.next + 4)),(9,.int .i64 i)]∧MapAt S' (S.next + 1) [.int .i64] false (fun x : Int=>Value.int .i64 x) (plV order) ∧
   ∀ j : Nat,j < old.length→f j=if i < j then lgAt old order j else 0) _ ⟨(old.length : Int) - 1,fun _=>0,rfl,by omega,by omega,?_,by simp [hn1],by simp [g1],by simp [g2,d3],by simp [rowv],by simp [d5],⟨rfl,rfl,by simp⟩,?_,fun j hj=>?_⟩ ?_
  ·repeat' first | exact hs1 | apply SB.bu | (refine SB.pn ?_ (by first | omega | (simp; omega)))
  ·obtain ⟨es,c,q1,q2⟩:=hm
   exact ⟨es,c,by simp [q1],q2⟩
  ·rw [if_neg (by omega)]
  rintro _ R hR _ S2 ⟨i,f,rfl,hi1,hi2,hs2,hn2,g1,g2,g8,gl,hA,hm,hf⟩
  obtain ⟨x,rfl⟩:=hA.lit
  by_cases hi0 : 0≤i
  ·obtain ⟨i,rfl⟩ : ∃ j : Nat,i=j:=⟨i.toNat,by omega⟩
   have hlt : i < old.length:=by omega
   obtain ⟨p,o,cells,e,wr,ex,h1,h2,h3,h4,h5⟩:=(h.sb hs2 okB).at hlt
   have hpS : p < S.next:=h.owns_lt p h4
   have hwS : IntKind.i64.wrap ((i : Int) + 1)=(i : Int) + 1:=wrapS (by omega)
   have hwP : IntKind.i64.wrap ((i : Int) - 1)=(i : Int) - 1:=wrap64 (by omega) (by omega)
   simp [fillF,pickL,g1,g2,h1,h2,h5,hm.look keyInt]
   cases hix : order.idxOf? old[i] with
   | none=>
    have hpv : plV order old[i]=none:=by unfold plV; rw [hix]; rfl
    simp [hpv,hwP]
    refine hR _ _ _ (by omega) ⟨(i : Int) - 1,f,rfl,by omega,by omega,hs2,hn2,g1,g2,g8,gl,⟨rfl,rfl,by simp⟩,hm,fun j hj=>?_⟩
    rw [hf j hj]
    by_cases hj2 : j=i
    ·subst hj2
     rw [if_neg (by omega),if_pos (by omega),lgAt_none hlt hix]
    ·exact ite_iff (by omega)
   | some b=>
    have hpv : plV order old[i]=some (.int .i64 b):=by unfold plV; rw [hix]; rfl
    have hbl:=(List.getElem?_eq_some_iff.1 (idxOf_some hix).1).1
    have w1:=fun x=>rowc_set (f:=f) (x:=x) hlt
    simp [hpv,g8,gl,rowv,hlt,w1,hwS]
    have hlg:=lgAt_some hlt hix
    have hn2' : S.next + 3 < S2.next:=by omega
    refine run_loop (fun j a' S'=>∃ (kk : Nat) (cur : Int),j=old.length - kk∧i < kk∧kk≤old.length∧SB S.next S S' []∧S'.next=S.next + 5∧S'.get S.next=some (.row [.slice a old.length cap] 25 true true)∧S'.get (S.next + 2)=some (.row [.map (some (S.next + 1))] 126 true true) ∧
     S'.get (S.next + 4)=some (.row [rowv old.length (S.next + 3)] 25 true true)∧S'.get (S.next + 3)=some (.row (rowc old.length fun j=>if j=i then cur else f j) 3 true true) ∧
     Has a' 105 [(2,ptr S.next),(5,ptr (S.next + 2)),(8,ptr (S.next + 4)),(9,.int .i64 i),(10,.int .i64 b),(12,.int .i64 kk)]∧MapAt S' (S.next + 1) [.int .i64] false (fun x : Int=>Value.int .i64 x) (plV order) ∧
     1≤cur∧cur≤2000∧max cur (1 + (L ((places old order).drop kk) (b + 1) : Nat))=lgAt old order i) _ ⟨i + 1,1,rfl,by omega,by omega,?_,by simp [hn2],by simp [g1],by simp [g2],by simp [g8],by simp,⟨rfl,rfl,by simp⟩,?_,by omega,by omega,?_⟩ ?_
    ·exact hs2.pn (by omega)
    ·obtain ⟨es,c,q1,q2⟩:=hm
     exact ⟨es,c,by simp [q1],q2⟩
    ·rw [hlg]; omega
    rintro _ R3 hR3 _ S3 ⟨kk,cur,rfl,hk1,hk2,hs3,hn3,g1,g2,g8,gl,hA,hm,hc1,hc2,hcur⟩
    obtain ⟨x,rfl⟩:=hA.lit
    by_cases hkl : kk < old.length
    ·have hkl' : (kk : Int) < old.length:=by omega
     obtain ⟨p',o',cells',e',wr',ex',q1,q2,q3,q4,q5⟩:=(h.sb hs3 okB).at hkl
     have hpk : kk < (places old order).length:=by rw [places_len]; exact hkl
     have hpp : (places old order)[kk]=(order.idxOf? old[kk],old[kk]):=by simp [places]
     rw [List.drop_eq_getElem_cons hpk,hpp] at hcur
     have hfk : (fun j=>if j=i then cur else f j) kk=lgAt old order kk:=by
      simp only
      rw [if_neg (by omega),hf kk hkl,if_pos (by omega)]
     have r1:=rowc_get (f:=fun j=>if j=i then cur else f j) hkl
     have r2:=rowc_get (f:=fun j=>if j=i then cur else f j) hlt
     have hwk : IntKind.i64.wrap ((kk : Int) + 1)=(kk : Int) + 1:=wrapS (by omega)
     have hki : ¬ kk=i:=by omega
     have hfk2 : f kk=lgAt old order kk:=by rw [hf kk hkl,if_pos (by omega)]
     cases hik : order.idxOf? old[kk] with
     | none=>
      have h0:=lgAt_none hkl hik
      rw [hik] at hcur
      simp only [L] at hcur
      simp [fillF,pickL,g1,g8,gl,rowv,hkl,hkl',hki,hfk2,h0,hwk]
      exact hR3 _ _ _ (by omega) ⟨kk + 1,cur,rfl,by omega,by omega,hs3,hn3,g1,g2,g8,gl,⟨rfl,rfl,by simp⟩,hm,hc1,hc2,hcur⟩
     | some b'=>
      have hl1':=lgAt_some hkl hik
      have hLl:=L_le ((places old order).drop (kk + 1)) (b' + 1)
      rw [List.length_drop,places_len] at hLl
      have hpos : 0 < lgAt old order kk:=by rw [hl1']; omega
      have hpv' : plV order old[kk]=some (.int .i64 b'):=by unfold plV; rw [hik]; rfl
      rw [hik] at hcur
      simp only [L] at hcur
      simp [fillF,pickL,g1,g8,gl,rowv,hkl,hkl',hki,hfk2,hpos,g2,q1,q2,q5,hm.look keyInt,hpv']
      by_cases hbb : b < b'
      ·have hwL : IntKind.i64.wrap (lgAt old order kk + 1)=lgAt old order kk + 1:=wrap64 (by omega) (by omega)
       have w2:=fun x=>rowc_set (f:=fun j=>if j=i then cur else f j) (x:=x) hlt
       rw [if_pos (by omega)] at hcur
       have hi' : (i : Int) < old.length:=by omega
       simp [hbb,g8,gl,rowv,hkl,hkl',hlt,hi',hki,hfk2,hwL,w2,hwk]
       refine hR3 _ _ _ (by omega) ⟨kk + 1,max cur (lgAt old order kk + 1),rfl,by omega,by omega,hs3.pn (by omega),by simpa using hn3,by simp [g1],by simp [g2],by simp [g8],?_,⟨rfl,rfl,by simp⟩,?_,by omega,by omega,by omega⟩
       ·rw [AS.get_put_self]
        congr 2
        exact rowc_congr fun j hj=>by by_cases hj2 : j=i <;> simp [hj2]
       ·obtain ⟨es,c,q1,q2⟩:=hm
        exact ⟨es,c,by simp [q1],q2⟩
      ·rw [if_neg (by omega)] at hcur
       simp [hbb,hwk]
       exact hR3 _ _ _ (by omega) ⟨kk + 1,cur,rfl,by omega,by omega,hs3,hn3,g1,g2,g8,gl,⟨rfl,rfl,by simp⟩,hm,hc1,hc2,hcur⟩
    ·have hkl' : ¬ (kk : Int) < old.length:=by omega
     rw [List.drop_eq_nil_of_le (by rw [places_len]; omega)] at hcur
     simp only [L] at hcur
     simp [fillF,pickL,g1,hkl,hkl',hwP]
     refine hR _ _ _ (by omega) ⟨(i : Int) - 1,fun j=>if j=i then cur else f j,rfl,by omega,by omega,hs3,hn3,g1,g2,g8,gl,⟨rfl,rfl,by simp⟩,hm,fun j hj=>?_⟩
     show (if j=i then cur else f j)=_
     by_cases hj2 : j=i
     ·subst hj2
      rw [if_pos rfl,if_pos (by omega)]; omega
     ·rw [if_neg hj2,hf j hj]
      exact ite_iff (by omega)
  ·simp [fillF,pickL,hi0,g8,rowv]
   have gl' : S2.get (S.next + 3)=some (.row (rowc old.length (lgAt old order)) 3 true true):=by
    rw [gl]
    congr 2
    exact rowc_congr fun j hj=>by rw [hf j hj,if_pos (by omega)]
   refine run_loop (fun j a' S'=>∃ (i most : Nat),j=old.length - i∧i≤old.length∧S'=S2∧Has a' 105 [(2,ptr S.next),(5,ptr (S.next + 2)),(8,ptr (S.next + 4)),(13,.int .i64 most),(90,.slice (some ⟨S.next + 3,0,none⟩) old.length old.length),(91,.int .i64 old.length),(92,.int .i64 i)] ∧
    max most (L ((places old order).drop i) 0)=L (places old order) 0) _ ⟨0,0,rfl,by omega,rfl,⟨rfl,rfl,by simp⟩,by simp⟩ ?_
   rintro _ R hR _ S2 ⟨i,most,rfl,hi,rfl,hA,hmost⟩
   obtain ⟨x,rfl⟩:=hA.lit
   by_cases hlt : i < old.length
   ·have hpl : i < (places old order).length:=by rw [places_len]; exact hlt
    have hpp : (places old order)[i]=(order.idxOf? old[i],old[i]):=by simp [places]
    rw [List.drop_eq_getElem_cons hpl,hpp] at hmost
    have r1:=rowc_get (f:=lgAt old order) hlt
    cases hix : order.idxOf? old[i] with
    | none=>
     have h0:=lgAt_none hlt hix
     rw [hix] at hmost
     simp only [L] at hmost
     have hmx : max (most : Int) 0=most:=by omega
     simp [fillF,pickL,hlt,gl',h0,hmx]
     exact hR _ _ _ (by omega) ⟨i + 1,most,rfl,by omega,rfl,⟨rfl,rfl,by simp [wrapS (show i < 9223372036854775807 by omega)]⟩,hmost⟩
    | some b'=>
     have h0:=lgAt_some hlt hix
     rw [hix] at hmost
     simp only [L,Nat.zero_le,if_true] at hmost
     have hmx : max (most : Int) (lgAt old order i)=((max most (1 + L ((places old order).drop (i + 1)) (b' + 1)) : Nat) : Int):=by rw [h0]; omega
     simp [fillF,pickL,hlt,gl',hmx]
     exact hR _ _ _ (by omega) ⟨i + 1,max most (1 + L ((places old order).drop (i + 1)) (b' + 1)),rfl,by omega,rfl,⟨rfl,rfl,by simp [wrapS (show i < 9223372036854775807 by omega)]⟩,by omega⟩
   ·obtain rfl : i=old.length:=by omega
    rw [List.drop_eq_nil_of_le (by rw [places_len]; exact Nat.le_refl _)] at hmost
    simp only [L] at hmost
    have hmo : most=L (places old order) 0:=by omega
    subst hmo
    have hmle:=L_le (places old order) 0
    rw [places_len] at hmle
    simp [fillF,pickL,hn2]
    simp only [Nat.add_assoc,Nat.reduceAdd]
    simp [calleeOf]
    have sU : ∀ o1 o2 o3,SB S.next S (((((S2.bump 1).put (S.next + 5) o1).bump 1).put (S.next + 6) o2).put (S.next + 6) o3) []:=fun o1 o2 o3=>by
     repeat' first | exact hs2 | apply SB.bu | (refine SB.pn ?_ (by omega))
    have hU:=sU (AObj.row [Value.slice none 0 0] 25 true true) (AObj.row [Value.nilFunc] 137 true true) (AObj.row [Value.func (.func 76) #[] #[ptr S.next,ptr (S.next + 4),ptr (S.next + 2),ptr (S.next + 5),ptr (S.next + 6)]] 137 true true)
    have hKM : KM (((((S2.bump 1).put (S.next + 5) (AObj.row [Value.slice none 0 0] 25 true true)).bump 1).put (S.next + 6) (AObj.row [Value.nilFunc] 137 true true)).put (S.next + 6) (AObj.row [Value.func (.func 76) #[] #[ptr S.next,ptr (S.next + 4),ptr (S.next + 2),ptr (S.next + 5),ptr (S.next + 6)]] 137 true true))
      (S.next + 7) S.next (S.next + 4) (S.next + 2) (S.next + 5) (S.next + 6) (S.next + 3) (S.next + 1) (.slice a old.length cap) old order:=by
     refine ⟨by simp [g1],h.sb hU okB,by simp [g8],by simp [gl'],by simp [g2],?_,by simp,by simp [hn2],by simp,fun m hm=>by have:=h.owns_lt m hm; omega⟩
     obtain ⟨es,c,q1,q2⟩:=hm
     exact ⟨es,c,by simp [q1],q2⟩
    have hrec:=follow_ok hl1 hl2 old.length 0 (by omega) (by omega) 0 (L (places old order) 0) (by omega) hmle _ none 0 [] hKM (by simp) (Ow.nil) rfl (by simp) (by simp [ownsOf])
    refine hrec _ fun S' oa' on' out' s1 s2 s3 s4 s5 s6=>?_
    simp [s3]
    have hout : out'=kept old order:=by rw [s2]; simp; exact flw_kept _ 0
    rw [hout] at s4 s5
    have hSB : SB S.next S S' []:=hU.trans ⟨s1.1,fun m hm _=>s1.2 m (by omega) (by simp; omega)⟩
    exact hq S' oa' on' ⟨hSB.1,fun m hm hn=>hSB.2 m hm hn⟩ s5 s4 fun m hm=>by have:=s6 m hm; omega

def cntI (old order : List Int) (i : Nat) : Nat:=((old.take i).filter fun x=>decide (x∈order)).length
theorem cntI_le (old order : List Int) (i : Nat) : cntI old order i≤old.length:=by
 unfold cntI
 exact Nat.le_trans (List.length_filter_le _ _) (by rw [List.length_take]; omega)
theorem cntI_succ {old order : List Int} {i : Nat} (h : i < old.length) : cntI old order (i + 1)=if old[i]∈order then cntI old order i + 1 else cntI old order i:=by
 unfold cntI
 rw [List.take_succ_eq_append_getElem h,List.filter_append,List.length_append]
 by_cases hc : old[i]∈order <;> simp [hc]
theorem movedN_eq (old order : List Int) : movedN old order=(cntI old order old.length : Int) - L (places old order) 0:=by
 unfold movedN cntI
 rw [List.take_length]
theorem moved_ok {S : AS} {v w : Value} {old order : List Int} (h : Is S v old) (k : Is S w order) (hn : order.Nodup) (hl1 : old.length≤1000) (hl2 : order.length≤1000) {Q : En→AS→Prop}
  (hq : ∀ S',Same S S' []→Q (.ret (.int .i64 (movedN old order))) S') : Call G 68 [v,w] S Q:=by
 obtain ⟨a,cap,rfl⟩:=h.shape
 obtain ⟨b,cap',rfl⟩:=k.shape
 refine call_run' (G:=G) rfl (ext_none (by decide)) ?_
 simp
 refine run_loop (fun j a' S'=>∃ i,j=old.length - i∧i≤old.length∧S'=S∧Has a' 26 [(0,.slice a old.length cap),(1,.slice b order.length cap'),(5,.int .i64 (cntI old order i)),(8,.slice a old.length cap),(9,.int .i64 old.length),(10,.int .i64 i)]) _ ⟨0,rfl,by omega,rfl,⟨rfl,rfl,by simp [cntI]⟩⟩ ?_
 rintro _ R hR _ S ⟨i,rfl,hi,rfl,hA⟩
 obtain ⟨x,rfl⟩:=hA.lit
 by_cases hlt : i < old.length
 ·obtain ⟨p,o,cells,e,wr,ex,h1,h2,h3,h4,h5⟩:=h.at hlt
  have hc:=cntI_le old order i
  simp [fillF,pickL,hlt,h1,h2,h5]
  refine contains_ok k ?_
  have hs:=cntI_succ (order:=order) hlt
  have hwS:=wrapS (show i < 9223372036854775807 by omega)
  have hwC:=wrapS (show cntI old order i < 9223372036854775807 by omega)
  by_cases hm : old[i]∈order
  ·simp [hm]
   rw [if_pos hm] at hs
   exact hR _ _ _ (by omega) ⟨i + 1,rfl,by omega,rfl,⟨rfl,rfl,by simp [hwS,hwC,hs]⟩⟩
  ·simp [hm]
   rw [if_neg hm] at hs
   exact hR _ _ _ (by omega) ⟨i + 1,rfl,by omega,rfl,⟨rfl,rfl,by simp [hwS,hs]⟩⟩
 ·obtain rfl : i=old.length:=by omega
  simp [fillF,pickL]
  refine kept_ok h k hn hl1 hl2 fun S1 oa n hs1 hnk how hb=>?_
  have hc:=cntI_le old order old.length
  have hk:=kept_len old order
  have hLl:=L_le (places old order) 0
  rw [places_len] at hLl
  have hmv : IntKind.i64.wrap ((cntI old order old.length : Int) - n)=movedN old order:=by
   rw [wrap64 (by omega) (by omega),movedN_eq,hnk,hk]
  simp [hmv]
  exact hq S1 hs1
theorem rmoved_ok {S : AS} {v w : Value} {old order : List Int} (h : Is S v old) (k : Is S w order) (hn : order.Nodup) (hl1 : old.length≤1000) (hl2 : order.length≤1000) {Q : En→AS→Prop}
  (hq : ∀ S',Same S S' []→Q (.ret (.int .i64 (movedN old order))) S') : Call G 93 [v,w] S Q:=by
 obtain ⟨a,cap,rfl⟩:=h.shape
 obtain ⟨b,cap',rfl⟩:=k.shape
 refine call_run' (G:=G) rfl (ext_none (by decide)) ?_
 simp
 refine run_loop (fun j a' S'=>∃ i,j=old.length - i∧i≤old.length∧S'=S∧Has a' 32 [(0,.slice a old.length cap),(1,.slice b order.length cap'),(5,.int .i64 (cntI old order i)),(6,.int .i64 i)]) _ ⟨0,rfl,by omega,rfl,⟨rfl,rfl,by simp [cntI]⟩⟩ ?_
 rintro _ R hR _ S ⟨i,rfl,hi,rfl,hA⟩
 obtain ⟨x,rfl⟩:=hA.lit
 by_cases hlt : i < old.length
 ·obtain ⟨p,o,cells,e,wr,ex,h1,h2,h3,h4,h5⟩:=h.at hlt
  have hc:=cntI_le old order i
  simp [fillF,pickL,hlt,h1,h2,h5]
  refine has_ok k ?_
  have hs:=cntI_succ (order:=order) hlt
  have hwS:=wrapS (show i < 9223372036854775807 by omega)
  have hwC:=wrapS (show cntI old order i < 9223372036854775807 by omega)
  by_cases hm : old[i]∈order
  ·simp [hm]
   rw [if_pos hm] at hs
   exact hR _ _ _ (by omega) ⟨i + 1,rfl,by omega,rfl,⟨rfl,rfl,by simp [hwS,hwC,hs]⟩⟩
  ·simp [hm]
   rw [if_neg hm] at hs
   exact hR _ _ _ (by omega) ⟨i + 1,rfl,by omega,rfl,⟨rfl,rfl,by simp [hwS,hs]⟩⟩
 ·obtain rfl : i=old.length:=by omega
  simp [fillF,pickL]
  refine longest_ok h k hn hl1 hl2 fun S1 t rs hs1 ht hrl hrs hot=>?_
  obtain ⟨P,EX,r1,G1,G2,G3,G4,G5,G6,G7,G8,G9⟩:=ht.at (i:=0) (by omega)
  have G1' : ∀ (S' : AS) (j : IntKind),idxE S' 1 none (.int j 0) t=.ret (.pointer (some ⟨P,0,none⟩),S'):=fun S' j=>G1 S' j
  have hc:=cntI_le old order old.length
  have r0:=rowc_get (f:=tabF old order 0) (show 0 < order.length + 1 by omega)
  have hLl:=L_le (places old order) 0
  rw [places_len] at hLl
  have hmv : IntKind.i64.wrap ((cntI old order old.length : Int) - tabF old order 0 0)=movedN old order:=by
   have : tabF old order 0 0=(L (places old order) 0 : Nat):=rfl
   rw [this,wrap64 (by omega) (by omega),movedN_eq]
  simp [G1',G2,G3,G4,r0,hmv]
  exact hq S1 hs1
theorem sameInts_ok {S : AS} {v w : Value} {l m : List Int} (h : Is S v l) (k : Is S w m) {Q : En→AS→Prop} (hq : Q (.ret (.bool (decide (l=m)))) S) : Call G 15 [v,w] S Q:=by
 obtain ⟨a,cap,rfl⟩:=h.shape
 obtain ⟨b,cap',rfl⟩:=k.shape
 refine call_run' (G:=G) rfl (ext_none (by decide)) ?_
 simp
 by_cases hlen : l.length=m.length
 ·have hlen' : (l.length : Int)=m.length:=by omega
  simp [hlen]
  have hsm:=h.small
  refine run_loop (fun j a' S'=>∃ i,j=l.length - i∧i≤l.length∧S'=S∧Has a' 26 [(0,.slice a l.length cap),(1,.slice b m.length cap'),(5,.int .i64 i)]∧(l=m↔l.drop i=m.drop i)) _ ⟨0,rfl,by omega,rfl,⟨rfl,rfl,by simp [hlen]⟩,by simp⟩ ?_
  rintro _ R hR _ S ⟨i,rfl,hi,rfl,hA,hiff⟩
  obtain ⟨x,rfl⟩:=hA.lit
  by_cases hlt : i < l.length
  ·have hltm : i < m.length:=by omega
   obtain ⟨p,o,cells,e,wr,ex,h1,h2,h3,h4,h5⟩:=h.at hlt
   obtain ⟨p',o',cells',e',wr',ex',q1,q2,q3,q4,q5⟩:=k.at hltm
   rw [List.drop_eq_getElem_cons hlt,List.drop_eq_getElem_cons hltm,List.cons.injEq] at hiff
   simp [fillF,pickL,hlt,h1,h2,h5,q1,q2,q5]
   by_cases hc : l[i]=m[i]
   ·simp [hc]
    refine hR _ _ _ (by omega) ⟨i + 1,rfl,by omega,rfl,⟨rfl,rfl,by simp [wrapS (show i < 9223372036854775807 by omega)]⟩,?_⟩
    rw [hiff]; simp [hc]
   ·simp [hc]
    have : ¬ l=m:=fun e=>hc (hiff.1 e).1
    simp [this] at hq
    exact hq
  ·obtain rfl : i=l.length:=by omega
   rw [List.drop_length,List.drop_eq_nil_of_le (by omega)] at hiff
   simp [fillF,pickL]
   have : l=m:=hiff.2 rfl
   simp [this] at hq
   exact hq
 ·have hlen' : ¬ (l.length : Int)=m.length:=by omega
  simp [hlen,hlen']
  have : ¬ l=m:=fun e=>hlen (by rw [e])
  simp [this] at hq
  exact hq
end Go.Gx.Z
