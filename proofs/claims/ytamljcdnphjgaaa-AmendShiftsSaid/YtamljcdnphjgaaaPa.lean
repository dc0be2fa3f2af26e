/-
  The functions of this seat as the proofs use them; small ones.
-/
import Derived.Test.YtamljcdnphjgaaaFc
import Derived.Test.YtamljcdnphjgaaaGf
import Derived.Test.YtamljcdnphjgaaaGg
import Derived.Test.YtamljcdnphjgaaaDe
import Derived.Test.YtamljcdnphjgaaaFe
set_option linter.all false
set_option linter.deprecated false
set_option linter.unusedSimpArgs false
set_option linter.unusedVariables false
namespace Go.Gx.A
open Go.Gx Go.Proofs
set_option maxRecDepth 100000
set_option linter.all false
def G : Tab:=⟨tab,extOr insX (extOr sortX (extOr shiftX (extOr growX (extOf [23]))))⟩
theorem ext_none {k : Nat} {args : List Value} {S : AS} (h : ¬ (k=78 ∨ k=23 ∨ k=119 ∨ k=125 ∨ k=152)) : G.ext k args S=none:=by
 simp only [not_or] at h
 obtain ⟨h1,h2,h3,h4,h5⟩:=h
 show extOr insX (extOr sortX (extOr shiftX (extOr growX (extOf [23])))) k args S=none
 rw [extOr_right (by unfold insX; rw [if_neg h1]),extOr_right (by unfold sortX; rw [if_neg h3]),extOr_right (by unfold shiftX; rw [if_neg h4]),extOr_right (by unfold growX; rw [if_neg h5])]
 exact extOf_none (.inr (by simpa using h2))
theorem alive_ok {S : AS} {Q : En→AS→Prop} (hq : Q (.ret (.bool true)) S) : Call G 23 [] S Q:=call_ext (by
 show extOr insX (extOr sortX (extOr shiftX (extOr growX (extOf [23])))) 23 [] S=some (.bool true,S)
 rw [extOr_right rfl,extOr_right rfl,extOr_right rfl,extOr_right rfl]
 exact extOf_some (by simp)) hq
theorem shift_ext {args : List Value} {S : AS} {x : Value × AS} (h : tsortV 126 86 args S=some x) : G.ext 125 args S=some x:=by
 show extOr insX (extOr sortX (extOr shiftX (extOr growX (extOf [23])))) 125 args S=some x
 rw [extOr_right rfl,extOr_right rfl]
 exact extOr_left (by unfold shiftX; rw [if_pos rfl]; exact h)
theorem grow_ext {args : List Value} {S : AS} {x : Value × AS} (h : growV 3 args S=some x) : G.ext 152 args S=some x:=by
 show extOr insX (extOr sortX (extOr shiftX (extOr growX (extOf [23])))) 152 args S=some x
 rw [extOr_right rfl,extOr_right rfl,extOr_right rfl]
 exact extOr_left (by unfold growX; rw [if_pos rfl]; exact h)
abbrev ptr (d : Nat) : Value:=.pointer (some ⟨d,0,none⟩)
theorem wrap64 {x : Int} (h1 : -9223372036854775808 ≤ x) (h2 : x ≤ 9223372036854775807) : IntKind.i64.wrap x=x:=by
 simp only [IntKind.wrap,IntKind.bits,IntKind.signed]
 simp
 omega
theorem wrapS {i : Nat} (h : i < 9223372036854775807) : IntKind.i64.wrap ((i : Int) + 1)=((i + 1 : Nat) : Int):=by rw [wrap64 (by omega) (by omega)]; rfl
theorem _root_.Go.Gx.Same.bu {S U : AS} {fp : List Nat} {k : Nat} (h : Same S U fp) : Same S (U.bump k) fp:=⟨by have:=h.1; simp; omega,fun m hm hn=>by rw [AS.get_bump]; exact h.2 m hm hn⟩
theorem _root_.Go.Gx.Same.pn {S U : AS} {fp : List Nat} {d : Nat} {o : AObj} (h : Same S U fp) (hd : S.next ≤ d) : Same S (U.put d o) fp:=⟨by have:=h.1; simp; omega,fun m hm hn=>by rw [AS.get_put_ne _ _ (by omega)]; exact h.2 m hm hn⟩
theorem _root_.Go.Gx.Same.po {S U : AS} {fp : List Nat} {d : Nat} {o : AObj} (h : Same S U fp) (hd : d ∈ fp) : Same S (U.put d o) fp:=⟨by have:=h.1; simp; omega,fun m hm hn=>by rw [AS.get_put_ne _ _ (by rintro rfl; exact hn hd)]; exact h.2 m hm hn⟩
theorem _root_.Go.Gx.Same.tr0 {S U V : AS} (h : Same S U []) (k : Same U V []) : Same S V []:=h.trans k (by simp)
@[simp] theorem rowLoad2 {a b : Value} : rowLoad [a,b] 0 (some 2)=some (.agg #[a,b]):=rfl
@[simp] theorem rowLoad2' {a b c d : Value} : rowLoad [a,b,c,d] 0 (some 2)=some (.agg #[a,b]):=rfl
@[simp] theorem rowLoad3 {a b c : Value} : rowLoad [a,b,c] 0 (some 3)=some (.agg #[a,b,c]):=rfl
@[simp] theorem rowLoad4 {a b c d : Value} : rowLoad [a,b,c,d] 0 (some 4)=some (.agg #[a,b,c,d]):=rfl
def ints (l : List Int) : List Value:=l.map fun n=>.int .i64 n
@[simp] theorem ints_len (l : List Int) : (ints l).length=l.length:=by simp [ints]
@[simp] theorem ints_nil : ints []=[]:=rfl
@[simp] theorem ints_cons (n : Int) (l : List Int) : ints (n :: l)=.int .i64 n :: ints l:=rfl
theorem ints_ok (l : List Int) : (ints l).all okc=true:=by simp [ints,okc]
theorem ints_append (l m : List Int) : ints (l ++ m)=ints l ++ ints m:=by simp [ints]
theorem ints_take (l : List Int) (n : Nat) : (ints l).take n=ints (l.take n):=by simp [ints,List.map_take]
theorem ints_drop (l : List Int) (n : Nat) : (ints l).drop n=ints (l.drop n):=by simp [ints,List.map_drop]
structure Is (S : AS) (v : Value) (l : List Int) : Prop where
 small : l.length ≤ 9223372036854775807
 c : (l=[]∧(v=.slice none 0 0 ∨ ∃ b o s,v=.slice (some ⟨b,o,some s⟩) 0 0)) ∨
  ∃ p o cap cells e wr ex,v=.slice (some ⟨p,o,none⟩) l.length cap∧l.length ≤ cap∧S.get p=some (.row cells e wr ex)∧p < S.next∧(ex=true ∨ e=3)∧o + l.length ≤ cells.length∧(cells.drop o).take l.length=ints l
theorem Is.row {S : AS} {p : Nat} {l : List Int} {wr ex : Bool} (h : S.get p=some (.row (ints l) 3 wr ex)) (hp : p < S.next) (hs : l.length ≤ 9223372036854775807) : Is S (.slice (some ⟨p,0,none⟩) l.length l.length) l:=
 ⟨hs,.inr ⟨p,0,l.length,ints l,3,wr,ex,rfl,Nat.le_refl _,h,hp,.inr rfl,by simp,by rw [List.drop_zero,← ints_len,List.take_length]⟩⟩
theorem Is.nil {S : AS} : Is S (.slice none 0 0) []:=⟨by simp,.inl ⟨rfl,.inl rfl⟩⟩
theorem Is.cs {S : AS} {v : Value} {l : List Int} (h : Is S v l) : Cs S v (ints l):=by
 rcases h.c with ⟨rfl,rfl | ⟨b,o,s,rfl⟩⟩ | ⟨p,o,cap,cells,e,wr,ex,rfl,h1,h2,h3,h4,h5,h6⟩
 ·exact ⟨⟨_,_,rfl⟩,rfl,by simp [ownsOf]⟩
 ·exact ⟨⟨_,_,rfl⟩,rfl,by simp [ownsOf]⟩
 ·refine ⟨⟨_,_,by rw [ints_len]⟩,?_,fun b hb=>by simp [ownsOf] at hb; subst hb; exact h3⟩
  simp only [srcCells,Nat.mul_one,ints_len]
  split
  ·rename_i h0
   have : l=[]:=List.length_eq_zero_iff.1 h0
   subst this; rfl
  ·rw [h2]
   simp only
   rw [if_pos h5,h6]
theorem Is.shape {S : AS} {v : Value} {l : List Int} (h : Is S v l) : ∃ a cap,v=.slice a l.length cap:=by
 obtain ⟨a,cap,e⟩:=h.cs.shape
 exact ⟨a,cap,by rw [e,ints_len]⟩
theorem Is.stays {S S' : AS} {v : Value} {l : List Int} (h : Is S v l) {fp : List Nat} (hs : Same S S' fp) (hd : ∀ m ∈ ownsOf v,m ∉ fp) : Is S' v l:=by
 refine ⟨h.small,?_⟩
 rcases h.c with h | ⟨p,o,cap,cells,e,wr,ex,rfl,h1,h2,h3,h4,h5,h6⟩
 ·exact .inl h
 ·exact .inr ⟨p,o,cap,cells,e,wr,ex,rfl,h1,by rw [hs.2 p h3 (hd p (by simp [ownsOf]))]; exact h2,Nat.lt_of_lt_of_le h3 hs.1,h4,h5,h6⟩
theorem Is.stay0 {S S' : AS} {v : Value} {l : List Int} (h : Is S v l) (hs : Same S S' []) : Is S' v l:=h.stays hs (by simp)
theorem Is.at {S : AS} {v : Value} {l : List Int} (h : Is S v l) {i : Nat} (hi : i < l.length) :
  ∃ p o cells e wr ex,(∀ (S' : AS) (j : IntKind),idxE S' 1 none (.int j i) v=.ret (.pointer (some ⟨p,o,none⟩),S'))∧S.get p=some (.row cells e wr ex)∧p < S.next∧p ∈ ownsOf v∧cells[o]?=some (.int .i64 l[i]):=by
 obtain ⟨p,o,cells,e,wr,ex,h1,h2,h3,h4,h5⟩:=h.cs.idx (S':=S) (j:=.i64) (i:=i) (by simpa using hi)
 refine ⟨p,o,cells,e,wr,ex,fun S' j=>?_,h2,h3,h4,?_⟩
 ·obtain ⟨a,cap,rfl⟩:=h.shape
  match a with
  | none=>simp [idxE] at h1
  | some ⟨b,q,some s⟩=>simp [idxE] at h1
  | some ⟨b,q,none⟩=>
   simp [hi] at h1 ⊢
   exact h1
 ·rw [h5]
  simp [ints]
theorem Is.slc {S : AS} {v : Value} {l : List Int} (h : Is S v l) {lo hi : Option Value} {i j : Nat} (hlo : lo=none∧i=0 ∨ lo=some (.int .i64 i)) (hhi : hi=none∧j=l.length ∨ hi=some (.int .i64 j)) (hij : i ≤ j) (hj : j ≤ l.length) :
  ∃ v',slcE S 3 1 lo hi none v=.ret (v',S)∧Is S v' ((l.take j).drop i)∧∀ m ∈ ownsOf v',m ∈ ownsOf v:=by
 have hl : ((l.take j).drop i).length=j - i:=by simp; omega
 have hb : ∀ cap,l.length ≤ cap→bndsV l.length cap lo hi none=some (i,j,cap):=by
  intro cap hc
  have hjc : j ≤ cap:=by omega
  rcases hlo with ⟨rfl,rfl⟩ | rfl <;> rcases hhi with ⟨rfl,rfl⟩ | rfl <;> simp [bndsV,bndV,hij,hj,hc,hjc]
 rcases h.c with ⟨rfl,rfl | ⟨b,o,s,rfl⟩⟩ | ⟨p,o,cap,cells,e,wr,ex,rfl,h1,h2,h3,h4,h5,h6⟩
 ·have:=hb 0 (by simp)
  simp at hj
  subst hj
  have hi0 : i=0:=by omega
  subst hi0
  refine ⟨.slice none 0 0,?_,⟨by simp,.inl ⟨rfl,.inl rfl⟩⟩,by simp [ownsOf]⟩
  simp only [List.length_nil] at this
  simp [this]
 ·have:=hb 0 (by simp)
  simp only [List.length_nil] at this
  refine ⟨.slice (some ⟨b,o,some s⟩) 0 0,?_,⟨by simp,.inl ⟨by simp,.inr ⟨b,o,s,rfl⟩⟩⟩,by simp [ownsOf]⟩
  simp [this]
 ·refine ⟨.slice (some ⟨p,o + i,none⟩) (j - i) (cap - i),?_,⟨by have:=h.small; omega,.inr ⟨p,o + i,cap - i,cells,e,wr,ex,by rw [hl],by omega,h2,h3,h4,by omega,?_⟩⟩,by simp [ownsOf]⟩
  ·simp [h2,hb cap h1,h4]
  ·rw [hl,← ints_drop,← ints_take,← h6,List.take_take,Nat.min_eq_left hj,List.drop_take,List.drop_drop]
theorem cut2 {G : Tab} {st : List Fr} {a : Act} {S : AS} {Q : Post} {A B rest : C} (I : Act→AS→Prop) (h1 : ∀ M : Act→AS→Prop,(∀ a S,I a S→M a S)→Run G (.seq A B) [] a S (RoundR M (unwind G st Q))) (h2 : ∀ a S,I a S→Run G rest st a S Q) : Run G (.seq A (.seq B rest)) st a S Q:=by
 have h:=cut_run (x:=.seq A B) I h1 h2
 rw [run_seq] at h ⊢
 refine WP.mono h fun e a S hh=>?_
 cases e with
 | norm=>
  have hh' : Run G B (.seq rest :: st) a S Q:=hh
  rw [← run_seq] at hh'
  exact hh'
 | _=>exact hh
theorem or_ok {S : AS} {v : Value} {l : List Int} (h : Is S v l) {Q : En→AS→Prop} (hq : Q (.ret (.int .i64 ((l.find? fun x=>decide (x ≠ 0)).getD 0))) S) : Call G 121 [v] S Q:=by
 obtain ⟨a,cap,rfl⟩:=h.shape
 refine call_run' (G:=G) rfl (ext_none (by decide)) ?_
 simp
 have hsm:=h.small
 refine run_loop (fun j a' S'=>∃ i,j=l.length - i∧i ≤ l.length∧S'=S∧Has a' 18 [(0,.slice a l.length cap),(3,.int .i64 0),(6,.slice a l.length cap),(7,.int .i64 l.length),(8,.int .i64 i)]∧(l.find? fun x=>decide (x ≠ 0))=((l.drop i).find? fun x=>decide (x ≠ 0))) _ ⟨0,rfl,by omega,rfl,⟨rfl,rfl,by simp⟩,by simp⟩ ?_
 rintro _ R hR _ _ ⟨i,rfl,hi,rfl,ha,hne⟩
 obtain ⟨x,rfl⟩:=ha.lit
 by_cases hlt : i < l.length
 ·obtain ⟨p,o,cells,e,wr,ex,h1,h2,h3,h4,h5⟩:=h.at hlt
  rw [List.drop_eq_getElem_cons hlt,List.find?_cons] at hne
  by_cases h0 : l[i]=0
  ·simp [fillF,pickL,hlt,h1,h2,h5,h0]
   refine hR _ _ _ (by omega) ⟨i + 1,rfl,by omega,rfl,⟨rfl,rfl,by simp [wrapS (show i < 9223372036854775807 by omega)]⟩,?_⟩
   simp [h0] at hne
   simpa using hne
  ·simp [fillF,pickL,hlt,h1,h2,h5,h0]
   simp [h0] at hne
   simp [hne] at hq
   exact hq
 ·have : i=l.length:=by omega
  subst this
  simp at hne
  have hf : l.find? (fun x=>decide (x ≠ 0))=none:=by simpa using hne
  rw [hf] at hq
  simp [fillF,pickL]
  exact hq
theorem has_ok {S : AS} {v : Value} {l : List Int} {n : Int} (h : Is S v l) {Q : En→AS→Prop} (hq : Q (.ret (.bool (decide (n ∈ l)))) S) : Call G 71 [v,.int .i64 n] S Q:=by
 obtain ⟨a,cap,rfl⟩:=h.shape
 refine call_run' (G:=G) rfl (ext_none (by decide)) ?_
 simp
 have hsm:=h.small
 refine run_loop (fun j a' S'=>∃ i,j=l.length - i∧i ≤ l.length∧S'=S∧Has a' 18 [(0,.slice a l.length cap),(1,.int .i64 n),(5,.int .i64 i)]∧(n ∈ l ↔ n ∈ l.drop i)) _ ⟨0,rfl,by omega,rfl,⟨rfl,rfl,by simp⟩,by simp⟩ ?_
 rintro _ R hR _ _ ⟨i,rfl,hi,rfl,ha,hne⟩
 obtain ⟨x,rfl⟩:=ha.lit
 by_cases hlt : i < l.length
 ·obtain ⟨p,o,cells,e,wr,ex,h1,h2,h3,h4,h5⟩:=h.at hlt
  rw [List.drop_eq_getElem_cons hlt,List.mem_cons] at hne
  by_cases h0 : l[i]=n
  ·have : n ∈ l:=hne.2 (.inl h0.symm)
   simp [fillF,pickL,hlt,h1,h2,h5,h0]
   simp [this] at hq
   exact hq
  ·simp [fillF,pickL,hlt,h1,h2,h5,h0]
   refine hR _ _ _ (by omega) ⟨i + 1,rfl,by omega,rfl,⟨rfl,rfl,by simp [wrapS (show i < 9223372036854775807 by omega)]⟩,?_⟩
   rw [hne]
   simp [Ne.symm h0]
 ·have : i=l.length:=by omega
  subst this
  simp at hne
  simp [hne] at hq
  simp [fillF,pickL]
  exact hq
end Go.Gx.A
namespace Go.Gx.A
open Go.Gx Go.Proofs
set_option maxRecDepth 100000
set_option linter.all false
theorem extOK : ExtOK Try.prog G.ext:=extOr_ok insX_ok (extOr_ok sortX_ok (extOr_ok shiftX_ok (extOr_ok growX_ok (extOf_ok (P:=Try.prog) (ks:=[23]) fun k hk=>by
 simp only [List.mem_cons,List.not_mem_nil,or_false] at hk
 subst hk
 exact ⟨⟨Try.f23,Try.func23,by kernel_rfl,by kernel_rfl⟩,top_true⟩))))
end Go.Gx.A
namespace Go.Gx.A
open Go.Gx Go.Proofs
set_option maxRecDepth 100000
set_option linter.all false
structure Arw where
 f : Int
 t : Int
 r : Int
 w : Int
 deriving DecidableEq
def Arw.cells (x : Arw) : List Value:=[.int .i64 x.f,.int .i64 x.t,.int .i64 x.r,.int .i64 x.w]
structure As (S : AS) (v : Value) (l : List Arw) : Prop where
 ps : Ps S 4 v (l.map Arw.cells)
 small : l.length ≤ 9223372036854775807
theorem As.stays {S S' : AS} {v : Value} {l : List Arw} (h : As S v l) {fp : List Nat} (hs : Same S S' fp) (hd : ∀ m ∈ ownsOf v,m ∉ fp) : As S' v l:=⟨h.ps.stays hs hd,h.small⟩
theorem As.shape {S : AS} {v : Value} {l : List Arw} (h : As S v l) : ∃ a cap,v=.slice a l.length cap:=by
 obtain ⟨a,cap,e⟩:=h.ps.shape
 exact ⟨a,cap,by rw [e,List.length_map]⟩
theorem As.at {S : AS} {v : Value} {l : List Arw} (h : As S v l) {i : Nat} (hi : i < l.length) :
  ∃ p o cells e wr ex,(∀ (S' : AS) (j : IntKind),idxE S' 4 none (.int j i) v=.ret (.pointer (some ⟨p,o,none⟩),S'))∧S.get p=some (.row cells e wr ex)∧p < S.next∧p ∈ ownsOf v ∧
   rowLoad cells o (some 4)=some (.agg l[i].cells.toArray)∧cells[o]?=some (.int .i64 l[i].f)∧cells[o + 1]?=some (.int .i64 l[i].t)∧cells[o + 2]?=some (.int .i64 l[i].r)∧cells[o + 3]?=some (.int .i64 l[i].w):=by
 obtain ⟨p,o,cells,e,wr,ex,h1,h2,h3,h4,h5,h6⟩:=h.ps.idx (S':=S) (by omega) (j:=.i64) (i:=i) (l:=l[i].cells) (by simp [hi])
 refine ⟨p,o,cells,e,wr,ex,fun S' j=>?_,h2,h3,h4,h6,h5 0 (by omega),h5 1 (by omega),h5 2 (by omega),h5 3 (by omega)⟩
 obtain ⟨a,cap,rfl⟩:=h.shape
 match a with
 | none=>simp [idxE] at h1
 | some ⟨b,q,some s⟩=>simp [idxE] at h1
 | some ⟨b,q,none⟩=>
  simp [hi] at h1 ⊢
  exact h1
end Go.Gx.A
namespace Go.Gx.A
open Go.Gx Go.Proofs
set_option maxRecDepth 100000
set_option linter.all false
set_option maxHeartbeats 4000000
end Go.Gx.A
