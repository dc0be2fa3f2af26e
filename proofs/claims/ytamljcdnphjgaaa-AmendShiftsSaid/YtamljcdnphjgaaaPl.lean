/-
  Lists of numbers: twice, index, contains.
-/
import Derived.Test.YtamljcdnphjgaaaPa
import Derived.Test.YtamljcdnphjgaaaPk
import Derived.Test.YtamljcdnphjgaaaGh
set_option linter.all false
set_option linter.deprecated false
set_option linter.unusedSimpArgs false
set_option linter.unusedVariables false
namespace Go.Gx.A
open Go.Gx Go.Proofs
set_option maxRecDepth 100000
set_option linter.all false
set_option maxHeartbeats 4000000
def ixI (l : List Int) (x : Int) : Int:=match l.idxOf? x with
 | some i=>i
 | none=>-1
theorem ixI_cons (a x : Int) (l : List Int) : ixI (a :: l) x=if a=x then 0 else if ixI l x < 0 then -1 else ixI l x + 1:=by
 unfold ixI
 rw [List.idxOf?_cons]
 by_cases h : a=x
 ·simp [h]
 ·simp only [beq_iff_eq,h,if_false]
  cases hx : l.idxOf? x with
  | none=>simp
  | some i=>
   simp only [Option.map_some]
   rw [if_neg (by omega)]; omega
theorem ixI_ge (l : List Int) (x : Int) : -1 ≤ ixI l x:=by
 unfold ixI
 split <;> omega
def ixFrom (l : List Int) (x : Int) (i : Nat) : Int:=if ixI (l.drop i) x < 0 then -1 else ixI (l.drop i) x + i
theorem ixFrom_step {l : List Int} {x : Int} {i : Nat} (h : i < l.length) : ixFrom l x i=if l[i]=x then (i : Int) else ixFrom l x (i + 1):=by
 unfold ixFrom
 rw [List.drop_eq_getElem_cons h,ixI_cons]
 have:=ixI_ge (l.drop (i + 1)) x
 by_cases h1 : l[i]=x
 ·simp [h1]
 ·simp only [h1,if_false]
  by_cases h2 : ixI (l.drop (i + 1)) x < 0
  ·simp [h2]
  ·simp only [h2,if_false]
   rw [if_neg (by omega)]; omega
theorem ixFrom_zero (l : List Int) (x : Int) : ixFrom l x 0=ixI l x:=by
 unfold ixFrom
 have:=ixI_ge l x
 simp
 intro h; omega
theorem ixFrom_end (l : List Int) (x : Int) : ixFrom l x l.length=-1:=by
 unfold ixFrom
 rw [List.drop_length]
 simp [ixI]
theorem index_ok {S : AS} {v : Value} {l : List Int} {n : Int} (h : Is S v l) {Q : En→AS→Prop} (hq : Q (.ret (.int .i64 (ixI l n))) S) : Call G 75 [v,.int .i64 n] S Q:=by
 obtain ⟨a,cap,rfl⟩:=h.shape
 refine call_run' (G:=G) rfl (ext_none (by decide)) ?_
 simp
 have hsm:=h.small
 refine run_loop (fun j a' S'=>∃ i,j=l.length - i∧i ≤ l.length∧S'=S∧Has a' 19 [(0,.slice a l.length cap),(1,.int .i64 n),(7,.int .i64 l.length),(8,.int .i64 i)]∧ixI l n=ixFrom l n i) _ ⟨0,rfl,by omega,rfl,⟨rfl,rfl,by simp⟩,(ixFrom_zero l n).symm⟩ ?_
 rintro _ R hR _ _ ⟨i,rfl,hi,rfl,ha,hne⟩
 obtain ⟨x,rfl⟩:=ha.lit
 by_cases hlt : i < l.length
 ·obtain ⟨p,o,cells,e,wr,ex,h1,h2,h3,h4,h5⟩:=h.at hlt
  rw [ixFrom_step hlt] at hne
  by_cases h0 : l[i]=n
  ·simp [fillF,pickL,hlt,h1,h2,h5,h0]
   rw [hne,if_pos h0] at hq
   exact hq
  ·have h0' : ¬ n=l[i]:=fun e=>h0 e.symm
   simp [fillF,pickL,hlt,h1,h2,h5,h0']
   rw [if_neg h0] at hne
   exact hR _ _ _ (by omega) ⟨i + 1,rfl,by omega,rfl,⟨rfl,rfl,by simp [wrapS (show i < 9223372036854775807 by omega)]⟩,hne⟩
 ·have : i=l.length:=by omega
  subst this
  rw [hne,ixFrom_end] at hq
  simp [fillF,pickL]
  exact hq
theorem rindex_ok {S : AS} {v : Value} {l : List Int} {n : Int} (h : Is S v l) {Q : En→AS→Prop} (hq : Q (.ret (.int .i64 (ixI l n))) S) : Call G 81 [v,.int .i64 n] S Q:=by
 obtain ⟨a,cap,rfl⟩:=h.shape
 refine call_run' (G:=G) rfl (ext_none (by decide)) ?_
 simp
 have hsm:=h.small
 refine run_loop (fun j a' S'=>∃ i,j=l.length - i∧i ≤ l.length∧S'=S∧Has a' 19 [(0,.slice a l.length cap),(1,.int .i64 n),(5,.int .i64 i)]∧ixI l n=ixFrom l n i) _ ⟨0,rfl,by omega,rfl,⟨rfl,rfl,by simp⟩,(ixFrom_zero l n).symm⟩ ?_
 rintro _ R hR _ _ ⟨i,rfl,hi,rfl,ha,hne⟩
 obtain ⟨x,rfl⟩:=ha.lit
 by_cases hlt : i < l.length
 ·obtain ⟨p,o,cells,e,wr,ex,h1,h2,h3,h4,h5⟩:=h.at hlt
  rw [ixFrom_step hlt] at hne
  by_cases h0 : l[i]=n
  ·simp [fillF,pickL,hlt,h1,h2,h5,h0]
   rw [hne,if_pos h0] at hq
   exact hq
  ·simp [fillF,pickL,hlt,h1,h2,h5,h0]
   rw [if_neg h0] at hne
   exact hR _ _ _ (by omega) ⟨i + 1,rfl,by omega,rfl,⟨rfl,rfl,by simp [wrapS (show i < 9223372036854775807 by omega)]⟩,hne⟩
 ·have : i=l.length:=by omega
  subst this
  rw [hne,ixFrom_end] at hq
  simp [fillF,pickL]
  exact hq
def twG : List Int→List Int→Bool
 | _,[]=>false
 | seen,x :: r=>if x ∈ seen then true else twG (x :: seen) r
def twice (l : List Int) : Bool:=twG [] l
theorem twG_spec : ∀ (seen l : List Int),twG seen l=false ↔ l.Nodup∧∀ x ∈ l,x ∉ seen
 | seen,[]=>by simp [twG]
 | seen,x :: r=>by
  unfold twG
  by_cases h : x ∈ seen
  ·simp [h]
  ·simp only [h,if_false,twG_spec (x :: seen) r,List.nodup_cons,List.mem_cons,not_or]
   constructor
   ·rintro ⟨h1,h2⟩
    refine ⟨⟨fun hx=>(h2 x hx).1 rfl,h1⟩,fun y hy=>?_⟩
    rcases hy with rfl | hy
    ·exact h
    ·exact (h2 y hy).2
   ·rintro ⟨⟨h1,h2⟩,h3⟩
    exact ⟨h2,fun y hy=>⟨fun e=>h1 (e ▸ hy),h3 y (.inr hy)⟩⟩
theorem twice_spec (l : List Int) : twice l=false ↔ l.Nodup:=by
 unfold twice
 rw [twG_spec]; simp
theorem ptwice_ok {S : AS} {v : Value} {l : List Int} (h : Is S v l) {Q : En→AS→Prop} (hq : ∀ S',Same S S' []→Q (.ret (.bool (twice l))) S') : Call G 115 [v] S Q:=by
 obtain ⟨a,cap,rfl⟩:=h.shape
 refine call_run' (G:=G) rfl (ext_none (by decide)) ?_
 simp
 have hsm:=h.small
 refine run_loop (fun j a' S'=>∃ i seen,j=l.length - i∧i ≤ l.length∧Same S S' []∧S.next < S'.next∧Has a' 19 [(3,.map (some S.next)),(7,.slice a l.length cap),(8,.int .i64 l.length),(9,.int .i64 i)] ∧
  MapAt S' S.next [.int .i64] false (fun x : Int=>Value.int .i64 x) (fun x=>if x ∈ seen then some (.bool true) else none)∧twice l=twG seen (l.drop i)) _ ⟨0,[],rfl,by omega,?_,by simp,⟨rfl,rfl,by simp⟩,?_,by simp [twice]⟩ ?_
 ·repeat' first | exact Same.refl _ _ | apply Same.bu | (refine Same.pn ?_ (by first | omega | (simp; omega)))
 ·exact ⟨[],0,by simp,by simpa using Fnd.nil⟩
 rintro _ R hR _ S2 ⟨i,seen,rfl,hi,hs2,hn2,ha,hm,hok⟩
 obtain ⟨x,rfl⟩:=ha.lit
 by_cases hlt : i < l.length
 ·obtain ⟨p,o,cells,e,wr,ex,h1,h2,h3,h4,h5⟩:=(h.stay0 hs2).at hlt
  rw [List.drop_eq_getElem_cons hlt,twG] at hok
  simp [fillF,pickL,hlt,h1,h2,h5,hm.look keyInt]
  by_cases c3 : l[i] ∈ seen
  ·simp [c3]
   rw [if_pos c3] at hok
   rw [hok] at hq
   exact hq _ hs2
  ·obtain ⟨ob,e1,e2⟩:=hm.mset keyInt l[i] (.bool true)
   simp [c3,e1]
   rw [if_neg c3] at hok
   refine hR _ _ _ (by omega) ⟨i + 1,l[i] :: seen,rfl,by omega,hs2.pn (by omega),by simpa using hn2,⟨rfl,rfl,by simp [wrapS (show i < 9223372036854775807 by omega)]⟩,?_,hok⟩
   have hf : (fun x=>if x ∈ l[i] :: seen then some (Value.bool true) else none)=upd1 (fun x : Int=>if x ∈ seen then some (Value.bool true) else none) l[i] (.bool true):=by
    funext y
    unfold upd1
    by_cases hy : y=l[i]
    ·simp [hy]
    ·simp [hy]
   rw [hf]; exact e2
 ·obtain rfl : i=l.length:=by omega
  rw [List.drop_length,twG] at hok
  rw [hok] at hq
  simp [fillF,pickL]
  exact hq _ hs2
theorem rtwice_ok {S : AS} {v : Value} {l : List Int} (h : Is S v l) {Q : En→AS→Prop} (hq : Q (.ret (.bool (twice l))) S) : Call G 117 [v] S Q:=by
 obtain ⟨a,cap,rfl⟩:=h.shape
 refine call_run' (G:=G) rfl (ext_none (by decide)) ?_
 simp
 have hsm:=h.small
 refine run_loop (fun j a' S'=>∃ i seen,j=l.length - i∧i ≤ l.length∧S'=S∧Has a' 20 [(0,.slice a l.length cap),(3,.int .i64 i)] ∧
  (∀ x,x ∈ seen ↔ x ∈ l.take i)∧twice l=twG seen (l.drop i)) _ ⟨0,[],rfl,by omega,rfl,⟨rfl,rfl,by simp⟩,by simp,by simp [twice]⟩ ?_
 rintro _ R hR _ _ ⟨i,seen,rfl,hi,rfl,ha,hm,hok⟩
 obtain ⟨x,rfl⟩:=ha.lit
 by_cases hlt : i < l.length
 ·obtain ⟨p,o,cells,e,wr,ex,h1,h2,h3,h4,h5⟩:=h.at hlt
  obtain ⟨v',f1,f2,f3⟩:=h.slc (lo:=none) (hi:=some (.int .i64 i)) (i:=0) (j:=i) (.inl ⟨rfl,rfl⟩) (.inr rfl) (by omega) (by omega)
  rw [List.drop_eq_getElem_cons hlt,twG] at hok
  simp [fillF,pickL,hlt,h1,h2,h5,f1]
  refine has_ok f2 ?_
  simp [h1,h2,h5,f1]
  by_cases c3 : l[i] ∈ List.take i l
  ·simp [c3]
   rw [if_pos ((hm _).2 c3)] at hok
   rw [hok] at hq
   exact hq
  ·simp [c3]
   rw [if_neg (fun hh=>c3 ((hm _).1 hh))] at hok
   refine hR _ _ _ (by omega) ⟨i + 1,l[i] :: seen,rfl,by omega,rfl,⟨rfl,rfl,by simp [wrapS (show i < 9223372036854775807 by omega)]⟩,?_,hok⟩
   intro y
   rw [List.take_succ_eq_append_getElem hlt,List.mem_append,List.mem_cons,hm y]
   simp [or_comm]
 ·obtain rfl : i=l.length:=by omega
  rw [List.drop_length,twG] at hok
  rw [hok] at hq
  simp [fillF,pickL]
  exact hq
end Go.Gx.A
namespace Go.Gx.A
open Go.Gx Go.Proofs
set_option maxRecDepth 100000
set_option linter.all false
set_option maxHeartbeats 4000000
def errL (ls : List (List Int)) : Int:=if ls.any (fun l=>decide (200 < l.length))=true then 2 else if ls.any twice=true then 6 else 0
structure Ls (S : AS) (v : Value) (vs : List Value) (ls : List (List Int)) : Prop where
 cs : Cs S v vs
 len : vs.length=ls.length
 small : vs.length ≤ 9223372036854775807
 pt : ∀ (i : Nat) (v : Value) (l : List Int),vs[i]?=some v→ls[i]?=some l→Is S v l
theorem Ls.stay0 {S S' : AS} {v : Value} {vs : List Value} {ls : List (List Int)} (h : Ls S v vs ls) (hs : Same S S' []) : Ls S' v vs ls:=⟨h.cs.stays hs (by simp),h.len,h.small,fun i v l h1 h2=>(h.pt i v l h1 h2).stay0 hs⟩
theorem Ls.at {S : AS} {v : Value} {vs : List Value} {ls : List (List Int)} (h : Ls S v vs ls) {i : Nat} (hi : i < ls.length) :
  ∃ p o cells e wr ex b cap,(∀ (S' : AS) (j : IntKind),idxE S' 1 none (.int j i) v=.ret (.pointer (some ⟨p,o,none⟩),S'))∧S.get p=some (.row cells e wr ex)∧p < S.next∧p ∈ ownsOf v∧cells[o]?=some (.slice b ls[i].length cap)∧Is S (.slice b ls[i].length cap) ls[i]∧vs[i]?=some (.slice b ls[i].length cap):=by
 have hiv : i < vs.length:=by rw [h.len]; exact hi
 obtain ⟨p,o,cells,e,wr,ex,h1,h2,h3,h4,h5⟩:=h.cs.idx (S':=S) (j:=.i64) (i:=i) hiv
 have his:=h.pt i vs[i] ls[i] (List.getElem?_eq_getElem hiv) (List.getElem?_eq_getElem hi)
 obtain ⟨b,cap,hb⟩:=his.shape
 refine ⟨p,o,cells,e,wr,ex,b,cap,fun S' j=>?_,h2,h3,h4,by rw [h5,hb],by rw [← hb]; exact his,by rw [List.getElem?_eq_getElem hiv,hb]⟩
 obtain ⟨a,cap,rfl⟩:=h.cs.shape
 match a with
 | none=>simp [idxE] at h1
 | some ⟨b,q,some s⟩=>simp [idxE] at h1
 | some ⟨b,q,none⟩=>
  simp [hiv] at h1 ⊢
  exact h1
theorem Ls.shape {S : AS} {v : Value} {vs : List Value} {ls : List (List Int)} (h : Ls S v vs ls) : ∃ a cap,v=.slice a ls.length cap:=by
 obtain ⟨a,cap,e⟩:=h.cs.shape
 exact ⟨a,cap,by rw [e,h.len]⟩
theorem lists_ok {S : AS} {v : Value} {vs : List Value} {ls : List (List Int)} (h : Ls S v vs ls) {Q : En→AS→Prop} (hq : ∀ S',Same S S' []→Q (.ret (.int .i64 (errL ls))) S') : Call G 72 [v] S Q:=by
 obtain ⟨a,cap,rfl⟩:=h.shape
 refine call_run' (G:=G) rfl (ext_none (by decide)) ?_
 simp
 have hsm:=h.small
 rw [h.len] at hsm
 refine run_loop (fun j a' S'=>∃ i,j=ls.length - i∧i ≤ ls.length∧S'=S∧Has a' 26 [(0,.slice a ls.length cap),(7,.slice a ls.length cap),(8,.int .i64 ls.length),(9,.int .i64 i)]∧ls.any (fun l=>decide (200 < l.length))=(ls.drop i).any (fun l=>decide (200 < l.length))) _ ⟨0,rfl,by omega,rfl,⟨rfl,rfl,by simp⟩,by simp⟩ ?_
 rintro _ R hR _ S ⟨i,rfl,hi,rfl,ha,hok⟩
 obtain ⟨x,rfl⟩:=ha.lit
 by_cases hlt : i < ls.length
 ·obtain ⟨p,o,cells,e,wr,ex,b,cap',h1,h2,h3,h4,h5,h6,_⟩:=h.at hlt
  rw [List.drop_eq_getElem_cons hlt,List.any_cons] at hok
  simp [fillF,pickL,hlt,h1,h2,h5]
  by_cases c : 200 < ls[i].length
  ·have c' : (200 : Int) < ls[i].length:=by omega
   simp [c']
   have : errL ls=2:=by unfold errL; rw [hok]; simp [c]
   rw [this] at hq
   exact hq _ (.refl _ _)
  ·have c' : ¬ (200 : Int) < ls[i].length:=by omega
   simp [c']
   refine hR _ _ _ (by omega) ⟨i + 1,rfl,by omega,rfl,⟨rfl,rfl,by simp [wrapS (show i < 9223372036854775807 by omega)]⟩,?_⟩
   rw [hok]; simp [c]
 ·obtain rfl : i=ls.length:=by omega
  rw [List.drop_length] at hok
  have he : errL ls=if ls.any twice=true then 6 else 0:=by unfold errL; rw [hok]; simp
  simp [fillF,pickL]
  refine run_loop (fun j a' S'=>∃ i,j=ls.length - i∧i ≤ ls.length∧Same S S' []∧Has a' 26 [(17,.slice a ls.length cap),(18,.int .i64 ls.length),(19,.int .i64 i)]∧ls.any twice=(ls.drop i).any twice) _ ⟨0,rfl,by omega,.refl _ _,⟨rfl,rfl,by simp⟩,by simp⟩ ?_
  rintro _ R2 hR2 _ S1 ⟨i,rfl,hi,hs1,ha,hok⟩
  obtain ⟨x,rfl⟩:=ha.lit
  by_cases hlt : i < ls.length
  ·obtain ⟨p,o,cells,e,wr,ex,b,cap',h1,h2,h3,h4,h5,h6,_⟩:=(h.stay0 hs1).at hlt
   rw [List.drop_eq_getElem_cons hlt,List.any_cons] at hok
   simp [fillF,pickL,hlt,h1,h2,h5]
   refine ptwice_ok h6 fun S2 hs2=>?_
   by_cases c : twice ls[i]=true
   ·simp [c]
    have : errL ls=6:=by rw [he,hok]; simp [c]
    rw [this] at hq
    exact hq _ (hs1.tr0 hs2)
   ·simp [c]
    refine hR2 _ _ _ (by omega) ⟨i + 1,rfl,by omega,hs1.tr0 hs2,⟨rfl,rfl,by simp [wrapS (show i < 9223372036854775807 by omega)]⟩,?_⟩
    rw [hok]; simp [c]
  ·obtain rfl : i=ls.length:=by omega
   rw [List.drop_length] at hok
   simp [fillF,pickL]
   rw [he,hok] at hq
   exact hq _ hs1
theorem rlists_ok {S : AS} {v w : Value} {l m : List Int} (h : Is S v l) (k : Is S w m) {Q : En→AS→Prop} (hq : Q (.ret (.int .i64 (errL [l,m]))) S) : Call G 79 [v,w] S Q:=by
 obtain ⟨a,cap,rfl⟩:=h.shape
 obtain ⟨b,cap',rfl⟩:=k.shape
 refine call_run' (G:=G) rfl (ext_none (by decide)) ?_
 simp
 by_cases c1 : 200 < l.length
 ·have c1' : (200 : Int) < l.length:=by omega
  simp [c1']
  have : errL [l,m]=2:=by unfold errL; simp [c1]
  rw [this] at hq; exact hq
 have c1' : ¬ (200 : Int) < l.length:=by omega
 simp [c1']
 by_cases c2 : 200 < m.length
 ·have c2' : (200 : Int) < m.length:=by omega
  simp [c2']
  have : errL [l,m]=2:=by unfold errL; simp [c2]
  rw [this] at hq; exact hq
 have c2' : ¬ (200 : Int) < m.length:=by omega
 simp [c2']
 refine rtwice_ok h ?_
 simp
 refine rtwice_ok k ?_
 simp
 cases c3 : twice l
 ·simp
  cases c4 : twice m
  ·simp
   have : errL [l,m]=0:=by unfold errL; simp [c1,c2,c3,c4]
   rw [this] at hq; exact hq
  ·simp
   have : errL [l,m]=6:=by unfold errL; simp [c1,c2,c3,c4]
   rw [this] at hq; exact hq
 ·simp
  have : errL [l,m]=6:=by unfold errL; simp [c1,c2,c3]
  rw [this] at hq; exact hq
end Go.Gx.A
namespace Go.Gx.A
open Go.Gx Go.Proofs
set_option maxRecDepth 100000
set_option linter.all false
set_option maxHeartbeats 4000000
@[simp] theorem nn1 (k : Nat) : (0 ≤ (k : Int) + 1)=True:=eq_true (by omega)
@[simp] theorem nn1' (k : Nat) : ((k : Int) + 1 < 0)=False:=eq_false (by omega)
@[simp] theorem tn1 (k : Nat) : ((k : Int) + 1).toNat=k + 1:=by omega
def rowv (w r : Nat) : Value:=.slice (some ⟨r,0,none⟩) w w
def rowc (w : Nat) (f : Nat→Int) : List Value:=(List.range w).map fun k=>.int .i64 (f k)
@[simp] theorem rowc_len (w : Nat) (f : Nat→Int) : (rowc w f).length=w:=by simp [rowc]
@[simp] theorem rowc_elem {w : Nat} {f : Nat→Int} {k : Nat} (h : k < (rowc w f).length) : (rowc w f)[k]'h=.int .i64 (f k):=by simp [rowc]
@[simp] theorem foldV_two {f : Value→Value→Option Value} {a b : Value} : foldV f [a,b]=f a b:=by
 simp only [foldV,List.foldlM_cons,List.foldlM_nil]
 cases f a b <;> rfl
@[simp] theorem rowStore1 {x y : Value} : rowStore [x] 0 [y]=if okc y=true then some [y] else none:=by
 unfold rowStore
 by_cases h : okc y=true
 ·simp [h,splice]
 ·simp [h]
structure Tb (S : AS) (e : TypeId) (v : Value) (rs : List Nat) (w : Nat) (M : Nat→Nat→Int) : Prop where
 sl : SlAt S e v (rs.map fun r=>[rowv w r])
 rows : ∀ (i r : Nat),rs[i]?=some r→S.get r=some (.row (rowc w (M i)) 3 true true)∧r < S.next∧r ∉ ownsOf v
 nd : rs.Nodup
theorem flat1 (w : Nat) (rs : List Nat) : (rs.map fun r=>[rowv w r]).flatten=rs.map (rowv w):=by
 induction rs with
 | nil=>rfl
 | cons r rs ih=>simp [ih]
theorem Tb.at {S : AS} {e : TypeId} {v : Value} {rs : List Nat} {w : Nat} {M : Nat→Nat→Int} (h : Tb S e v rs w M) {i : Nat} (hi : i < rs.length) :
  ∃ p ex r,(∀ (S' : AS) (j : IntKind),idxE S' 1 none (.int j i) v=.ret (.pointer (some ⟨p,i,none⟩),S'))∧S.get p=some (.row (rs.map (rowv w)) e true ex)∧(rs.map (rowv w))[i]?=some (.slice (some ⟨r,0,none⟩) w w) ∧
   S.get r=some (.row (rowc w (M i)) 3 true true)∧r < S.next∧p < S.next∧r ≠ p∧rs[i]?=some r∧p ∈ ownsOf v:=by
 have hl : (rs.map fun r=>[rowv w r]).length=rs.length:=by simp
 obtain ⟨p,ex,h1,h2,h3,h4⟩:=h.sl.idx (S':=S) (k:=1) (i:=i) (j:=.i64) (by rw [hl]; exact hi)
 obtain ⟨g1,g2,g3⟩:=h.rows i rs[i] (List.getElem?_eq_getElem hi)
 refine ⟨p,ex,rs[i],fun S' j=>?_,by rw [h2,flat1],by simp [hi,rowv],g1,g2,h3,fun e=>g3 (e ▸ h4),List.getElem?_eq_getElem hi,h4⟩
 rcases h.sl with ⟨rfl,hn⟩ | ⟨p',ex',rfl,h5,h6⟩
 ·simp at hn; subst hn; simp at hi
 ·simp [ownsOf] at h4
  subst h4
  simp [hi]
theorem Tb.stays {S S' : AS} {e : TypeId} {v : Value} {rs : List Nat} {w : Nat} {M : Nat→Nat→Int} (h : Tb S e v rs w M) {fp : List Nat} (hs : Same S S' fp) (hd : ∀ m ∈ ownsOf v,m ∉ fp) (hr : ∀ m ∈ rs,m ∉ fp) : Tb S' e v rs w M:=by
 refine ⟨h.sl.stays hs hd,fun i r hi=>?_,h.nd⟩
 obtain ⟨g1,g2,g3⟩:=h.rows i r hi
 exact ⟨by rw [hs.2 r g2 (hr r (List.mem_of_getElem? hi))]; exact g1,Nat.lt_of_lt_of_le g2 hs.1,g3⟩
end Go.Gx.A
namespace Go.Gx.A
open Go.Gx Go.Proofs
set_option maxRecDepth 100000
set_option linter.all false
set_option maxHeartbeats 4000000
end Go.Gx.A
