/-
  Lists of numbers: twice, index, contains.
-/
import Derived.Test.YtamljcdnphjgaaaPa
import Derived.Test.YtamljcdnphjgaaaPk
set_option linter.all false
set_option linter.deprecated false
set_option linter.unusedSimpArgs false
set_option linter.unusedVariables false
namespace Go.Gx.A
open Go.Gx Go.Proofs
set_option maxRecDepth 100000
set_option maxHeartbeats 4000000
def ixI (l : List Int) (x : Int) : Int:=match l.idxOf? x with
 | some i=>i
 | none=>-1
theorem ixI_cons (a x : Int) (l : List Int) : ixI (a :: l) x=if a=x then 0 else if ixI l x < 0 then -1 else ixI l x + 1:=by
 unfold ixI
 rw [List.idxOf?_cons]
 by_cases h : a=x
 ·simp [h]
 ·simp only [beq_iff_eq,h,if_false]
  cases hx : l.idxOf? x with
  | none=>simp
  | some i=>
   simp only [Option.map_some]
   rw [if_neg (by omega)]; omega
theorem ixI_none {l : List Int} {x : Int} : ixI l x < 0↔x∉l:=by
 unfold ixI
 rw [← idxOf_none]
 cases l.idxOf? x with
 | none=>simp
 | some i=>
  simp only [reduceCtorEq,iff_false]; omega
theorem ixI_mem {l : List Int} {x : Int} : 0≤ixI l x↔x∈l:=by
 have:=@ixI_none l x
 constructor
 ·intro h; by_cases hx : x∈l
  ·exact hx
  ·have:=this.2 hx; omega
 ·intro h
  by_cases h2 : ixI l x < 0
  ·exact absurd h (this.1 h2)
  ·omega
theorem ixI_ge (l : List Int) (x : Int) : -1≤ixI l x:=by
 unfold ixI
 split <;> omega
theorem ixI_some {l : List Int} {x : Int} (h : 0≤ixI l x) : ∃ i : Nat,ixI l x=i∧i < l.length∧l[i]?=some x∧∀ j,j < i→l[j]?≠some x:=by
 unfold ixI at h ⊢
 split at h
 ·rename_i i hi
  obtain ⟨h1,h2⟩:=idxOf_some hi
  refine ⟨i,rfl,(List.getElem?_eq_some_iff.1 h1).1,h1,h2⟩
 ·omega
def ixFrom (l : List Int) (x : Int) (i : Nat) : Int:=if ixI (l.drop i) x < 0 then -1 else ixI (l.drop i) x + i
theorem ixFrom_step {l : List Int} {x : Int} {i : Nat} (h : i < l.length) : ixFrom l x i=if l[i]=x then (i : Int) else ixFrom l x (i + 1):=by
 unfold ixFrom
 rw [List.drop_eq_getElem_cons h,ixI_cons]
 have:=ixI_ge (l.drop (i + 1)) x
 by_cases h1 : l[i]=x
 ·simp [h1]
 ·simp only [h1,if_false]
  by_cases h2 : ixI (l.drop (i + 1)) x < 0
  ·simp [h2]
  ·simp only [h2,if_false]
   rw [if_neg (by omega)]; omega
theorem ixFrom_zero (l : List Int) (x : Int) : ixFrom l x 0=ixI l x:=by
 unfold ixFrom
 have:=ixI_ge l x
 simp
 intro h; omega
theorem ixFrom_end (l : List Int) (x : Int) : ixFrom l x l.length=-1:=by
 unfold ixFrom
 rw [List.drop_length]
 simp [ixI]
theorem index_ok {S : AS} {v : Value} {l : List Int} {n : Int} (h : Is S v l) {Q : En→AS→Prop} (hq : Q (.ret (.int .i64 (ixI l n))) S) : Call G 75 [v,.int .i64 n] S Q:=by
 obtain ⟨a,cap,rfl⟩:=h.shape
 refine call_run' (G:=G) rfl (ext_none (by decide)) ?_
 simp
 have hsm:=h.small
 refine run_loop (fun j a' S'=>∃ i,j=l.length - i∧i≤l.length∧S'=S∧Has a' 19 [(0,.slice a l.length cap),(1,.int .i64 n),(7,.int .i64 l.length),(8,.int .i64 i)]∧ixI l n=ixFrom l n i) _ ⟨0,rfl,by omega,rfl,⟨rfl,rfl,by simp⟩,(ixFrom_zero l n).symm⟩ ?_
 rintro _ R hR _ _ ⟨i,rfl,hi,rfl,ha,hne⟩
 obtain ⟨x,rfl⟩:=ha.lit
 by_cases hlt : i < l.length
 ·obtain ⟨p,o,cells,e,wr,ex,h1,h2,h3,h4,h5⟩:=h.at hlt
  rw [ixFrom_step hlt] at hne
  by_cases h0 : l[i]=n
  ·simp [fillF,pickL,hlt,h1,h2,h5,h0]
   rw [hne,if_pos h0] at hq
   exact hq
  ·have h0' : ¬ n=l[i]:=fun e=>h0 e.symm
   simp [fillF,pickL,hlt,h1,h2,h5,h0']
   rw [if_neg h0] at hne
   exact hR _ _ _ (by omega) ⟨i + 1,rfl,by omega,rfl,⟨rfl,rfl,by simp [wrapS (show i < 9223372036854775807 by omega)]⟩,hne⟩
 ·have : i=l.length:=by omega
  subst this
  rw [hne,ixFrom_end] at hq
  simp [fillF,pickL]
  exact hq
theorem contains_ok {S : AS} {v : Value} {l : List Int} {n : Int} (h : Is S v l) {Q : En→AS→Prop} (hq : Q (.ret (.bool (decide (n∈l)))) S) : Call G 74 [v,.int .i64 n] S Q:=by
 refine call_run' (G:=G) rfl (ext_none (by decide)) ?_
 simp
 refine index_ok h ?_
 have : decide (0≤ixI l n)=decide (n∈l):=by rw [decide_eq_decide]; exact ixI_mem
 simp [this]
 exact hq

structure Ls (S : AS) (v : Value) (vs : List Value) (ls : List (List Int)) : Prop where
 cs : Cs S v vs
 len : vs.length=ls.length
 small : vs.length≤9223372036854775807
 pt : ∀ (i : Nat) (v : Value) (l : List Int),vs[i]?=some v→ls[i]?=some l→Is S v l
theorem Ls.stay0 {S S' : AS} {v : Value} {vs : List Value} {ls : List (List Int)} (h : Ls S v vs ls) (hs : Same S S' []) : Ls S' v vs ls:=⟨h.cs.stays hs (by simp),h.len,h.small,fun i v l h1 h2=>(h.pt i v l h1 h2).stay0 hs⟩
theorem Ls.at {S : AS} {v : Value} {vs : List Value} {ls : List (List Int)} (h : Ls S v vs ls) {i : Nat} (hi : i < ls.length) :
  ∃ p o cells e wr ex b cap,(∀ (S' : AS) (j : IntKind),idxE S' 1 none (.int j i) v=.ret (.pointer (some ⟨p,o,none⟩),S'))∧S.get p=some (.row cells e wr ex)∧p < S.next∧p∈ownsOf v∧cells[o]?=some (.slice b ls[i].length cap)∧Is S (.slice b ls[i].length cap) ls[i]∧vs[i]?=some (.slice b ls[i].length cap):=by
 have hiv : i < vs.length:=by rw [h.len]; exact hi
 obtain ⟨p,o,cells,e,wr,ex,h1,h2,h3,h4,h5⟩:=h.cs.idx (S':=S) (j:=.i64) (i:=i) hiv
 have his:=h.pt i vs[i] ls[i] (List.getElem?_eq_getElem hiv) (List.getElem?_eq_getElem hi)
 obtain ⟨b,cap,hb⟩:=his.shape
 refine ⟨p,o,cells,e,wr,ex,b,cap,fun S' j=>?_,h2,h3,h4,by rw [h5,hb],by rw [← hb]; exact his,by rw [List.getElem?_eq_getElem hiv,hb]⟩
 obtain ⟨a,cap,rfl⟩:=h.cs.shape
 match a with
 | none=>simp [idxE] at h1
 | some ⟨b,q,some s⟩=>simp [idxE] at h1
 | some ⟨b,q,none⟩=>
  simp [hiv] at h1 ⊢
  exact h1
theorem Ls.shape {S : AS} {v : Value} {vs : List Value} {ls : List (List Int)} (h : Ls S v vs ls) : ∃ a cap,v=.slice a ls.length cap:=by
 obtain ⟨a,cap,e⟩:=h.cs.shape
 exact ⟨a,cap,by rw [e,h.len]⟩

@[simp] theorem nn1 (k : Nat) : (0≤(k : Int) + 1)=True:=eq_true (by omega)
@[simp] theorem nn1' (k : Nat) : ((k : Int) + 1 < 0)=False:=eq_false (by omega)
@[simp] theorem tn1 (k : Nat) : ((k : Int) + 1).toNat=k + 1:=by omega
def rowv (w r : Nat) : Value:=.slice (some ⟨r,0,none⟩) w w
def rowc (w : Nat) (f : Nat→Int) : List Value:=(List.range w).map fun k=>.int .i64 (f k)
@[simp] theorem rowc_len (w : Nat) (f : Nat→Int) : (rowc w f).length=w:=by simp [rowc]
theorem rowc_get {w : Nat} {f : Nat→Int} {k : Nat} (h : k < w) : (rowc w f)[k]?=some (.int .i64 (f k)):=by simp [rowc,h]
@[simp] theorem rowc_elem {w : Nat} {f : Nat→Int} {k : Nat} (h : k < (rowc w f).length) : (rowc w f)[k]'h=.int .i64 (f k):=by simp [rowc]
@[simp] theorem foldV_two {f : Value→Value→Option Value} {a b : Value} : foldV f [a,b]=f a b:=by
 simp only [foldV,List.foldlM_cons,List.foldlM_nil]
 cases f a b <;> rfl
@[simp] theorem rowStore1 {x y : Value} : rowStore [x] 0 [y]=if okc y=true then some [y] else none:=by
 unfold rowStore
 by_cases h : okc y=true
 ·simp [h,splice]
 ·simp [h]
theorem rowc_congr {w : Nat} {f g : Nat→Int} (h : ∀ k,k < w→f k=g k) : rowc w f=rowc w g:=by
 unfold rowc
 apply List.map_congr_left
 intro k hk
 rw [h k (by simpa using hk)]
theorem rowc_set {w : Nat} {f : Nat→Int} {k : Nat} {x : Int} (h : k < w) : rowStore (rowc w f) k [.int .i64 x]=some (rowc w fun j=>if j=k then x else f j):=by
 unfold rowStore
 rw [if_pos ⟨by simp; omega,by simp [okc]⟩]
 congr 1
 apply List.ext_getElem?
 intro j
 rw [splice_get (by simp; omega)]
 by_cases h1 : j < k
 ·rw [if_pos h1,rowc_get (by omega),rowc_get (by omega)]; simp; omega
 ·rw [if_neg h1]
  by_cases h2 : j=k
  ·subst h2
   rw [if_pos (by simp),rowc_get h]; simp
  ·rw [if_neg (by simp; omega)]
   by_cases h3 : j < w
   ·rw [rowc_get h3,rowc_get h3]; simp [h2]
   ·rw [List.getElem?_eq_none (by simp; omega),List.getElem?_eq_none (by simp; omega)]
theorem rep_zero (n : Nat) : repCells [.int .i64 0] n=rowc n fun _=>0:=by
 rw [rep_flat]
 apply List.ext_getElem?
 intro j
 have : (List.replicate n [Value.int .i64 0]).flatten=List.replicate n (Value.int .i64 0):=by
  induction n with
  | zero=>rfl
  | succ n ih=>rw [List.replicate_succ,List.flatten_cons,ih,List.replicate_succ]; rfl
 rw [this,List.getElem?_replicate]
 by_cases h : j < n
 ·rw [if_pos h,rowc_get h]
 ·rw [if_neg h,List.getElem?_eq_none (by simp; omega)]
theorem nodup_inj {α : Type} {l : List α} {i j : Nat} {x : α} (h : l.Nodup) (hi : l[i]?=some x) (hj : l[j]?=some x) : i=j:=by
 obtain ⟨h1,h2⟩:=List.getElem?_eq_some_iff.1 hi
 obtain ⟨h3,h4⟩:=List.getElem?_eq_some_iff.1 hj
 have:=List.pairwise_iff_getElem.1 h
 rcases Nat.lt_trichotomy i j with hlt | heq | hgt
 ·exact absurd (h2.trans h4.symm) (this i j h1 h3 hlt)
 ·exact heq
 ·exact absurd (h4.trans h2.symm) (this j i h3 h1 hgt)
structure Tb (S : AS) (e : TypeId) (v : Value) (rs : List Nat) (w : Nat) (M : Nat→Nat→Int) : Prop where
 sl : SlAt S e v (rs.map fun r=>[rowv w r])
 rows : ∀ (i r : Nat),rs[i]?=some r→S.get r=some (.row (rowc w (M i)) 3 true true)∧r < S.next∧r∉ownsOf v
 nd : rs.Nodup
theorem flat1 (w : Nat) (rs : List Nat) : (rs.map fun r=>[rowv w r]).flatten=rs.map (rowv w):=by
 induction rs with
 | nil=>rfl
 | cons r rs ih=>simp [ih]
theorem Tb.at {S : AS} {e : TypeId} {v : Value} {rs : List Nat} {w : Nat} {M : Nat→Nat→Int} (h : Tb S e v rs w M) {i : Nat} (hi : i < rs.length) :
  ∃ p ex r,(∀ (S' : AS) (j : IntKind),idxE S' 1 none (.int j i) v=.ret (.pointer (some ⟨p,i,none⟩),S'))∧S.get p=some (.row (rs.map (rowv w)) e true ex)∧(rs.map (rowv w))[i]?=some (.slice (some ⟨r,0,none⟩) w w) ∧
   S.get r=some (.row (rowc w (M i)) 3 true true)∧r < S.next∧p < S.next∧r≠p∧rs[i]?=some r∧p∈ownsOf v:=by
 have hl : (rs.map fun r=>[rowv w r]).length=rs.length:=by simp
 obtain ⟨p,ex,h1,h2,h3,h4⟩:=h.sl.idx (S':=S) (k:=1) (i:=i) (j:=.i64) (by rw [hl]; exact hi)
 obtain ⟨g1,g2,g3⟩:=h.rows i rs[i] (List.getElem?_eq_getElem hi)
 refine ⟨p,ex,rs[i],fun S' j=>?_,by rw [h2,flat1],by simp [hi,rowv],g1,g2,h3,fun e=>g3 (e ▸ h4),List.getElem?_eq_getElem hi,h4⟩
 rcases h.sl with ⟨rfl,hn⟩ | ⟨p',ex',rfl,h5,h6⟩
 ·simp at hn; subst hn; simp at hi
 ·simp [ownsOf] at h4
  subst h4
  simp [hi]
theorem Tb.set {S : AS} {e : TypeId} {v : Value} {rs : List Nat} {w : Nat} {M : Nat→Nat→Int} (h : Tb S e v rs w M) {i r : Nat} {f : Nat→Int} (hi : rs[i]?=some r) :
  Tb (S.put r (.row (rowc w f) 3 true true)) e v rs w (fun i'=>if i'=i then f else M i'):=by
 obtain ⟨g1,g2,g3⟩:=h.rows i r hi
 refine ⟨h.sl.stays (same_put S r _) (fun m hm hr=>by simp at hr; subst hr; exact g3 hm),fun i' r' h'=>?_,h.nd⟩
 obtain ⟨k1,k2,k3⟩:=h.rows i' r' h'
 refine ⟨?_,by simpa using k2,k3⟩
 by_cases hr : i'=i
 ·subst hr
  rw [hi] at h'; cases h'
  simp
 ·have : r'≠r:=by
   intro e
   subst e
   exact hr (nodup_inj h.nd h' hi)
  rw [AS.get_put_ne _ _ this,k1]
  simp [hr]
theorem Tb.stays {S S' : AS} {e : TypeId} {v : Value} {rs : List Nat} {w : Nat} {M : Nat→Nat→Int} (h : Tb S e v rs w M) {fp : List Nat} (hs : Same S S' fp) (hd : ∀ m∈ownsOf v,m∉fp) (hr : ∀ m∈rs,m∉fp) : Tb S' e v rs w M:=by
 refine ⟨h.sl.stays hs hd,fun i r hi=>?_,h.nd⟩
 obtain ⟨g1,g2,g3⟩:=h.rows i r hi
 exact ⟨by rw [hs.2 r g2 (hr r (List.mem_of_getElem? hi))]; exact g1,Nat.lt_of_lt_of_le g2 hs.1,g3⟩
theorem Tb.stay0 {S S' : AS} {e : TypeId} {v : Value} {rs : List Nat} {w : Nat} {M : Nat→Nat→Int} (h : Tb S e v rs w M) (hs : Same S S' []) : Tb S' e v rs w M:=h.stays hs (by simp) (by simp)
theorem Tb.congr {S : AS} {e : TypeId} {v : Value} {rs : List Nat} {w : Nat} {M M' : Nat→Nat→Int} (h : Tb S e v rs w M) (hm : ∀ i k,i < rs.length→k < w→M i k=M' i k) : Tb S e v rs w M':=by
 refine ⟨h.sl,fun i r hi=>?_,h.nd⟩
 obtain ⟨g1,g2⟩:=h.rows i r hi
 refine ⟨?_,g2⟩
 rw [g1,rowc_congr fun k hk=>hm i k (List.getElem?_eq_some_iff.1 hi).1 hk]

theorem places_len (old order : List Int) : (places old order).length=old.length:=by simp [places]
theorem ite_iff {p q : Prop} [Decidable p] [Decidable q] {a b : Int} (h : p↔q) : (if p then a else b)=if q then a else b:=by
 by_cases hp : p
 ·rw [if_pos hp,if_pos (h.1 hp)]
 ·rw [if_neg hp,if_neg fun hq=>hp (h.2 hq)]
end Go.Gx.A
