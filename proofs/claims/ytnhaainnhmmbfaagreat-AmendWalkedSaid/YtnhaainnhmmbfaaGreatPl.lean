/-
  Lists of numbers: twice, index, contains.
-/
import Derived.Test.YtnhaainnhmmbfaaGreatPa
import Derived.Test.YtnhaainnhmmbfaaGreatPk
set_option linter.all false
set_option linter.deprecated false
namespace Go.Gx.Z
open Go.Gx Go.Proofs
set_option maxRecDepth 100000
set_option maxHeartbeats 4000000
def ixI (l : List Int) (x : Int) : Int:=match l.idxOf? x with
 | some i=>i
 | none=>-1
theorem ixI_cons (a x : Int) (l : List Int) : ixI (a :: l) x=if a=x then 0 else if ixI l x < 0 then -1 else ixI l x + 1:=by
 unfold ixI
 rw [List.idxOf?_cons]
 by_cases h : a=x
 ·simp [h]
 ·simp only [beq_iff_eq,h,if_false]
  cases hx : l.idxOf? x with
  | none=>simp
  | some i=>
   simp only [Option.map_some]
   rw [if_neg (by omega)]; omega
theorem ixI_none {l : List Int} {x : Int} : ixI l x < 0↔x∉l:=by
 unfold ixI
 rw [← idxOf_none]
 cases l.idxOf? x with
 | none=>simp
 | some i=>
  simp only [reduceCtorEq,iff_false]; omega
theorem ixI_mem {l : List Int} {x : Int} : 0≤ixI l x↔x∈l:=by
 have:=@ixI_none l x
 constructor
 ·intro h; by_cases hx : x∈l
  ·exact hx
  ·have:=this.2 hx; omega
 ·intro h
  by_cases h2 : ixI l x < 0
  ·exact absurd h (this.1 h2)
  ·omega
theorem ixI_ge (l : List Int) (x : Int) : -1≤ixI l x:=by
 unfold ixI
 split <;> omega
theorem ixI_some {l : List Int} {x : Int} (h : 0≤ixI l x) : ∃ i : Nat,ixI l x=i∧i < l.length∧l[i]?=some x∧∀ j,j < i→l[j]?≠some x:=by
 unfold ixI at h ⊢
 split at h
 ·rename_i i hi
  obtain ⟨h1,h2⟩:=idxOf_some hi
  refine ⟨i,rfl,(List.getElem?_eq_some_iff.1 h1).1,h1,h2⟩
 ·omega
def ixFrom (l : List Int) (x : Int) (i : Nat) : Int:=if ixI (l.drop i) x < 0 then -1 else ixI (l.drop i) x + i
theorem ixFrom_step {l : List Int} {x : Int} {i : Nat} (h : i < l.length) : ixFrom l x i=if l[i]=x then (i : Int) else ixFrom l x (i + 1):=by
 unfold ixFrom
 rw [List.drop_eq_getElem_cons h,ixI_cons]
 have:=ixI_ge (l.drop (i + 1)) x
 by_cases h1 : l[i]=x
 ·simp [h1]
 ·simp only [h1,if_false]
  by_cases h2 : ixI (l.drop (i + 1)) x < 0
  ·simp [h2]
  ·simp only [h2,if_false]
   rw [if_neg (by omega)]; omega
theorem ixFrom_zero (l : List Int) (x : Int) : ixFrom l x 0=ixI l x:=by
 unfold ixFrom
 have:=ixI_ge l x
 simp
 intro h; omega
theorem ixFrom_end (l : List Int) (x : Int) : ixFrom l x l.length=-1:=by
 unfold ixFrom
 rw [List.drop_length]
 simp [ixI]
theorem index_ok {S : AS} {v : Value} {l : List Int} {n : Int} (h : Is S v l) {Q : En→AS→Prop} (hq : Q (.ret (.int .i64 (ixI l n))) S) : Call G 48 [v,.int .i64 n] S Q:=by
 obtain ⟨a,cap,rfl⟩:=h.shape
 refine call_run' (G:=G) rfl (ext_none (by decide)) ?_
 simp
 have hsm:=h.small
 refine run_loop (fun j a' S'=>∃ i,j=l.length - i∧i≤l.length∧S'=S∧Has a' 19 [(0,.slice a l.length cap),(1,.int .i64 n),(7,.int .i64 l.length),(8,.int .i64 i)]∧ixI l n=ixFrom l n i) _ ⟨0,rfl,by omega,rfl,⟨rfl,rfl,by simp⟩,(ixFrom_zero l n).symm⟩ ?_
 rintro _ R hR _ _ ⟨i,rfl,hi,rfl,ha,hne⟩
 obtain ⟨x,rfl⟩:=ha.lit
 by_cases hlt : i < l.length
 ·obtain ⟨p,o,cells,e,wr,ex,h1,h2,h3,h4,h5⟩:=h.at hlt
  rw [ixFrom_step hlt] at hne
  by_cases h0 : l[i]=n
  ·simp [fillF,pickL,hlt,h1,h2,h5,h0]
   rw [hne,if_pos h0] at hq
   exact hq
  ·have h0' : ¬ n=l[i]:=fun e=>h0 e.symm
   simp [fillF,pickL,hlt,h1,h2,h5,h0']
   rw [if_neg h0] at hne
   exact hR _ _ _ (by omega) ⟨i + 1,rfl,by omega,rfl,⟨rfl,rfl,by simp [wrapS (show i < 9223372036854775807 by omega)]⟩,hne⟩
 ·have : i=l.length:=by omega
  subst this
  rw [hne,ixFrom_end] at hq
  simp [fillF,pickL]
  exact hq
theorem contains_ok {S : AS} {v : Value} {l : List Int} {n : Int} (h : Is S v l) {Q : En→AS→Prop} (hq : Q (.ret (.bool (decide (n∈l)))) S) : Call G 47 [v,.int .i64 n] S Q:=by
 refine call_run' (G:=G) rfl (ext_none (by decide)) ?_
 simp
 refine index_ok h ?_
 have : decide (0≤ixI l n)=decide (n∈l):=by rw [decide_eq_decide]; exact ixI_mem
 simp [this]
 exact hq

structure Ls (S : AS) (v : Value) (vs : List Value) (ls : List (List Int)) : Prop where
 cs : Cs S v vs
 len : vs.length=ls.length
 small : vs.length≤9223372036854775807
 pt : ∀ (i : Nat) (v : Value) (l : List Int),vs[i]?=some v→ls[i]?=some l→Is S v l
theorem Ls.stay0 {S S' : AS} {v : Value} {vs : List Value} {ls : List (List Int)} (h : Ls S v vs ls) (hs : Same S S' []) : Ls S' v vs ls:=⟨h.cs.stays hs (by simp),h.len,h.small,fun i v l h1 h2=>(h.pt i v l h1 h2).stay0 hs⟩
theorem Ls.at {S : AS} {v : Value} {vs : List Value} {ls : List (List Int)} (h : Ls S v vs ls) {i : Nat} (hi : i < ls.length) :
  ∃ p o cells e wr ex b cap,(∀ (S' : AS) (j : IntKind),idxE S' 1 none (.int j i) v=.ret (.pointer (some ⟨p,o,none⟩),S'))∧S.get p=some (.row cells e wr ex)∧p < S.next∧p∈ownsOf v∧cells[o]?=some (.slice b ls[i].length cap)∧Is S (.slice b ls[i].length cap) ls[i]∧vs[i]?=some (.slice b ls[i].length cap):=by
 have hiv : i < vs.length:=by rw [h.len]; exact hi
 obtain ⟨p,o,cells,e,wr,ex,h1,h2,h3,h4,h5⟩:=h.cs.idx (S':=S) (j:=.i64) (i:=i) hiv
 have his:=h.pt i vs[i] ls[i] (List.getElem?_eq_getElem hiv) (List.getElem?_eq_getElem hi)
 obtain ⟨b,cap,hb⟩:=his.shape
 refine ⟨p,o,cells,e,wr,ex,b,cap,fun S' j=>?_,h2,h3,h4,by rw [h5,hb],by rw [← hb]; exact his,by rw [List.getElem?_eq_getElem hiv,hb]⟩
 obtain ⟨a,cap,rfl⟩:=h.cs.shape
 match a with
 | none=>simp [idxE] at h1
 | some ⟨b,q,some s⟩=>simp [idxE] at h1
 | some ⟨b,q,none⟩=>
  simp [hiv] at h1 ⊢
  exact h1
theorem Ls.shape {S : AS} {v : Value} {vs : List Value} {ls : List (List Int)} (h : Ls S v vs ls) : ∃ a cap,v=.slice a ls.length cap:=by
 obtain ⟨a,cap,e⟩:=h.cs.shape
 exact ⟨a,cap,by rw [e,h.len]⟩

@[simp] theorem nn1 (k : Nat) : (0≤(k : Int) + 1)=True:=eq_true (by omega)
@[simp] theorem nn1' (k : Nat) : ((k : Int) + 1 < 0)=False:=eq_false (by omega)
def rowv (w r : Nat) : Value:=.slice (some ⟨r,0,none⟩) w w
def rowc (w : Nat) (f : Nat→Int) : List Value:=(List.range w).map fun k=>.int .i64 (f k)
@[simp] theorem rowc_len (w : Nat) (f : Nat→Int) : (rowc w f).length=w:=by simp [rowc]
theorem rowc_get {w : Nat} {f : Nat→Int} {k : Nat} (h : k < w) : (rowc w f)[k]?=some (.int .i64 (f k)):=by simp [rowc,h]
@[simp] theorem rowc_elem {w : Nat} {f : Nat→Int} {k : Nat} (h : k < (rowc w f).length) : (rowc w f)[k]'h=.int .i64 (f k):=by simp [rowc]
@[simp] theorem foldV_two {f : Value→Value→Option Value} {a b : Value} : foldV f [a,b]=f a b:=by
 simp only [foldV,List.foldlM_cons,List.foldlM_nil]
 cases f a b <;> rfl
@[simp] theorem rowStore1 {x y : Value} : rowStore [x] 0 [y]=if okc y=true then some [y] else none:=by
 unfold rowStore
 by_cases h : okc y=true
 ·simp [h,splice]
 ·simp [h]
theorem rowc_congr {w : Nat} {f g : Nat→Int} (h : ∀ k,k < w→f k=g k) : rowc w f=rowc w g:=by
 unfold rowc
 apply List.map_congr_left
 intro k hk
 rw [h k (by simpa using hk)]
theorem rowc_set {w : Nat} {f : Nat→Int} {k : Nat} {x : Int} (h : k < w) : rowStore (rowc w f) k [.int .i64 x]=some (rowc w fun j=>if j=k then x else f j):=by
 unfold rowStore
 rw [if_pos ⟨by simp; omega,by simp [okc]⟩]
 congr 1
 apply List.ext_getElem?
 intro j
 rw [splice_get (by simp; omega)]
 by_cases h1 : j < k
 ·rw [if_pos h1,rowc_get (by omega),rowc_get (by omega)]; simp; omega
 ·rw [if_neg h1]
  by_cases h2 : j=k
  ·subst h2
   rw [if_pos (by simp),rowc_get h]; simp
  ·rw [if_neg (by simp; omega)]
   by_cases h3 : j < w
   ·rw [rowc_get h3,rowc_get h3]; simp [h2]
   ·rw [List.getElem?_eq_none (by simp; omega),List.getElem?_eq_none (by simp; omega)]
theorem rep_zero (n : Nat) : repCells [.int .i64 0] n=rowc n fun _=>0:=by
 rw [rep_flat]
 apply List.ext_getElem?
 intro j
 have : (List.replicate n [Value.int .i64 0]).flatten=List.replicate n (Value.int .i64 0):=by
  induction n with
  | zero=>rfl
  | succ n ih=>rw [List.replicate_succ,List.flatten_cons,ih,List.replicate_succ]; rfl
 rw [this,List.getElem?_replicate]
 by_cases h : j < n
 ·rw [if_pos h,rowc_get h]
 ·rw [if_neg h,List.getElem?_eq_none (by simp; omega)]
theorem nodup_inj {α : Type} {l : List α} {i j : Nat} {x : α} (h : l.Nodup) (hi : l[i]?=some x) (hj : l[j]?=some x) : i=j:=by
 obtain ⟨h1,h2⟩:=List.getElem?_eq_some_iff.1 hi
 obtain ⟨h3,h4⟩:=List.getElem?_eq_some_iff.1 hj
 have:=List.pairwise_iff_getElem.1 h
 rcases Nat.lt_trichotomy i j with hlt | heq | hgt
 ·exact absurd (h2.trans h4.symm) (this i j h1 h3 hlt)
 ·exact heq
 ·exact absurd (h4.trans h2.symm) (this j i h3 h1 hgt)
structure Tb (S : AS) (e : TypeId) (v : Value) (rs : List Nat) (w : Nat) (M : Nat→Nat→Int) : Prop where
 sl : SlAt S e v (rs.map fun r=>[rowv w r])
 rows : ∀ (i r : Nat),rs[i]?=some r→S.get r=some (.row (rowc w (M i)) 3 true true)∧r < S.next∧r∉ownsOf v
 nd : rs.Nodup
theorem flat1 (w : Nat) (rs : List Nat) : (rs.map fun r=>[rowv w r]).flatten=rs.map (rowv w):=by
 induction rs with
 | nil=>rfl
 | cons r rs ih=>simp [ih]
theorem uni1 (w : Nat) (rs : List Nat) : Uni 1 (rs.map fun r=>[rowv w r]):=by
 intro l hl
 obtain ⟨r,_,rfl⟩:=List.mem_map.1 hl
 rfl
theorem Tb.at {S : AS} {e : TypeId} {v : Value} {rs : List Nat} {w : Nat} {M : Nat→Nat→Int} (h : Tb S e v rs w M) {i : Nat} (hi : i < rs.length) :
  ∃ p ex r,(∀ (S' : AS) (j : IntKind),idxE S' 1 none (.int j i) v=.ret (.pointer (some ⟨p,i,none⟩),S'))∧S.get p=some (.row (rs.map (rowv w)) e true ex)∧(rs.map (rowv w))[i]?=some (.slice (some ⟨r,0,none⟩) w w) ∧
   S.get r=some (.row (rowc w (M i)) 3 true true)∧r < S.next∧p < S.next∧r≠p∧rs[i]?=some r∧p∈ownsOf v:=by
 have hl : (rs.map fun r=>[rowv w r]).length=rs.length:=by simp
 obtain ⟨p,ex,h1,h2,h3,h4⟩:=h.sl.idx (S':=S) (k:=1) (i:=i) (j:=.i64) (by rw [hl]; exact hi)
 obtain ⟨g1,g2,g3⟩:=h.rows i rs[i] (List.getElem?_eq_getElem hi)
 refine ⟨p,ex,rs[i],fun S' j=>?_,by rw [h2,flat1],by simp [hi,rowv],g1,g2,h3,fun e=>g3 (e ▸ h4),List.getElem?_eq_getElem hi,h4⟩
 rcases h.sl with ⟨rfl,hn⟩ | ⟨p',ex',rfl,h5,h6⟩
 ·simp at hn; subst hn; simp at hi
 ·simp [ownsOf] at h4
  subst h4
  simp [hi]
theorem Tb.set {S : AS} {e : TypeId} {v : Value} {rs : List Nat} {w : Nat} {M : Nat→Nat→Int} (h : Tb S e v rs w M) {i r : Nat} {f : Nat→Int} (hi : rs[i]?=some r) :
  Tb (S.put r (.row (rowc w f) 3 true true)) e v rs w (fun i'=>if i'=i then f else M i'):=by
 obtain ⟨g1,g2,g3⟩:=h.rows i r hi
 refine ⟨h.sl.stays (same_put S r _) (fun m hm hr=>by simp at hr; subst hr; exact g3 hm),fun i' r' h'=>?_,h.nd⟩
 obtain ⟨k1,k2,k3⟩:=h.rows i' r' h'
 refine ⟨?_,by simpa using k2,k3⟩
 by_cases hr : i'=i
 ·subst hr
  rw [hi] at h'; cases h'
  simp
 ·have : r'≠r:=by
   intro e
   subst e
   exact hr (nodup_inj h.nd h' hi)
  rw [AS.get_put_ne _ _ this,k1]
  simp [hr]
theorem Tb.stays {S S' : AS} {e : TypeId} {v : Value} {rs : List Nat} {w : Nat} {M : Nat→Nat→Int} (h : Tb S e v rs w M) {fp : List Nat} (hs : Same S S' fp) (hd : ∀ m∈ownsOf v,m∉fp) (hr : ∀ m∈rs,m∉fp) : Tb S' e v rs w M:=by
 refine ⟨h.sl.stays hs hd,fun i r hi=>?_,h.nd⟩
 obtain ⟨g1,g2,g3⟩:=h.rows i r hi
 exact ⟨by rw [hs.2 r g2 (hr r (List.mem_of_getElem? hi))]; exact g1,Nat.lt_of_lt_of_le g2 hs.1,g3⟩
theorem Tb.stay0 {S S' : AS} {e : TypeId} {v : Value} {rs : List Nat} {w : Nat} {M : Nat→Nat→Int} (h : Tb S e v rs w M) (hs : Same S S' []) : Tb S' e v rs w M:=h.stays hs (by simp) (by simp)
theorem Tb.congr {S : AS} {e : TypeId} {v : Value} {rs : List Nat} {w : Nat} {M M' : Nat→Nat→Int} (h : Tb S e v rs w M) (hm : ∀ i k,i < rs.length→k < w→M i k=M' i k) : Tb S e v rs w M':=by
 refine ⟨h.sl,fun i r hi=>?_,h.nd⟩
 obtain ⟨g1,g2⟩:=h.rows i r hi
 refine ⟨?_,g2⟩
 rw [g1,rowc_congr fun k hk=>hm i k (List.getElem?_eq_some_iff.1 hi).1 hk]
theorem Tb.app {S : AS} {e : TypeId} {v : Value} {rs : List Nat} {w : Nat} {M : Nat→Nat→Int} (h : Tb S e v rs w M) (hb : rs.length≤100000) {T : AS} {r y fr : Nat} {f : Nat→Int} (hT : Same S T []) (hr : T.get r=some (.row (rowc w f) 3 true true)) (hrn : S.next≤r) (hrT : r < T.next) (hy : T.get y=some (.row [rowv w r] e true true)) (hfr : fr < T.next) (hfS : S.next≤fr) (hfr2 : r≠fr) :
  ∃ T' : AS,appV T fr e 1 24 v (.slice (some ⟨y,0,none⟩) 1 1)=some (.slice (some ⟨fr,0,none⟩) (rs.length + 1) (rs.length + 1),T')∧Tb T' e (.slice (some ⟨fr,0,none⟩) (rs.length + 1) (rs.length + 1)) (rs ++ [r]) w (fun i=>if i=rs.length then f else M i)∧Same S T' (ownsOf v)∧T'.next=T.next:=by
 have hsl:=h.sl.stays hT (by simp)
 obtain ⟨T0,a1,a2,a3⟩:=appV_new (fr:=fr) (bytes:=24) (ms:=[[rowv w r]]) (y:=.slice (some ⟨y,0,none⟩) 1 1) hsl (uni1 w rs) (by omega) (List.cons_ne_nil _ _) (fun x hx=>by simp at hx; rw [hx]; rfl) (by simp [srcCells,hy]) (by simp; omega) (by omega) (by simp [rowv,okc])
 simp only [List.length_map,List.length_cons,List.length_nil,Nat.zero_add] at a1
 have hne : ∀ r'∈rs,r'≠r:=fun r' hr' e=>by
  obtain ⟨i,hi⟩:=List.getElem?_of_mem hr'
  have:=(h.rows i r' hi).2.1
  omega
 have hown : ∀ m∈ownsOf v,m < S.next:=h.sl.owns_lt
 refine ⟨_,a1,⟨.inr ⟨fr,false,by simp,?_,by simp only [AS.next_put,a2]; exact hfr⟩,fun i r' hi=>?_,?_⟩,?_,by simp only [AS.next_put]; exact a2⟩
 ·rw [AS.get_put_self,List.map_append]; simp
 ·by_cases hi2 : i < rs.length
  ·rw [List.getElem?_append_left hi2] at hi
   obtain ⟨g1,g2,g3⟩:=h.rows i r' hi
   refine ⟨?_,by simp only [AS.next_put,a2]; have:=hT.1; omega,by simp [ownsOf]; omega⟩
   rw [AS.get_put_ne _ _ (by omega),a3 r' g3,hT.2 r' g2 (by simp),g1,if_neg (by omega)]
  ·have hi3 : i=rs.length:=by
    have:=(List.getElem?_eq_some_iff.1 hi).1
    simp at this; omega
   subst hi3
   simp at hi
   subst hi
   refine ⟨?_,by simp only [AS.next_put,a2]; exact hrT,by simp [ownsOf]; exact hfr2⟩
   rw [AS.get_put_ne _ _ hfr2,a3 r (fun hm=>by have:=hown r hm; omega),hr]
   simp
 ·rw [List.nodup_append]
  refine ⟨h.nd,by simp,fun a ha b hb=>?_⟩
  simp at hb; subst hb; exact hne a ha
 ·refine ⟨by simp only [AS.next_put,a2]; exact hT.1,fun m hm hn=>?_⟩
  rw [AS.get_put_ne _ _ (by omega),a3 m hn,hT.2 m hm (by simp)]

def tabF (old order : List Int) (i k : Nat) : Int:=L ((places old order).drop i) k
theorem places_len (old order : List Int) : (places old order).length=old.length:=by simp [places]
theorem tabF_le (old order : List Int) (i k : Nat) : 0≤tabF old order i k∧tabF old order i k≤old.length:=by
 unfold tabF
 have:=L_le ((places old order).drop i) k
 rw [List.length_drop,places_len] at this
 omega
theorem tabF_end (old order : List Int) (k : Nat) : tabF old order old.length k=0:=by
 unfold tabF
 rw [List.drop_eq_nil_of_le (by rw [places_len]; exact Nat.le_refl _)]; rfl
theorem places_lt {old order : List Int} {b : Nat} {x : Int} (h : (some b,x)∈places old order) : b < order.length:=by
 unfold places at h
 obtain ⟨y,_,e⟩:=List.mem_map.1 h
 simp only [Prod.mk.injEq] at e
 exact (List.getElem?_eq_some_iff.1 (idxOf_some e.1).1).1
theorem tabF_last (old order : List Int) (i : Nat) : tabF old order i order.length=0:=by
 unfold tabF
 rw [L_end]
 ·rfl
 ·intro b x h
  exact places_lt (List.mem_of_mem_drop h)
theorem idxOf_nodup {l : List Int} (h : l.Nodup) {k : Nat} {x : Int} (hk : l[k]?=some x) : l.idxOf? x=some k:=by
 cases e : l.idxOf? x with
 | none=>exact absurd (List.mem_of_getElem? hk) (idxOf_none.1 e)
 | some j=>
  rw [nodup_inj h (idxOf_some e).1 hk]
theorem tabF_step {old order : List Int} (hn : order.Nodup) {i k : Nat} (hi : i < old.length) (hk : k < order.length) :
  tabF old order i k=max (max (tabF old order (i + 1) k) (tabF old order i (k + 1))) (if old[i]=order[k] then 1 + tabF old order (i + 1) (k + 1) else 0):=by
 unfold tabF
 have hl : i < (places old order).length:=by rw [places_len]; exact hi
 rw [List.drop_eq_getElem_cons hl]
 have hp : (places old order)[i]=(order.idxOf? old[i],old[i]):=by simp [places]
 rw [hp,L_step]
 by_cases h : old[i]=order[k]
 ·have : order.idxOf? old[i]=some k:=by rw [h]; exact idxOf_nodup hn (List.getElem?_eq_getElem hk)
  rw [if_pos this,if_pos h]
  omega
 ·have : order.idxOf? old[i]≠some k:=by
   intro e
   have:=(idxOf_some e).1
   rw [List.getElem?_eq_getElem hk] at this
   exact h (Option.some.inj this).symm
  rw [if_neg this,if_neg h]
  omega
theorem ite_iff {p q : Prop} [Decidable p] [Decidable q] {a b : Int} (h : p↔q) : (if p then a else b)=if q then a else b:=by
 by_cases hp : p
 ·rw [if_pos hp,if_pos (h.1 hp)]
 ·rw [if_neg hp,if_neg fun hq=>hp (h.2 hq)]
theorem longest_ok {S : AS} {v w : Value} {old order : List Int} (h : Is S v old) (k : Is S w order) (hn : order.Nodup) (hl1 : old.length≤1000) (hl2 : order.length≤1000) {Q : En→AS→Prop}
  (hq : ∀ S' t rs,Same S S' []→Tb S' 25 t rs (order.length + 1) (tabF old order)→rs.length=old.length + 1→(∀ r∈rs,S.next≤r)→(∀ m∈ownsOf t,S.next≤m)→Q (.ret t) S') : Call G 87 [v,w] S Q:=by
 obtain ⟨a,cap,rfl⟩:=h.shape
 obtain ⟨b,cap',rfl⟩:=k.shape
 refine call_run' (G:=G) rfl (ext_none (by decide)) ?_
 simp
 refine run_loop (fun j a' S'=>∃ i rs tv,j=old.length + 1 - i∧i≤old.length + 1∧rs.length=i∧Same S S' []∧Has a' 93 [(0,.slice a old.length cap),(1,.slice b order.length cap'),(5,tv),(6,.int .i64 i)]∧Tb S' 25 tv rs (order.length + 1) (fun _ _=>0)∧(∀ r∈rs,S.next≤r)∧(∀ m∈ownsOf tv,S.next≤m)) _ ⟨0,[],.slice none 0 0,rfl,by omega,rfl,.refl _ _,⟨rfl,rfl,by simp⟩,⟨.inl ⟨rfl,rfl⟩,by simp,by simp⟩,by simp,by simp [ownsOf]⟩ ?_
 rintro _ R hR _ S1 ⟨i,rs,tv,rfl,hi,hrl,hs1,ha,ht,hrs,hos⟩
 obtain ⟨x,rfl⟩:=ha.lit
 by_cases hlt : i≤old.length
 ·have hw : IntKind.i64.wrap ((order.length : Int) + 1)=((order.length + 1 : Nat) : Int):=wrapS (by omega)
  have c1 : 0≤(order.length : Int) + 1:=by omega
  have c2 : 8 * ((order.length : Int) + 1)≤281474976710656:=by omega
  have c3 : (order.length : Int) + 1≤9223372036854775807:=by omega
  obtain ⟨T',e1,e2,e3,e4⟩:=ht.app (by omega) (T:=((S1.bump 3).put S1.next (.row (rowc (order.length + 1) fun _=>0) 3 true true)).put (S1.next + 1) (.row [rowv (order.length + 1) S1.next] 25 true true)) (r:=S1.next) (y:=S1.next + 1) (fr:=S1.next + 2) (f:=fun _=>0)
   (by repeat' first | exact Same.refl _ _ | apply Same.bu | (refine Same.pn ?_ (by first | omega | (simp; omega)))) (by simp) (by omega) (by simp) (by simp) (by simp) (by omega) (by omega)
  rw [hrl] at e1 e2
  simp [fillF,pickL,hlt,hw,c1,c2,c3,rep_zero,placeIn,splice]
  have e1':=e1
  unfold rowv at e1'
  rw [e1']
  simp
  have hS1n:=hs1.1
  refine hR _ _ _ (by omega) ⟨i + 1,rs ++ [S1.next],.slice (some ⟨S1.next + 2,0,none⟩) (i + 1) (i + 1),rfl,by omega,by simp [hrl],?_,⟨rfl,rfl,by simp [wrapS (show i < 9223372036854775807 by omega)]⟩,?_,?_,?_⟩
  ·exact hs1.trans e3 (fun m hm hl=>by have:=hos m hm; omega)
  ·exact e2.congr fun i' k' h1 h2=>by simp
  ·intro r hr
   rcases List.mem_append.1 hr with h1 | h1
   ·exact hrs r h1
   ·simp at h1; omega
  ·intro m hm; simp [ownsOf] at hm; omega
 ·obtain rfl : i=old.length + 1:=by omega
  have hw1 : IntKind.i64.wrap ((old.length : Int) - 1)=(old.length : Int) - 1:=wrap64 (by omega) (by omega)
  have hf1 : ¬ ((old.length : Int) + 1≤old.length):=by omega
  simp [fillF,pickL,hw1,hf1]
  refine run_loop (fun j a' S'=>∃ (i : Int) (M : Nat→Nat→Int),j=(i + 1).toNat∧-1≤i∧i < old.length∧Same S S' []∧Has a' 93 [(0,.slice a old.length cap),(1,.slice b order.length cap'),(5,tv),(7,.int .i64 i)]∧Tb S' 25 tv rs (order.length + 1) M ∧
   (∀ i' k' : Nat,i'≤old.length→k'≤order.length→M i' k'=if i < i' then tabF old order i' k' else 0)) _ ⟨(old.length : Int) - 1,fun _ _=>0,rfl,by omega,by omega,hs1,⟨rfl,rfl,by simp⟩,ht,?_⟩ ?_
  ·intro i' k' h1 h2
   split
   ·have : i'=old.length:=by omega
    subst this
    rw [tabF_end]
   ·rfl
  rintro _ R2 hR2 _ S2 ⟨i,M,rfl,hi1,hi2,hs2,ha,ht,hM⟩
  obtain ⟨x,rfl⟩:=ha.lit
  by_cases hi0 : 0≤i
  ·obtain ⟨i,rfl⟩ : ∃ j : Nat,i=j:=⟨i.toNat,by omega⟩
   have hw2 : IntKind.i64.wrap ((order.length : Int) - 1)=(order.length : Int) - 1:=wrap64 (by omega) (by omega)
   simp [fillF,pickL,hw2]
   refine run_loop (fun j a' S'=>∃ (q : Int) (M : Nat→Nat→Int),j=(q + 1).toNat∧-1≤q∧q < order.length∧Same S S' []∧Has a' 93 [(0,.slice a old.length cap),(1,.slice b order.length cap'),(5,tv),(7,.int .i64 i),(8,.int .i64 q)]∧Tb S' 25 tv rs (order.length + 1) M ∧
    (∀ i' k' : Nat,i'≤old.length→k'≤order.length→M i' k'=if i < i'∨i'=i∧q < k' then tabF old order i' k' else 0)) _ ⟨(order.length : Int) - 1,M,rfl,by omega,by omega,hs2,⟨rfl,rfl,by simp⟩,ht,?_⟩ ?_
   ·intro i' k' h1 h2
    rw [hM i' k' h1 h2]
    by_cases c1 : i < i'
    ·have c1' : (i : Int) < i':=by omega
     simp [c1,c1']
    ·have c1' : ¬ (i : Int) < i':=by omega
     simp only [c1,c1',false_or,if_false]
     split
     ·have : k'=order.length:=by omega
      subst this
      rw [tabF_last]
     ·rfl
   rintro _ R3 hR3 _ S3 ⟨q,M3,rfl,hq1,hq2,hs3,ha,ht3,hM3⟩
   obtain ⟨x,rfl⟩:=ha.lit
   by_cases hq0 : 0≤q
   ·obtain ⟨q,rfl⟩ : ∃ j : Nat,q=j:=⟨q.toNat,by omega⟩
    obtain ⟨p,ex,r,g1,g2,g3,g4,g5,g6,g7,g8,g9⟩:=ht3.at (i:=i) (by omega)
    obtain ⟨p',ex',r',k1,k2,k3,k4,k5,k6,k7,k8,k9⟩:=ht3.at (i:=i + 1) (by omega)
    have hwi : IntKind.i64.wrap ((i : Int) + 1)=((i + 1 : Nat) : Int):=wrapS (by omega)
    have hwq : IntKind.i64.wrap ((q : Int) + 1)=((q + 1 : Nat) : Int):=wrapS (by omega)
    have k1' : ∀ (S' : AS) (j : IntKind),idxE S' 1 none (.int j ((i : Int) + 1)) tv=.ret (.pointer (some ⟨p',i + 1,none⟩),S'):=fun S' j=>k1 S' j
    have b1 : (q : Int) < (order.length : Int) + 1:=by omega
    have b2 : q < order.length + 1:=by omega
    have b3 : (q : Int) + 1 < (order.length : Int) + 1:=by omega
    have b4 : q < order.length:=by omega
    have b5 : (q : Int) < (order.length : Int):=by omega
    have r1:=rowc_get (f:=M3 i) (show q + 1 < order.length + 1 by omega)
    have r2:=rowc_get (f:=M3 (i + 1)) (show q < order.length + 1 by omega)
    have r3:=rowc_get (f:=M3 (i + 1)) (show q + 1 < order.length + 1 by omega)
    have w1:=fun x=>rowc_set (f:=M3 i) (x:=x) (show q < order.length + 1 by omega)
    have m1 : M3 (i + 1) q=tabF old order (i + 1) q:=by rw [hM3 _ _ (by omega) (by omega),if_pos (.inl (by omega))]
    have m2 : M3 i (q + 1)=tabF old order i (q + 1):=by rw [hM3 _ _ (by omega) (by omega),if_pos (.inr ⟨rfl,by omega⟩)]
    have m3 : M3 (i + 1) (q + 1)=tabF old order (i + 1) (q + 1):=by rw [hM3 _ _ (by omega) (by omega),if_pos (.inl (by omega))]
    have t3:=tabF_le old order (i + 1) (q + 1)
    have w4 : IntKind.i64.wrap (1 + tabF old order (i + 1) (q + 1))=1 + tabF old order (i + 1) (q + 1):=wrap64 (by omega) (by omega)
    simp [fillF,pickL,hwi,hwq,g1,g2,g3,g4,k1',k2,k3,k4,b1,b2,b3,b4,b5,r1,r2,r3,w1,m1,m2,m3]
    have hr0 : S.next≤r:=hrs r (List.mem_of_getElem? g8)
    have ht4:=ht3.set (f:=fun j=>if j=q then max (tabF old order (i + 1) q) (tabF old order i (q + 1)) else M3 i j) g8
    have hs4 : Same S (S3.put r (AObj.row (rowc (order.length + 1) fun j=>if j=q then max (tabF old order (i + 1) q) (tabF old order i (q + 1)) else M3 i j) 3 true true)) []:=hs3.pn hr0
    revert ht4 hs4
    generalize S3.put r _=T4
    intro ht4 hs4
    obtain ⟨p1,o1,cells1,e1,wr1,ex1,a1,a2,a3,a4,a5⟩:=(h.stay0 hs4).at (i:=i) (by omega)
    obtain ⟨p2,o2,cells2,e2,wr2,ex2,d1,d2,d3,d4,d5⟩:=(k.stay0 hs4).at (i:=q) (by omega)
    simp [a1,a2,a5,d1,d2,d5]
    have hstep:=tabF_step (old:=old) hn (i:=i) (k:=q) (by omega) (by omega)
    have hwq' : IntKind.i64.wrap ((q : Int) - 1)=(q : Int) - 1:=wrap64 (by omega) (by omega)
    by_cases hc : old[i]=order[q]
    ·rw [if_pos hc] at hstep
     obtain ⟨P,EX,r4,G1,G2,G3,G4,G5,G6,G7,G8,G9⟩:=ht4.at (i:=i) (by omega)
     have hrr : r4=r:=by rw [g8] at G8; exact (Option.some.inj G8).symm
     subst hrr
     obtain ⟨P',EX',R4,K1,K2,K3,K4,K5,K6,K7,K8,K9⟩:=ht4.at (i:=i + 1) (by omega)
     have K1' : ∀ (S' : AS) (j : IntKind),idxE S' 1 none (.int j ((i : Int) + 1)) tv=.ret (.pointer (some ⟨P',i + 1,none⟩),S'):=fun S' j=>K1 S' j
     simp only [if_true] at G4
     simp only [if_neg (show ¬ i + 1=i by omega)] at K4
     have R1:=rowc_get (f:=fun j=>if j=q then max (tabF old order (i + 1) q) (tabF old order i (q + 1)) else M3 i j) (show q < order.length + 1 by omega)
     have R2:=rowc_get (f:=M3 (i + 1)) (show q + 1 < order.length + 1 by omega)
     have W1:=fun x=>rowc_set (f:=fun j=>if j=q then max (tabF old order (i + 1) q) (tabF old order i (q + 1)) else M3 i j) (x:=x) (show q < order.length + 1 by omega)
     simp [hc,G1,G2,G3,G4,K1',K2,K3,K4,b1,b2,b3,b4,b5,R1,R2,W1,hwi,hwq,m1,m2,m3,w4,hwq']
     have ht5:=ht4.set (f:=fun j=>if j=q then max (tabF old order (i + 1) q) (max (tabF old order i (q + 1)) (1 + tabF old order (i + 1) (q + 1))) else if j=q then max (tabF old order (i + 1) q) (tabF old order i (q + 1)) else M3 i j) g8
     refine hR3 _ _ _ (by omega) ⟨(q : Int) - 1,_,rfl,by omega,by omega,hs4.pn hr0,⟨rfl,rfl,by simp⟩,ht5,?_⟩
     intro i' k' h1 h2
     have hp:=hM3 i' k' h1 h2
     try simp only []
     by_cases hi' : i'=i
     ·subst hi'
      simp only [if_true]
      by_cases hk' : k'=q
      ·subst hk'
       rw [if_pos rfl,if_pos (by first | exact .inr ⟨rfl,by omega⟩ | (right; omega) | (simp; omega)),hstep]
       omega
      ·rw [if_neg hk',if_neg hk',hp]
       exact ite_iff (by first | omega | (simp; omega) | (simp [hi']; omega) | (simp [hi']))
     ·simp only [hi',if_false]
      rw [hp]
      exact ite_iff (by first | omega | (simp; omega) | (simp [hi']; omega) | (simp [hi']))
    ·rw [if_neg hc] at hstep
     simp [hc,hwq']
     refine hR3 _ _ _ (by omega) ⟨(q : Int) - 1,(fun i'=>if i'=i then (fun j=>if j=q then max (tabF old order (i + 1) q) (tabF old order i (q + 1)) else M3 i j) else M3 i'),rfl,by omega,by omega,hs4,⟨rfl,rfl,by simp⟩,ht4,?_⟩
     intro i' k' h1 h2
     have hp:=hM3 i' k' h1 h2
     try simp only []
     by_cases hi' : i'=i
     ·subst hi'
      simp only [if_true]
      by_cases hk' : k'=q
      ·subst hk'
       rw [if_pos rfl,if_pos (by first | exact .inr ⟨rfl,by omega⟩ | (right; omega) | (simp; omega)),hstep]
       have:=tabF_le old order (i' + 1) k'
       omega
      ·rw [if_neg hk',hp]
       exact ite_iff (by first | omega | (simp; omega) | (simp [hi']; omega) | (simp [hi']))
     ·simp only [hi',if_false]
      rw [hp]
      exact ite_iff (by first | omega | (simp; omega) | (simp [hi']; omega) | (simp [hi']))
   ·have hq3 : ¬ 0≤q:=hq0
    have hwi' : IntKind.i64.wrap ((i : Int) - 1)=(i : Int) - 1:=wrap64 (by omega) (by omega)
    simp [fillF,pickL,hq3,hwi']
    refine hR2 _ _ _ (by omega) ⟨(i : Int) - 1,M3,rfl,by omega,by omega,hs3,⟨rfl,rfl,by simp⟩,ht3,?_⟩
    intro i' k' h1 h2
    rw [hM3 i' k' h1 h2]
    exact ite_iff (by first | omega | (simp; omega) | (simp [hi']; omega) | (simp [hi']))
  ·simp [fillF,pickL,hi0]
   refine hq S2 tv rs hs2 (ht.congr fun i' k' h1 h2=>?_) hrl hrs hos
   rw [hM i' k' (by omega) (by omega),if_pos (by omega)]
end Go.Gx.Z
