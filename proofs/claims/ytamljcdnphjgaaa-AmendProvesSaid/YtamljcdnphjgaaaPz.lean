/-
  Least costs from the start on, by relaxing (no program in sight).
-/
import Derived.Test.YtamljcdnphjgaaaPk
import Derived.Test.YtamljcdnphjgaaaPr
import Derived.Test.YtamljcdnphjgaaaPq
import Derived.Test.YtamljcdnphjgaaaPu
set_option linter.all false
set_option linter.deprecated false
set_option linter.unusedSimpArgs false
set_option linter.unusedVariables false
namespace Go.Gx.A
set_option linter.all false
abbrev Rch:=St→Option Cost
abbrev Bnd:=Int × Int × Int × Int
def mnO : Option Cost→Cost→Cost
 | none,d=>d
 | some w,d=>if clt d w=true then d else w
def rx (R : Rch) (to : St) (d : Cost) : Rch:=fun x=>if x=to then some (mnO (R to) d) else R x
theorem rx_ne {R : Rch} {to x : St} {d : Cost} (h : x ≠ to) : rx R to d x=R x:=if_neg h
theorem rx_self {R : Rch} {to : St} {d : Cost} : rx R to d to=some (mnO (R to) d):=if_pos rfl
theorem rx_comm {R : Rch} {a b : St} {d e : Cost} (h : a ≠ b) : rx (rx R a d) b e=rx (rx R b e) a d:=by
 funext x
 by_cases h1 : x=a
 ·subst h1
  rw [rx_ne h,rx_self,rx_self,rx_ne h]
 ·by_cases h2 : x=b
  ·subst h2
   rw [rx_self,rx_ne h1,rx_ne (Ne.symm h),rx_self]
  ·rw [rx_ne h2,rx_ne h1,rx_ne h1,rx_ne h2]
theorem rx_set {R : Rch} {to : St} {d : Cost} (h : R to=none ∨ ∃ w,R to=some w∧clt d w=true) : rx R to d=fun x=>if x=to then some d else R x:=by
 funext x
 unfold rx
 split
 ·rcases h with h | ⟨w,h,hw⟩
  ·rw [h]; rfl
  ·rw [h]; simp only [mnO,hw,if_true]
 ·rfl
theorem rx_keep {R : Rch} {to : St} {d w : Cost} (h : R to=some w) (hw : clt d w=false) : rx R to d=R:=by
 funext x
 unfold rx
 split
 ·rename_i e
  rw [e,h]; simp [mnO,hw]
 ·rfl
def rlx (R : Rch) (a : Cost) (l : List Sp) : Rch:=l.foldl (fun R x=>rx R x.2.1 (cadd a x.2.2)) R
theorem rlx_append (R : Rch) (a : Cost) (l m : List Sp) : rlx R a (l ++ m)=rlx (rlx R a l) a m:=List.foldl_append ..
theorem rlx_low : ∀ (l : List Sp) {R : Rch} {a : Cost} {y : St},(∀ x ∈ l,x.2.1 ≠ y)→rlx R a l y=R y
 | [],_,_,_,_=>rfl
 | x :: l,R,a,y,h=>by
  show rlx (rx R x.2.1 (cadd a x.2.2)) a l y=R y
  rw [rlx_low l fun z hz=>h z (List.mem_cons_of_mem _ hz),rx_ne (Ne.symm (h x (List.mem_cons_self ..)))]
def Tk.rstepAt (T : Tk) (s : St) (i : Nat) : List Sp:=
 if s.1.testBit i=true then [] else
  match T.place (T.at' i) with
  | none=>[(i,(s.1 ||| 2 ^ i,s.2),(T.behind (T.at' i) s.1,0))]
  | some p=>(i,(s.1 ||| 2 ^ i,s.2),(T.behind (T.at' i) s.1,1)) :: (if s.2 < p then [(i,(s.1 ||| 2 ^ i,p),(T.behind (T.at' i) s.1,0))] else [])
def Tk.rsteps (T : Tk) (s : St) : List Sp:=(List.range T.f).flatMap (T.rstepAt s)
theorem rlx_at (T : Tk) (s : St) (i : Nat) (R : Rch) (a : Cost) : rlx R a (T.rstepAt s i)=rlx R a (T.stepAt s i):=by
 unfold Tk.rstepAt Tk.stepAt
 split
 ·rfl
 ·cases T.place (T.at' i) with
  | none=>rfl
  | some p=>
   by_cases h : s.2 < p
   ·simp only [h,if_true,List.cons_append,List.nil_append]
    show rx (rx R _ _) _ _=rx (rx R _ _) _ _
    refine rx_comm fun e=>?_
    have:=congrArg Prod.snd e
    simp only at this
    omega
   ·simp only [h,if_false,List.nil_append]
theorem rlx_rsteps (T : Tk) (s : St) (R : Rch) (a : Cost) : rlx R a (T.rsteps s)=rlx R a (T.steps s):=by
 unfold Tk.rsteps Tk.steps
 induction T.f generalizing R with
 | zero=>rfl
 | succ n ih=>
  rw [List.range_succ,List.flatMap_append,List.flatMap_append,rlx_append,rlx_append,ih]
  simp only [List.flatMap_cons,List.flatMap_nil,List.append_nil]
  exact rlx_at T s n _ a
theorem mem_rsteps {T : Tk} {s : St} {x : Sp} : x ∈ T.rsteps s ↔ x ∈ T.steps s:=by
 unfold Tk.rsteps Tk.steps
 rw [List.mem_flatMap,List.mem_flatMap]
 refine exists_congr fun i=>and_congr Iff.rfl ?_
 unfold Tk.rstepAt Tk.stepAt
 split
 ·exact Iff.rfl
 ·cases T.place (T.at' i) with
  | none=>exact Iff.rfl
  | some p=>
   by_cases h : s.2 < p
   ·simp only [h,if_true,List.cons_append,List.nil_append,List.mem_cons,List.not_mem_nil,or_false]
    exact Or.comm
   ·simp only [h,if_false,List.nil_append]
theorem or_gt {s i : Nat} (h : s.testBit i=false) : s < s ||| 2 ^ i:=by
 have h1 : s ≤ s ||| 2 ^ i:=Nat.left_le_or
 rcases Nat.lt_or_eq_of_le h1 with h2 | h2
 ·exact h2
 ·exfalso
  have : (s ||| 2 ^ i).testBit i=true:=by rw [Nat.testBit_or,Nat.testBit_two_pow_self,Bool.or_true]
  rw [← h2,h] at this
  cases this
theorem IsStep.gt {T : Tk} {s : St} {i : Nat} {to : St} {c : Cost} (h : IsStep T s i to c) : s.1 < to.1:=by rw [h.set]; exact or_gt h.bit
theorem steps_low {T : Tk} {s y : St} (h : y.1 ≤ s.1) : ∀ x ∈ T.steps s,x.2.1 ≠ y:=fun x hx e=>by
 have:=((mem_steps (i:=x.1) (to:=x.2.1) (c:=x.2.2)).1 hx).gt
 rw [e] at this
 omega
def prS (T : Tk) (tot : Cost) (X : Rch × List Bnd) (s : St) : Rch × List Bnd:=
 match X.1 s with
 | none=>X
 | some a=>(rlx X.1 a (T.steps s),if clt a tot=true then X.2 ++ [((s.1 : Int),s.2,a.1,a.2)] else X.2)
def prRow (T : Tk) (tot : Cost) (X : Rch × List Bnd) (set : Nat) : Nat→Rch × List Bnd
 | 0=>X
 | k + 1=>prS T tot (prRow T tot X set k) (set,(k : Int) - 1)
def prAll (T : Tk) (tot : Cost) (n : Nat) (X : Rch × List Bnd) : Nat→Rch × List Bnd
 | 0=>X
 | j + 1=>prRow T tot (prAll T tot n X j) j n
def R0 (base : Cost) (last : Int) : Rch:=fun x=>if x=(0,last) then some base else none
theorem prS_low {T : Tk} {tot : Cost} {X : Rch × List Bnd} {s y : St} (h : y.1 ≤ s.1) : (prS T tot X s).1 y=X.1 y:=by
 unfold prS
 split
 ·rfl
 ·exact rlx_low _ (steps_low h)
theorem prRow_low {T : Tk} {tot : Cost} {X : Rch × List Bnd} {set : Nat} {y : St} (h : y.1 ≤ set) : ∀ k,(prRow T tot X set k).1 y=X.1 y
 | 0=>rfl
 | k + 1=>by
  show (prS T tot (prRow T tot X set k) (set,(k : Int) - 1)).1 y=X.1 y
  rw [prS_low (by simpa using h),prRow_low h k]
theorem prAll_low {T : Tk} {tot : Cost} {n : Nat} {X : Rch × List Bnd} {j0 : Nat} {y : St} (h : y.1 ≤ j0) : ∀ j,j0 ≤ j→(prAll T tot n X j).1 y=(prAll T tot n X j0).1 y
 | 0,hj=>by
  obtain rfl : j0=0:=by omega
  rfl
 | j + 1,hj=>by
  by_cases he : j0=j + 1
  ·subst he; rfl
  ·show (prRow T tot (prAll T tot n X j) j n).1 y=_
   rw [prRow_low (by omega),prAll_low h j (by omega)]
def outS (R : Rch) (tot : Cost) (s : St) : List Bnd:=match R s with
 | none=>[]
 | some a=>if clt a tot=true then [((s.1 : Int),s.2,a.1,a.2)] else []
def outRow (R : Rch) (tot : Cost) (set : Nat) : Nat→List Bnd
 | 0=>[]
 | k + 1=>outRow R tot set k ++ outS R tot (set,(k : Int) - 1)
def outAll (R : Rch) (tot : Cost) (n : Nat) : Nat→List Bnd
 | 0=>[]
 | j + 1=>outAll R tot n j ++ outRow R tot j n
theorem outS_congr {R R' : Rch} {tot : Cost} {s : St} (h : R s=R' s) : outS R tot s=outS R' tot s:=by unfold outS; rw [h]
theorem outRow_congr {R R' : Rch} {tot : Cost} {set : Nat} : ∀ k,(∀ q : Nat,q < k→R (set,(q : Int) - 1)=R' (set,(q : Int) - 1))→outRow R tot set k=outRow R' tot set k
 | 0,_=>rfl
 | k + 1,h=>by
  simp only [outRow]
  rw [outRow_congr k fun q hq=>h q (by omega),outS_congr (h k (by omega))]
theorem prRow_out {T : Tk} {tot : Cost} {X : Rch × List Bnd} {set : Nat} : ∀ k,(prRow T tot X set k).2=X.2 ++ outRow X.1 tot set k
 | 0=>by simp [prRow,outRow]
 | k + 1=>by
  have h1:=prRow_out (T:=T) (tot:=tot) (X:=X) (set:=set) k
  have h2 : (prRow T tot X set k).1 (set,(k : Int) - 1)=X.1 (set,(k : Int) - 1):=prRow_low (by simp) k
  show (prS T tot (prRow T tot X set k) (set,(k : Int) - 1)).2=_
  simp only [outRow]
  unfold prS outS
  rw [h2]
  cases X.1 (set,(k : Int) - 1) with
  | none=>rw [h1]; simp
  | some a=>
   simp only
   split
   ·rw [h1,List.append_assoc]
   ·rw [h1,List.append_nil]
theorem prAll_out {T : Tk} {tot : Cost} {n : Nat} {R : Rch} {N : Nat} : ∀ j,j ≤ N→(prAll T tot n (R,[]) j).2=outAll (prAll T tot n (R,[]) N).1 tot n j
 | 0,_=>rfl
 | j + 1,hj=>by
  show (prRow T tot (prAll T tot n (R,[]) j) j n).2=_
  rw [prRow_out,prAll_out (N:=N) j (by omega)]
  simp only [outAll]
  rw [outRow_congr n fun q hq=>(prAll_low (T:=T) (tot:=tot) (n:=n) (X:=(R,[])) (j0:=j) (y:=(j,(q : Int) - 1)) (Nat.le_refl _) N (by omega)).symm]
theorem rlx_ind {P : St→Cost→Prop} : ∀ (l : List Sp) {R : Rch} {a : Cost},(∀ y c,R y=some c→P y c)→(∀ x ∈ l,P x.2.1 (cadd a x.2.2))→∀ y c,rlx R a l y=some c→P y c
 | [],_,_,h,_=>h
 | x :: l,R,a,h,hl=>by
  refine rlx_ind l ?_ fun z hz=>hl z (List.mem_cons_of_mem _ hz)
  intro y c hy
  simp only [rx] at hy
  split at hy
  ·rename_i e
   subst e
   have hx:=hl x (List.mem_cons_self ..)
   cases hR : R x.2.1 with
   | none=>rw [hR] at hy; simp only [mnO,Option.some.injEq] at hy; subst hy; exact hx
   | some w=>
    rw [hR] at hy
    simp only [mnO,Option.some.injEq] at hy
    split at hy
    ·subst hy; exact hx
    ·subst hy; exact h _ _ hR
  ·exact h y c hy
theorem prS_ind {T : Tk} {tot : Cost} {P : St→Cost→Prop} (hP : ∀ s a x,P s a→x ∈ T.steps s→P x.2.1 (cadd a x.2.2)) {X : Rch × List Bnd} {s : St} (h : ∀ y c,X.1 y=some c→P y c) : ∀ y c,(prS T tot X s).1 y=some c→P y c:=by
 unfold prS
 cases hs : X.1 s with
 | none=>exact h
 | some a=>exact rlx_ind _ h fun x hx=>hP s a x (h s a hs) hx
theorem prRow_ind {T : Tk} {tot : Cost} {P : St→Cost→Prop} (hP : ∀ s a x,P s a→x ∈ T.steps s→P x.2.1 (cadd a x.2.2)) {X : Rch × List Bnd} {set : Nat} (h : ∀ y c,X.1 y=some c→P y c) : ∀ k y c,(prRow T tot X set k).1 y=some c→P y c
 | 0=>h
 | k + 1=>prS_ind hP (prRow_ind hP h k)
theorem prAll_ind {T : Tk} {tot : Cost} {n : Nat} {P : St→Cost→Prop} (hP : ∀ s a x,P s a→x ∈ T.steps s→P x.2.1 (cadd a x.2.2)) {X : Rch × List Bnd} (h : ∀ y c,X.1 y=some c→P y c) : ∀ j y c,(prAll T tot n X j).1 y=some c→P y c
 | 0=>h
 | j + 1=>prRow_ind hP (prAll_ind hP h j) n
structure Sml (T : Tk) (B : Int) (y : St) (c : Cost) : Prop where
 p : 0 ≤ c.1
 q : c.1 + 48000 * (cnt T.f y.1 : Nat) ≤ B + 48000 * T.f
 r : 0 ≤ c.2
 s : c.2 + (cnt T.f y.1 : Nat) ≤ T.f
theorem sml_step {T : Tk} {B : Int} (hb : ∀ x set,0 ≤ T.behind x set∧T.behind x set ≤ 48000) (s : St) (a : Cost) (x : Sp) (h : Sml T B s a) (hx : x ∈ T.steps s) : Sml T B x.2.1 (cadd a x.2.2):=by
 have hs:=(mem_steps (i:=x.1) (to:=x.2.1) (c:=x.2.2)).1 hx
 have h1:=hs.cnt
 have h2:=hs.off
 have h3:=hs.to'
 have h4:=hb (T.at' x.1) s.1
 obtain ⟨a1,a2,a3,a4⟩:=h
 have h5 : 0 ≤ x.2.2.2∧x.2.2.2 ≤ 1:=by
  cases hp : T.place (T.at' x.1) with
  | none=>rw [hp] at h3; simp only [StepTo] at h3; omega
  | some p=>rw [hp] at h3; simp only [StepTo] at h3; omega
 exact ⟨by simp only [cadd]; omega,by simp only [cadd]; omega,by simp only [cadd]; omega,by simp only [cadd]; omega⟩
end Go.Gx.A
namespace Go.Gx.A
open Go.Gx Go.Proofs
set_option maxRecDepth 100000
set_option linter.all false
set_option maxHeartbeats 2000000
abbrev Q4:=Int × Int × Int × Int
def q4C (q : Q4) : List Value:=[.int .i64 q.1,.int .i64 q.2.1,.int .i64 q.2.2.1,.int .i64 q.2.2.2]
theorem q4_uni (l : List Q4) : Uni 4 (l.map q4C):=fun x hx=>by
 obtain ⟨a,_,rfl⟩:=List.mem_map.1 hx
 rfl
theorem q4_ok (l : List Q4) : (l.map q4C).flatten.all okc=true:=by
 induction l with
 | nil=>rfl
 | cons a l ih=>simp only [List.map_cons,List.flatten_cons,List.all_append,ih,Bool.and_true]; rfl
theorem q4_flen : ∀ (l : List Q4),(l.map q4C).flatten.length=l.length * 4
 | []=>rfl
 | a :: l=>by
  have:=q4_flen l
  simp only [List.map_cons,List.flatten_cons,List.length_append,List.length_cons]
  rw [this]
  simp [q4C]
  omega
def Qs (S : AS) (t : TypeId) (v : Value) (l : List Q4) : Prop:=SlAt S t v (l.map q4C)
theorem Qs.nil {S : AS} {t : TypeId} : Qs S t (.slice none 0 0) []:=.inl ⟨rfl,rfl⟩
theorem Qs.stays {S S' : AS} {t : TypeId} {v : Value} {l : List Q4} (h : Qs S t v l) {fp : List Nat} (hs : Same S S' fp) (hd : ∀ m ∈ ownsOf v,m ∉ fp) : Qs S' t v l:=SlAt.stays h hs hd
theorem Qs.stay0 {S S' : AS} {t : TypeId} {v : Value} {l : List Q4} (h : Qs S t v l) (hs : Same S S' []) : Qs S' t v l:=h.stays hs (by simp)
theorem Qs.shape {S : AS} {t : TypeId} {v : Value} {l : List Q4} (h : Qs S t v l) : ∃ a,v=.slice a l.length l.length:=by
 rcases h with ⟨rfl,hn⟩ | ⟨p,ex,rfl,h2,h3⟩
 ·have : l=[]:=List.map_eq_nil_iff.1 hn
  subst this
  exact ⟨none,rfl⟩
 ·exact ⟨some ⟨p,0,none⟩,by simp⟩
theorem Qs.app1 {S T : AS} {t : TypeId} {v : Value} {l : List Q4} (h : Qs S t v l) (hT : Same S T []) {p fr : Nat} {a : Q4} {wr ex : Bool} (hp : T.get p=some (.row (q4C a) t wr ex)) (hfr : fr < T.next) (hfS : S.next ≤ fr) (hb : l.length ≤ 100000) :
  ∃ T',appV T fr t 4 32 v (.slice (some ⟨p,0,none⟩) 1 1)=some (.slice (some ⟨fr,0,none⟩) (l.length + 1) (l.length + 1),T')∧Qs T' t (.slice (some ⟨fr,0,none⟩) (l.length + 1) (l.length + 1)) (l ++ [a])∧Same S T' (ownsOf v)∧T'.next=T.next:=by
 have hsl : SlAt T t v (l.map q4C):=SlAt.stays h hT (by simp)
 have hy : srcCells T 4 (.slice (some ⟨p,0,none⟩) 1 1)=some (([a].map q4C).length,([a].map q4C).flatten):=by
  unfold srcCells
  simp only [hp]
  simp [q4C]
 obtain ⟨T0,a1,a2,a3⟩:=appV_new (fr:=fr) (bytes:=32) hsl (q4_uni l) (by omega) (by simp) (q4_uni [a]) hy (by simp; omega) (by omega) (q4_ok [a])
 simp only [List.length_map,List.length_singleton] at a1
 refine ⟨_,a1,.inr ⟨fr,false,by simp,?_,by simp only [AS.next_put,a2]; exact hfr⟩,?_,by simp only [AS.next_put]; exact a2⟩
 ·rw [AS.get_put_self]; simp
 ·refine ⟨by simp only [AS.next_put,a2]; exact hT.1,fun q hq hn=>?_⟩
  rw [AS.get_put_ne _ _ (by omega),a3 q hn,hT.2 q hq (by simp)]
theorem Qs.ps {S : AS} {t : TypeId} {v : Value} {l : List Q4} (h : Qs S t v l) (hl : l.length ≤ 100000) : Ps S 4 v (l.map q4C):=by
 rcases h with ⟨rfl,hn⟩ | ⟨p,ex,rfl,h2,h3⟩
 ·have : l=[]:=List.map_eq_nil_iff.1 hn
  subst this
  exact ⟨⟨none,0,rfl⟩,rfl,q4_uni [],by simp [ownsOf]⟩
 ·refine ⟨⟨_,_,rfl⟩,?_,q4_uni l,by simpa [ownsOf] using h3⟩
  have hf:=q4_flen l
  unfold srcCells
  simp only [h2,List.length_map]
  by_cases h0 : l.length * 4=0
  ·rw [if_pos h0]
   have : l=[]:=List.length_eq_zero_iff.1 (by omega)
   subst this
   rfl
  ·rw [if_neg h0,if_pos (by omega),List.drop_zero,← hf,List.take_length]
theorem q4_at {S : AS} {v : Value} {l : List Q4} (h : Ps S 4 v (l.map q4C)) {i : Nat} (hi : i < l.length) :
  ∃ p o cells e wr ex,(∀ (S' : AS) (j : IntKind),idxE S' 4 none (.int j i) v=.ret (.pointer (some ⟨p,o,none⟩),S'))∧S.get p=some (.row cells e wr ex)∧p < S.next∧p ∈ ownsOf v∧rowLoad cells o (some 4)=some (.agg (q4C l[i]).toArray) ∧
   cells[o]?=some (.int .i64 l[i].1)∧cells[o + 1]?=some (.int .i64 l[i].2.1)∧cells[o + 2]?=some (.int .i64 l[i].2.2.1)∧cells[o + 3]?=some (.int .i64 l[i].2.2.2):=by
 obtain ⟨p,o,cells,e,wr,ex,h1,h2,h3,h4,h5,h6⟩:=Ps.idx (S':=S) h (by omega) (j:=.i64) (i:=i) (l:=q4C l[i]) (by simp [hi])
 refine ⟨p,o,cells,e,wr,ex,fun S' j=>?_,h2,h3,h4,h6,by simpa [q4C] using h5 0 (by omega),by simpa [q4C] using h5 1 (by omega),by simpa [q4C] using h5 2 (by omega),by simpa [q4C] using h5 3 (by omega)⟩
 obtain ⟨a,cap,rfl⟩:=h.shape
 match a with
 | none=>simp [idxE] at h1
 | some ⟨b,q,some s⟩=>simp [idxE] at h1
 | some ⟨b,q,none⟩=>
  simp [hi] at h1 ⊢
  exact h1
def freeN (c : Cg) (j : Nat) : List Int:=((List.range j).map fun (x : Nat)=>(x : Int)).filter fun x=>decide (x ∉ c.front)
theorem freeN_succ (c : Cg) (j : Nat) : freeN c (j + 1)=if (j : Int) ∈ c.front then freeN c j else freeN c j ++ [(j : Int)]:=by
 unfold freeN
 rw [List.range_succ,List.map_append,List.filter_append]
 by_cases h : (j : Int) ∈ c.front
 ·simp [h]
 ·simp [h]
theorem freeN_len (c : Cg) (j : Nat) : (freeN c j).length ≤ j:=by
 unfold freeN
 have:=List.length_filter_le (fun x=>decide (x ∉ c.front)) ((List.range j).map fun (x : Nat)=>(x : Int))
 simpa using this
def memb (c : Cg) (set j : Nat) : List Int:=c.front ++ ((List.range j).filter fun k=>set.testBit k).map c.tk.at'
theorem memb_succ (c : Cg) (set j : Nat) : memb c set (j + 1)=if set.testBit j=true then memb c set j ++ [c.tk.at' j] else memb c set j:=by
 unfold memb
 rw [List.range_succ,List.filter_append,List.map_append,← List.append_assoc]
 cases h : set.testBit j with
 | true=>simp only [List.filter_cons,List.filter_nil,h,if_true,List.map_cons,List.map_nil]
 | false=>simp only [List.filter_cons,List.filter_nil,h,if_false,List.map_nil,List.append_nil,Bool.false_eq_true]
theorem memb_len (c : Cg) (set j : Nat) : (memb c set j).length ≤ c.front.length + j:=by
 unfold memb
 have:=List.length_filter_le (fun k=>set.testBit k) (List.range j)
 simp at this ⊢
 exact this
theorem isum_filter (p : Nat→Bool) (g : Nat→Int) : ∀ l : List Nat,isum ((l.filter p).map g)=isum (l.map fun k=>if p k=true then g k else 0)
 | []=>rfl
 | a :: l=>by
  have ih:=isum_filter p g l
  by_cases h : p a=true
  ·rw [List.filter_cons,if_pos h]
   simp only [List.map_cons,isum,ih,h,if_true]
  ·rw [List.filter_cons,if_neg h]
   simp only [List.map_cons,isum,ih,h,if_false,Int.zero_add]
   simp
theorem memb_behind (c : Cg) (x : Int) (set : Nat) : isum ((memb c set c.tk.f).map (c.w x))=c.tk.behind x set:=by
 unfold memb Tk.behind
 rw [List.map_append,isum_append,List.map_map]
 have:=isum_filter (fun k=>set.testBit k) (c.w x ∘ c.tk.at') (List.range c.tk.f)
 rw [this]
 rfl
theorem rfree_ok {S : AS} {va vo : Value} {c : Chg} (h : ChgAt S va vo c) (ok : ChgOk c) {Q : En→AS→Prop}
  (hq : ∀ S' a n,Same S S' []→n=c.cg.free.length→Ow S' (.slice a n n) c.cg.free→(∀ m ∈ ownsOf (.slice a n n),S.next ≤ m)→Q (.ret (.slice a n n)) S') : Call G 100 [c.val va vo] S Q:=by
 obtain ⟨oa,ocap,hov⟩:=h.old.shape
 obtain ⟨n,hn⟩ : ∃ n : Nat,c.n=n:=⟨c.n.toNat,by have:=ok.n0; omega⟩
 obtain ⟨p,hp⟩ : ∃ p : Nat,c.passed=p:=⟨c.passed.toNat,by have:=ok.p0; omega⟩
 have hpl : p ≤ c.old.length:=by have:=ok.p1; omega
 have hcn : c.cg.n=n:=by show c.n.toNat=n; omega
 have hfr : c.cg.front=c.old.take p:=by show c.old.take c.passed.toNat=_; rw [hp]; rfl
 have hfree : c.cg.free=freeN c.cg n:=by unfold Cg.free freeN; rw [hcn]
 have h24:=ok.n1
 refine call_run' (G:=G) rfl (ext_none (by decide)) ?_
 simp [Chg.val,hn,hp]
 generalize hS1 : AS.put (AS.bump S 1) _ _=S1
 have s1 : Same S S1 []:=by rw [← hS1]; exact ((Same.refl _ _).bu).pn (by omega)
 have g0 : S1.get S.next=some (.row [.int .i64 n,va,vo,.int .i64 p] 27 true true):=by rw [← hS1]; simp
 have hn1 : S1.next=S.next + 1:=by rw [← hS1]; simp
 clear hS1
 refine run_loop (fun m a' S'=>∃ j ov k,m=n - j∧j ≤ n∧Same S S' []∧S.next < S'.next∧S'.get S.next=some (.row [.int .i64 n,va,vo,.int .i64 p] 27 true true)∧k=(freeN c.cg j).length∧Ow S' (.slice ov k k) (freeN c.cg j)∧(∀ m ∈ ownsOf (.slice ov k k),S.next < m) ∧
  Has a' 27 [(1,ptr S.next),(3,.slice ov k k),(4,.int .i64 j)]) _ ⟨0,none,0,rfl,by omega,s1,by omega,g0,rfl,Ow.nil,by simp [ownsOf],⟨rfl,rfl,by simp⟩⟩ ?_
 rintro _ R hR _ S2 ⟨j,ov,k,rfl,hj,s2,hn2,g2,rfl,how,hown,hA⟩
 obtain ⟨x,rfl⟩:=hA.lit
 by_cases hlt : j < n
 ·have hlt' : (j : Int) < n:=by omega
  have hwS:=wrapS (show j < 9223372036854775807 by omega)
  obtain ⟨v',k1,k2,k3⟩:=(h.old.stay0 s2).slc (lo:=none) (hi:=some (.int .i64 p)) (i:=0) (j:=p) (.inl ⟨rfl,rfl⟩) (.inr rfl) (by omega) hpl
  rw [List.drop_zero,← hfr] at k2
  have hfl:=freeN_len c.cg j
  have hsu:=freeN_succ c.cg j
  simp [fillF,pickL,hlt,hlt',g2,k1]
  refine has_ok k2 ?_
  by_cases hc : (j : Int) ∈ c.cg.front
  ·rw [if_pos hc] at hsu
   simp [hc,hwS]
   exact hR _ _ _ (by omega) ⟨j + 1,ov,_,rfl,by omega,s2,hn2,g2,by rw [hsu],by rw [hsu]; exact how,hown,⟨rfl,rfl,by simp⟩⟩
  ·rw [if_neg hc] at hsu
   have hsW : Same S2 ((S2.bump 2).put S2.next (.row [.int .i64 (j : Int)] 3 true true)) []:=((Same.refl _ _).bu).pn (by omega)
   obtain ⟨T2,a2,q1,q2,q3,q4,q5⟩:=how.app (T:=(S2.bump 2).put S2.next (.row [.int .i64 (j : Int)] 3 true true)) (y:=.slice (some ⟨S2.next,0,none⟩) 1 1) (m:=[(j : Int)]) (fr:=S2.next + 1) (by simp; omega) hsW (Is.one (by rw [AS.get_put_self]) (by simp)) (by simp) (by omega)
   simp at q1 q2 q4 q5
   have s5 : Same S T2 []:=s2.trans q3 (fun m hm hl=>by have:=hown m hm; omega)
   have g5 : T2.get S.next=some (.row [.int .i64 n,va,vo,.int .i64 p] 27 true true):=(q3.2 _ hn2 (fun hk=>by have:=hown _ hk; omega)).trans g2
   simp [hc,placeIn,splice,q1,hwS]
   exact hR _ _ _ (by omega) ⟨j + 1,a2,(freeN c.cg j).length + 1,rfl,by omega,s5,by omega,g5,by rw [hsu]; simp,by rw [hsu]; exact q2,fun m hm=>by
    rcases q5 m hm with h | h
    ·exact hown m h
    ·omega,⟨rfl,rfl,by simp⟩⟩
 ·have hlt' : ¬ (j : Int) < n:=by omega
  obtain rfl : j=n:=by omega
  simp [fillF,pickL,g2]
  rw [← hfree] at how hown ⊢
  exact hq _ _ _ s2 rfl how (fun m hm=>by have:=hown m hm; omega)
theorem members_ok {S : AS} {va vo vf : Value} {c : Chg} (h : ChgAt S va vo c) (ok : ChgOk c) (hf : Is S vf c.cg.free) {set : Nat} (hset : set < 2 ^ c.cg.free.length) {Q : En→AS→Prop}
  (hq : ∀ S' v,Same S S' []→Is S' v (memb c.cg set c.cg.tk.f)→(∀ m ∈ ownsOf v,S.next ≤ m)→Q (.ret v) S') : Call G 146 [c.val va vo,vf,.int .i64 set] S Q:=by
 have sm:=ok.cgSm
 obtain ⟨oa,ocap,hov⟩:=h.old.shape
 obtain ⟨fa,fcap,hvf⟩:=hf.shape
 subst hvf
 obtain ⟨n,hn⟩ : ∃ n : Nat,c.n=n:=⟨c.n.toNat,by have:=ok.n0; omega⟩
 obtain ⟨p,hp⟩ : ∃ p : Nat,c.passed=p:=⟨c.passed.toNat,by have:=ok.p0; omega⟩
 have hpl : p ≤ c.old.length:=by have:=ok.p1; omega
 have hfr : c.cg.front=c.old.take p:=by show c.old.take c.passed.toNat=_; rw [hp]; rfl
 have hfl : c.cg.front.length ≤ 24:=by
  have:=sm.ol
  have e : c.cg.old=c.old:=rfl
  rw [e] at this
  rw [hfr,List.length_take]; omega
 have hf24:=sm.f
 have hs24 : set < 2 ^ 24:=Nat.lt_of_lt_of_le hset (Nat.pow_le_pow_right (by omega) sm.f)
 have htf : c.cg.tk.f=c.cg.free.length:=rfl
 refine call_run' (G:=G) rfl (ext_none (by decide)) ?_
 have s0 : Same S (((S.bump 1).put S.next (AObj.row [Value.int IntKind.i64 n,va,vo,Value.int IntKind.i64 p] 27 true true)).bump 2) []:=(((Same.refl _ _).bu).pn (by omega)).bu
 have s0' : Same S ((((S.bump 1).put S.next (AObj.row [Value.int IntKind.i64 n,va,vo,Value.int IntKind.i64 p] 27 true true)).bump 2).put (S.next + 1) (.row [] 3 true true)) []:=s0.pn (by omega)
 obtain ⟨v',k1,k2,k3⟩:=(h.old.stay0 s0').slc (lo:=none) (hi:=some (.int .i64 p)) (i:=0) (j:=p) (.inl ⟨rfl,rfl⟩) (.inr rfl) (by omega) hpl
 rw [List.drop_zero,← hfr] at k2
 obtain ⟨T',ca,cc,f1,f2,f3,f4,f5⟩:=app0 (T:=(((S.bump 1).put S.next (AObj.row [Value.int IntKind.i64 n,va,vo,Value.int IntKind.i64 p] 27 true true)).bump 2).put (S.next + 1) (.row [] 3 true true)) (p:=S.next + 1) (fr:=S.next + 2) k2 (by omega) (by simp) (by simp) (by simp)
 have sT : Same S T' []:=s0'.trans f3 (fun m hm hl=>by simp at hm; omega)
 have gT : T'.get S.next=some (.row [.int .i64 n,va,vo,.int .i64 p] 27 true true):=(f3.2 _ (by simp; omega) (by simp)).trans (by simp)
 simp at f4
 simp [Chg.val,hn,hp,placeIn,k1,f1]
 refine run_loop (fun m a' S'=>∃ j ov k cap,m=c.cg.free.length - j∧j ≤ c.cg.free.length∧Same S S' []∧S.next + 3 ≤ S'.next∧k=(memb c.cg set j).length∧Oc S' (.slice ov k cap) (memb c.cg set j)∧(∀ m ∈ ownsOf (.slice ov k cap),S.next < m) ∧
  Has a' 35 [(1,.slice fa c.cg.free.length fcap),(2,.int .i64 set),(7,.slice ov k cap),(8,.int .i64 j)]) _ ⟨0,ca,c.cg.front.length,cc,rfl,by omega,sT,by omega,by simp [memb],by simpa [memb] using f2,fun m hm=>by have:=f5 m hm; omega,⟨rfl,rfl,by simp⟩⟩ ?_
 rintro _ R hR _ S2 ⟨j,ov,k,cap,rfl,hj,s2,hn2,rfl,how,hown,hA⟩
 obtain ⟨x,rfl⟩:=hA.lit
 have hml:=memb_len c.cg set j
 by_cases hlt : j < c.cg.free.length
 ·have hlt' : (j : Int) < c.cg.free.length:=by omega
  have hwS:=wrapS (show j < 9223372036854775807 by omega)
  obtain ⟨q,o,cells,e,wr,ex,h1,h2,h3,h4,h5⟩:=(hf.stay0 s2).at hlt
  rw [free_get hlt] at h5
  obtain ⟨y,hsh,han⟩:=bits_ok (x:=set) (k:=j) (by omega) (by omega)
  have hsu:=memb_succ c.cg set j
  cases hb : set.testBit j with
  | true=>
   rw [hb] at han hsu
   simp only [if_true] at han hsu
   have hsW : Same S2 ((S2.bump 2).put S2.next (.row [.int .i64 (c.cg.tk.at' j)] 3 true true)) []:=((Same.refl _ _).bu).pn (by omega)
   have how':=how.stay0 hsW
   obtain ⟨T2,a2,cap2,q1,q2,q3,q4,q5⟩:=how'.app1 (fr:=S2.next + 1) (y:=S2.next) (x:=c.cg.tk.at' j) (by omega) (AS.get_put_self _ _ _) (by simp)
   simp at q4
   have s5 : Same S T2 []:=(s2.tr0 hsW).trans q3 (fun m hm hl=>by
    rcases List.mem_cons.1 hm with h' | h'
    ·omega
    ·have:=hown m h'; omega)
   simp [fillF,pickL,hlt,hlt',hsh,han,h1,h2,h5,placeIn,splice,q1,hwS]
   exact hR _ _ _ (by omega) ⟨j + 1,a2,(memb c.cg set j).length + 1,cap2,rfl,by omega,s5,by omega,by rw [hsu]; simp,by rw [hsu]; exact q2,fun m hm=>by
    rcases q5 m hm with h | h
    ·omega
    ·exact hown m h,⟨rfl,rfl,by simp⟩⟩
  | false=>
   rw [hb] at han hsu
   simp only [Bool.false_eq_true,if_false] at han hsu
   simp [fillF,pickL,hlt,hlt',hsh,han,hwS]
   exact hR _ _ _ (by omega) ⟨j + 1,ov,_,cap,rfl,by omega,s2,by omega,by rw [hsu],by rw [hsu]; exact how,hown,⟨rfl,rfl,by simp⟩⟩
 ·have hlt' : ¬ (j : Int) < c.cg.free.length:=by omega
  obtain rfl : j=c.cg.free.length:=by omega
  simp [fillF,pickL]
  exact hq _ _ s2 how.is (fun m hm=>by have:=hown m hm; omega)
end Go.Gx.A
namespace Go.Gx.A
open Go.Gx Go.Proofs
set_option maxRecDepth 100000
set_option linter.all false
set_option maxHeartbeats 2000000
def sp4 (x : Sp) : Q4:=((x.2.1.1 : Int),x.2.1.2,x.2.2.1,x.2.2.2)
theorem rstep_len (T : Tk) (s : St) (i : Nat) : (T.rstepAt s i).length ≤ 2:=by
 unfold Tk.rstepAt
 split
 ·simp
 ·split
  ·simp
  ·split <;> simp
theorem rsteps_len (T : Tk) (s : St) : ∀ j,((List.range j).flatMap (T.rstepAt s)).length ≤ 2 * j
 | 0=>by simp
 | j + 1=>by
  have h1:=rsteps_len T s j
  have h2:=rstep_len T s j
  rw [List.range_succ,List.flatMap_append,List.length_append]
  simp only [List.flatMap_cons,List.flatMap_nil,List.append_nil]
  omega
theorem place_ix (c : Cg) (x : Int) : c.tk.place x=if ixI c.old x < 0 then none else some (ixI c.old x):=by
 show (c.old.idxOf? x).map (fun (i : Nat)=>(i : Int))=_
 unfold ixI
 cases c.old.idxOf? x with
 | none=>rfl
 | some i=>
  simp only [Option.map_some]
  rw [if_neg (by omega)]
theorem rsteps_ok {S : AS} {va vo vf : Value} {c : Chg} (h : ChgAt S va vo c) (ok : ChgOk c) (hf : Is S vf c.cg.free) {set : Nat} (hset : set < 2 ^ c.cg.free.length) {last : Int} {Q : En→AS→Prop}
  (hq : ∀ S' a n,Same S S' []→n=((c.cg.tk.rsteps (set,last)).map sp4).length→Qs S' 158 (.slice a n n) ((c.cg.tk.rsteps (set,last)).map sp4)→(∀ m ∈ ownsOf (.slice a n n),S.next ≤ m)→Q (.ret (.slice a n n)) S') : Call G 114 [c.val va vo,vf,.int .i64 set,.int .i64 last] S Q:=by
 have sm:=ok.cgSm
 obtain ⟨oa,ocap,hov⟩:=h.old.shape
 obtain ⟨fa,fcap,hvf⟩:=hf.shape
 have hf24:=sm.f
 have hs24 : set < 2 ^ 24:=Nat.lt_of_lt_of_le hset (Nat.pow_le_pow_right (by omega) sm.f)
 have htf : c.cg.tk.f=c.cg.free.length:=rfl
 have hw : ∀ x y,0 ≤ wt c.arrows x y∧wt c.arrows x y ≤ 1000:=fun x y=>wt_bd (arrsOk_none ok.ar).1 x y
 have hml:=memb_len c.cg set c.cg.tk.f
 have hfl : c.cg.front.length ≤ 24:=by
  have:=sm.ol
  unfold Cg.front; rw [List.length_take]; omega
 refine call_run' (G:=G) rfl (ext_none (by decide)) ?_
 subst hvf
 simp [Chg.val]
 generalize hS1 : AS.put (AS.bump S 1) _ _=S1
 have s1 : Same S S1 []:=by rw [← hS1]; exact ((Same.refl _ _).bu).pn (by omega)
 have g1 : S1.get S.next=some (.row [.int .i64 c.n,va,vo,.int .i64 c.passed] 27 true true):=by rw [← hS1]; simp
 have hn1 : S1.next=S.next + 1:=by rw [← hS1]; simp
 clear hS1
 show Call G 146 [c.val va vo,_,_] _ _
 refine members_ok (h.stay0 s1) ok (hf.stay0 s1) hset fun S2 mv hs2 hmv hmo=>?_
 have s2:=s1.tr0 hs2
 have hn2:=hs2.1
 have g2 : S2.get S.next=_:=(hs2.2 _ (by omega) (by simp)).trans g1
 simp
 refine run_loop (fun m a' S'=>∃ j ov k,m=c.cg.free.length - j∧j ≤ c.cg.free.length∧Same S2 S' []∧S'.get S.next=some (.row [.int .i64 c.n,va,vo,.int .i64 c.passed] 27 true true)∧k=(((List.range j).flatMap (c.cg.tk.rstepAt (set,last))).map sp4).length∧Qs S' 158 (.slice ov k k) (((List.range j).flatMap (c.cg.tk.rstepAt (set,last))).map sp4)∧(∀ m ∈ ownsOf (.slice ov k k),S2.next ≤ m) ∧
  Has a' 76 [(1,.slice fa c.cg.free.length fcap),(2,.int .i64 set),(3,.int .i64 last),(4,ptr S.next),(9,mv),(10,.slice ov k k),(11,.int .i64 j)]) _ ⟨0,none,0,rfl,by omega,.refl _ _,g2,rfl,Qs.nil,by simp [ownsOf],⟨rfl,rfl,by simp⟩⟩ ?_
 rintro _ R hR _ S3 ⟨j,ov,k,rfl,hj,s3,g3,hkl,hqs,hown,hA⟩
 obtain ⟨x,rfl⟩:=hA.lit
 have hrl:=rsteps_len c.cg.tk (set,last) j
 have hrf:=range_flat (c.cg.tk.rstepAt (set,last)) j
 have hn3:=s3.1
 by_cases hlt : j < c.cg.free.length
 ·have hlt' : (j : Int) < c.cg.free.length:=by omega
  have hwS:=wrapS (show j < 9223372036854775807 by omega)
  have hf3:=(hf.stay0 s2).stay0 s3
  obtain ⟨q,o,cells,e,wr,ex,h1,h2,h3,h4,h5⟩:=hf3.at hlt
  rw [free_get hlt] at h5
  obtain ⟨y,hsh,han⟩:=bits_ok (x:=set) (k:=j) (by omega) (by omega)
  have hp2 : 2 ^ j < 2 ^ 62:=Nat.pow_lt_pow_right (by omega) (by omega)
  have hor:=or_ok' (x:=set) (y:=2 ^ j) (by omega) hp2
  have hshl:=shl_ok (k:=j) (by omega)
  have hkl' : k ≤ 48:=by rw [hkl,List.length_map]; omega
  cases hb : set.testBit j with
  | true=>
   rw [hb] at han
   simp only [if_true] at han
   have hst : c.cg.tk.rstepAt (set,last) j=[]:=by unfold Tk.rstepAt; rw [if_pos hb]
   rw [hst,List.append_nil] at hrf
   simp [fillF,pickL,hlt,hlt',hsh,han,hwS]
   exact hR _ _ _ (by omega) ⟨j + 1,ov,k,rfl,by omega,s3,g3,by rw [hrf]; exact hkl,by rw [hrf]; exact hqs,hown,⟨rfl,rfl,by simp⟩⟩
  | false=>
   rw [hb] at han
   simp only [Bool.false_eq_true,if_false] at han
   have hbh:=memb_behind c.cg (c.cg.tk.at' j) set
   have hpx:=place_ix c.cg (c.cg.tk.at' j)
   have hsv : c.cg.tk.rstepAt (set,last) j=match c.cg.tk.place (c.cg.tk.at' j) with
    | none=>[(j,(set ||| 2 ^ j,last),(c.cg.tk.behind (c.cg.tk.at' j) set,0))]
    | some p=>(j,(set ||| 2 ^ j,last),(c.cg.tk.behind (c.cg.tk.at' j) set,1)) :: (if last < p then [(j,(set ||| 2 ^ j,p),(c.cg.tk.behind (c.cg.tk.at' j) set,0))] else []):=by
    unfold Tk.rstepAt
    rw [if_neg (by rw [hb]; exact Bool.false_ne_true)]
    all_goals rfl
   generalize hm' : (set ||| 2 ^ j)=m' at *
   generalize hp' : 2 ^ j=p2 at *
   generalize hb' : c.cg.tk.behind (c.cg.tk.at' j) set=bh at *
   generalize hx' : c.cg.tk.at' j=xj at *
   have hmv3:=hmv.stay0 s3
   simp [fillF,pickL,hlt,hlt',hsh,han,hshl,hor,g3,h1,h2,h5]
   refine rbehind_ok ((h.arrows.stay0 s2).stay0 s3) hmv3 hw (by omega) fun S4 hs4=>?_
   have hn4:=hs4.1
   have s4:=s3.tr0 hs4
   have g4 : S4.get S.next=_:=(hs4.2 _ (by omega) (by simp)).trans g3
   have h24 : S4.get q=_:=(hs4.2 _ h3 (by simp)).trans h2
   have hbh2 : isum ((memb c.cg set c.cg.tk.f).map (wt c.arrows xj))=bh:=hbh
   rw [hbh2]
   simp [g4,h1,h24,h5]
   refine rindex_ok ((h.old.stay0 s2).stay0 s4) ?_
   have hqs4:=hqs.stay0 hs4
   have hge:=ixI_ge c.old xj
   have e0 : c.cg.old=c.old:=rfl
   rw [e0] at hpx
   simp [g4,h1,h24,h5]
   by_cases hix : ixI c.old xj < 0
   ·rw [if_pos hix] at hpx
    rw [hpx] at hsv
    simp only at hsv
    have hsW : Same S4 ((S4.bump 2).put S4.next (.row (q4C ((m' : Int),last,bh,0)) 158 true true)) []:=((Same.refl _ _).bu).pn (by omega)
    obtain ⟨T2,q1,q2,q3,q4⟩:=hqs4.app1 (T:=(S4.bump 2).put S4.next (.row (q4C ((m' : Int),last,bh,0)) 158 true true)) hsW (p:=S4.next) (fr:=S4.next + 1) (AS.get_put_self _ _ _) (by simp) (by omega) (by rw [← hkl]; omega)
    rw [← hkl] at q1 q2
    simp at q4
    simp only [q4C] at q1
    have s5 : Same S2 T2 []:=s4.trans q3 (fun m hm hl=>by have:=hown m hm; omega)
    have g5 : T2.get S.next=_:=(q3.2 _ (by omega) (fun hk=>by have:=hown _ hk; omega)).trans g4
    simp [hix,placeIn,splice,q1,hwS]
    refine hR _ _ _ (by omega) ⟨j + 1,some ⟨S4.next + 1,0,none⟩,k + 1,rfl,by omega,s5,g5,by rw [hrf,hsv,List.map_append,List.length_append,← hkl]; rfl,by rw [hrf,hsv,List.map_append]; exact q2,fun m hm=>by simp [ownsOf] at hm; omega,⟨rfl,rfl,by simp⟩⟩
   ·rw [if_neg hix] at hpx
    rw [hpx] at hsv
    simp only at hsv
    generalize hpi : ixI c.old xj=pi at *
    have hsW : Same S4 ((S4.bump 2).put S4.next (.row (q4C ((m' : Int),last,bh,1)) 158 true true)) []:=((Same.refl _ _).bu).pn (by omega)
    obtain ⟨T2,q1,q2,q3,q4⟩:=hqs4.app1 (T:=(S4.bump 2).put S4.next (.row (q4C ((m' : Int),last,bh,1)) 158 true true)) hsW (p:=S4.next) (fr:=S4.next + 1) (AS.get_put_self _ _ _) (by simp) (by omega) (by rw [← hkl]; omega)
    rw [← hkl] at q1 q2
    simp at q4
    simp only [q4C] at q1
    have s5 : Same S2 T2 []:=s4.trans q3 (fun m hm hl=>by have:=hown m hm; omega)
    have g5 : T2.get S.next=_:=(q3.2 _ (by omega) (fun hk=>by have:=hown _ hk; omega)).trans g4
    by_cases hlp : last < pi
    ·rw [if_pos hlp] at hsv
     have hsV : Same T2 ((T2.bump 2).put T2.next (.row (q4C ((m' : Int),pi,bh,0)) 158 true true)) []:=((Same.refl _ _).bu).pn (by omega)
     have hl1 : ((((List.range j).flatMap (c.cg.tk.rstepAt (set,last))).map sp4) ++ [((m' : Int),last,bh,1)]).length=k + 1:=by rw [List.length_append,← hkl]; rfl
     obtain ⟨T3,r1,r2,r3,r4⟩:=q2.app1 (T:=(T2.bump 2).put T2.next (.row (q4C ((m' : Int),pi,bh,0)) 158 true true)) hsV (p:=T2.next) (fr:=T2.next + 1) (AS.get_put_self _ _ _) (by simp) (by omega) (by rw [hl1]; omega)
     rw [hl1] at r1 r2
     simp at r4
     simp only [q4C] at r1
     have s6 : Same S2 T3 []:=s5.trans r3 (fun m hm hl=>by simp [ownsOf] at hm; omega)
     have g6 : T3.get S.next=_:=(r3.2 _ (by omega) (fun hk=>by simp [ownsOf] at hk; omega)).trans g5
     simp [hix,hlp,placeIn,splice,q1,r1,hwS]
     refine hR _ _ _ (by omega) ⟨j + 1,some ⟨T2.next + 1,0,none⟩,k + 2,rfl,by omega,s6,g6,by rw [hrf,hsv,List.map_append,List.length_append,← hkl]; rfl,by rw [hrf,hsv,List.map_append]; rw [List.append_assoc] at r2; exact r2,fun m hm=>by simp [ownsOf] at hm; omega,⟨rfl,rfl,by simp⟩⟩
    ·rw [if_neg hlp] at hsv
     simp [hix,hlp,placeIn,splice,q1,hwS]
     refine hR _ _ _ (by omega) ⟨j + 1,some ⟨S4.next + 1,0,none⟩,k + 1,rfl,by omega,s5,g5,by rw [hrf,hsv,List.map_append,List.length_append,← hkl]; rfl,by rw [hrf,hsv,List.map_append]; exact q2,fun m hm=>by simp [ownsOf] at hm; omega,⟨rfl,rfl,by simp⟩⟩
 ·have hlt' : ¬ (j : Int) < c.cg.free.length:=by omega
  obtain rfl : j=c.cg.free.length:=by omega
  simp [fillF,pickL]
  exact hq _ _ _ (s2.tr0 s3) hkl hqs (fun m hm=>by have:=hown m hm; have:=s2.1; omega)
end Go.Gx.A
namespace Go.Gx.A
open Go.Gx Go.Proofs
set_option maxRecDepth 100000
set_option linter.all false
set_option maxHeartbeats 4000000
def celV : Option Cost→List Value
 | none=>[.bool false,.int .i64 0,.int .i64 0]
 | some c=>[.bool true,.int .i64 c.1,.int .i64 c.2]
def celL (w : Nat) (f : Nat→Option Cost) : List (List Value):=(List.range w).map fun k=>celV (f k)
def celR (w : Nat) (f : Nat→Option Cost) : List Value:=(celL w f).flatten
theorem celV_len (o : Option Cost) : (celV o).length=3:=by cases o <;> rfl
theorem celV_ok (o : Option Cost) : (celV o).all okc=true:=by cases o <;> rfl
theorem cel_uni (w : Nat) (f : Nat→Option Cost) : Uni 3 (celL w f):=fun x hx=>by
 obtain ⟨k,_,rfl⟩:=List.mem_map.1 hx
 exact celV_len _
theorem celL_get {w : Nat} {f : Nat→Option Cost} {k : Nat} (h : k < w) : (celL w f)[k]?=some (celV (f k)):=by simp [celL,h]
theorem celR_load {w : Nat} {f : Nat→Option Cost} {k : Nat} (h : k < w) : rowLoad (celR w f) (k * 3) (some 3)=some (.agg (celV (f k)).toArray):=(cel_uni w f).load (celL_get h)
theorem celR_set {w : Nat} {f : Nat→Option Cost} {k : Nat} {v : Option Cost} (h : k < w) : rowStore (celR w f) (k * 3) (celV v)=some (celR w fun j=>if j=k then v else f j):=by
 have h1:=(cel_uni w f).store (i:=k) (v:=celV v) (by simp [celL,h]) (celV_len v) (celV_ok v)
 have h2 : (celL w f).set k (celV v)=celL w fun j=>if j=k then v else f j:=by
  apply List.ext_getElem?
  intro j
  rw [List.getElem?_set]
  by_cases h3 : k=j
  ·subst h3
   rw [if_pos rfl,if_pos (by simp [celL,h]),celL_get h,if_pos rfl]
  ·rw [if_neg h3]
   by_cases h4 : j < w
   ·rw [celL_get h4,celL_get h4,if_neg (Ne.symm h3)]
   ·rw [List.getElem?_eq_none (by simp [celL]; omega),List.getElem?_eq_none (by simp [celL]; omega)]
 rw [h2] at h1
 exact h1
theorem celR_zero (n : Nat) : repCells [.bool false,.int .i64 0,.int .i64 0] n=celR n fun _=>none:=by
 rw [rep_flat]
 unfold celR celL
 congr 1
 apply List.ext_getElem (by simp)
 intro i h1 h2
 simp [celV]
theorem celR_congr {w : Nat} {f g : Nat→Option Cost} (h : ∀ k,k < w→f k=g k) : celR w f=celR w g:=by
 unfold celR celL
 congr 1
 apply List.map_congr_left
 intro k hk
 rw [h k (by simpa using hk)]
structure Tc (S : AS) (v : Value) (rs : List Nat) (w : Nat) (M : Nat→Nat→Option Cost) : Prop where
 sl : SlAt S 142 v (rs.map fun r=>[rowv w r])
 rows : ∀ (i r : Nat),rs[i]?=some r→S.get r=some (.row (celR w (M i)) 141 true true)∧r < S.next∧r ∉ ownsOf v
 nd : rs.Nodup
theorem Tc.at {S : AS} {v : Value} {rs : List Nat} {w : Nat} {M : Nat→Nat→Option Cost} (h : Tc S v rs w M) {i : Nat} (hi : i < rs.length) :
  ∃ p ex r,(∀ (S' : AS) (j : IntKind),idxE S' 1 none (.int j i) v=.ret (.pointer (some ⟨p,i,none⟩),S'))∧S.get p=some (.row (rs.map (rowv w)) 142 true ex)∧(rs.map (rowv w))[i]?=some (.slice (some ⟨r,0,none⟩) w w) ∧
   S.get r=some (.row (celR w (M i)) 141 true true)∧r < S.next∧p < S.next∧r ≠ p∧rs[i]?=some r∧p ∈ ownsOf v∧r ∈ rs:=by
 have hl : (rs.map fun r=>[rowv w r]).length=rs.length:=by simp
 obtain ⟨p,ex,h1,h2,h3,h4⟩:=h.sl.idx (S':=S) (k:=1) (i:=i) (j:=.i64) (by rw [hl]; exact hi)
 obtain ⟨g1,g2,g3⟩:=h.rows i rs[i] (List.getElem?_eq_getElem hi)
 refine ⟨p,ex,rs[i],fun S' j=>?_,by rw [h2,flat1],by simp [hi,rowv],g1,g2,h3,fun e=>g3 (e ▸ h4),List.getElem?_eq_getElem hi,h4,List.getElem_mem hi⟩
 rcases h.sl with ⟨rfl,hn⟩ | ⟨p',ex',rfl,h5,h6⟩
 ·simp at hn; subst hn; simp at hi
 ·simp [ownsOf] at h4
  subst h4
  simp [hi]
theorem Tc.set {S : AS} {v : Value} {rs : List Nat} {w : Nat} {M : Nat→Nat→Option Cost} (h : Tc S v rs w M) {i r : Nat} {f : Nat→Option Cost} (hi : rs[i]?=some r) :
  Tc (S.put r (.row (celR w f) 141 true true)) v rs w (fun i'=>if i'=i then f else M i'):=by
 obtain ⟨g1,g2,g3⟩:=h.rows i r hi
 refine ⟨h.sl.stays (same_put S r _) (fun m hm hr=>by simp at hr; subst hr; exact g3 hm),fun i' r' h'=>?_,h.nd⟩
 obtain ⟨k1,k2,k3⟩:=h.rows i' r' h'
 refine ⟨?_,by simpa using k2,k3⟩
 by_cases hr : i'=i
 ·subst hr
  rw [hi] at h'; cases h'
  simp
 ·have : r' ≠ r:=by
   intro e
   subst e
   exact hr (nodup_inj h.nd h' hi)
  rw [AS.get_put_ne _ _ this,k1]
  simp [hr]
theorem Tc.stays {S S' : AS} {v : Value} {rs : List Nat} {w : Nat} {M : Nat→Nat→Option Cost} (h : Tc S v rs w M) {fp : List Nat} (hs : Same S S' fp) (hd : ∀ m ∈ ownsOf v,m ∉ fp) (hr : ∀ m ∈ rs,m ∉ fp) : Tc S' v rs w M:=by
 refine ⟨h.sl.stays hs hd,fun i r hi=>?_,h.nd⟩
 obtain ⟨g1,g2,g3⟩:=h.rows i r hi
 exact ⟨by rw [hs.2 r g2 (hr r (List.mem_of_getElem? hi))]; exact g1,Nat.lt_of_lt_of_le g2 hs.1,g3⟩
theorem Tc.stay0 {S S' : AS} {v : Value} {rs : List Nat} {w : Nat} {M : Nat→Nat→Option Cost} (h : Tc S v rs w M) (hs : Same S S' []) : Tc S' v rs w M:=h.stays hs (by simp) (by simp)
theorem Tc.congr {S : AS} {v : Value} {rs : List Nat} {w : Nat} {M M' : Nat→Nat→Option Cost} (h : Tc S v rs w M) (hm : ∀ i k,i < rs.length→k < w→M i k=M' i k) : Tc S v rs w M':=by
 refine ⟨h.sl,fun i r hi=>?_,h.nd⟩
 obtain ⟨g1,g2⟩:=h.rows i r hi
 refine ⟨?_,g2⟩
 rw [g1,celR_congr fun k hk=>hm i k (List.getElem?_eq_some_iff.1 hi).1 hk]
theorem Tc.app {S : AS} {v : Value} {rs : List Nat} {w : Nat} {M : Nat→Nat→Option Cost} (h : Tc S v rs w M) (hb : rs.length ≤ 100000) {T : AS} {r y fr : Nat} {f : Nat→Option Cost} (hT : Same S T []) (hr : T.get r=some (.row (celR w f) 141 true true)) (hrn : S.next ≤ r) (hrT : r < T.next) (hy : T.get y=some (.row [rowv w r] 142 true true)) (hfr : fr < T.next) (hfS : S.next ≤ fr) (hfr2 : r ≠ fr) :
  ∃ T' : AS,appV T fr 142 1 24 v (.slice (some ⟨y,0,none⟩) 1 1)=some (.slice (some ⟨fr,0,none⟩) (rs.length + 1) (rs.length + 1),T')∧Tc T' (.slice (some ⟨fr,0,none⟩) (rs.length + 1) (rs.length + 1)) (rs ++ [r]) w (fun i=>if i=rs.length then f else M i)∧Same S T' (ownsOf v)∧T'.next=T.next:=by
 have hsl:=h.sl.stays hT (by simp)
 obtain ⟨T0,a1,a2,a3⟩:=appV_new (fr:=fr) (bytes:=24) (ms:=[[rowv w r]]) (y:=.slice (some ⟨y,0,none⟩) 1 1) hsl (uni1 w rs) (by omega) (List.cons_ne_nil _ _) (fun x hx=>by simp at hx; rw [hx]; rfl) (by simp [srcCells,hy]) (by simp; omega) (by omega) (by simp [rowv,okc])
 simp only [List.length_map,List.length_cons,List.length_nil,Nat.zero_add] at a1
 have hne : ∀ r' ∈ rs,r' ≠ r:=fun r' hr' e=>by
  obtain ⟨i,hi⟩:=List.getElem?_of_mem hr'
  have:=(h.rows i r' hi).2.1
  omega
 have hown : ∀ m ∈ ownsOf v,m < S.next:=h.sl.owns_lt
 refine ⟨_,a1,⟨.inr ⟨fr,false,by simp,?_,by simp only [AS.next_put,a2]; exact hfr⟩,fun i r' hi=>?_,?_⟩,?_,by simp only [AS.next_put]; exact a2⟩
 ·rw [AS.get_put_self,List.map_append]; simp
 ·by_cases hi2 : i < rs.length
  ·rw [List.getElem?_append_left hi2] at hi
   obtain ⟨g1,g2,g3⟩:=h.rows i r' hi
   refine ⟨?_,by simp only [AS.next_put,a2]; have:=hT.1; omega,by simp [ownsOf]; omega⟩
   rw [AS.get_put_ne _ _ (by omega),a3 r' g3,hT.2 r' g2 (by simp),g1,if_neg (by omega)]
  ·have hi3 : i=rs.length:=by
    have:=(List.getElem?_eq_some_iff.1 hi).1
    simp at this; omega
   subst hi3
   simp at hi
   subst hi
   refine ⟨?_,by simp only [AS.next_put,a2]; exact hrT,by simp [ownsOf]; exact hfr2⟩
   rw [AS.get_put_ne _ _ hfr2,a3 r (fun hm=>by have:=hown r hm; omega),hr]
   simp
 ·rw [List.nodup_append]
  refine ⟨h.nd,by simp,fun a ha b hb=>?_⟩
  simp at hb; subst hb; exact hne a ha
 ·refine ⟨by simp only [AS.next_put,a2]; exact hT.1,fun m hm hn=>?_⟩
  rw [AS.get_put_ne _ _ (by omega),a3 m hn,hT.2 m hm (by simp)]
theorem rowStore3 {a b c a' b' c' : Value} : rowStore [a,b,c] 0 [a',b',c']=if (okc a' && okc b' && okc c')=true then some [a',b',c'] else none:=by
 unfold rowStore
 by_cases h : (okc a' && okc b' && okc c')=true
 ·rw [if_pos h,if_pos ⟨by simp,by simpa [Bool.and_assoc] using h⟩]; rfl
 ·rw [if_neg h,if_neg (fun g=>h (by simpa [Bool.and_assoc] using g.2))]
def MR (R : Rch) : Nat→Nat→Option Cost:=fun i k=>R (i,(k : Int) - 1)
theorem MR_set (R : Rch) (t q : Nat) (d : Cost) : (fun i=>if i=t then (fun k=>if k=q then some d else MR R t k) else MR R i)=MR (fun x=>if x=(t,(q : Int) - 1) then some d else R x):=by
 funext i k
 unfold MR
 by_cases h1 : i=t
 ·subst h1
  by_cases h2 : k=q
  ·subst h2; simp
  ·have h3 : ¬ ((k : Int) - 1=(q : Int) - 1):=by omega
   simp [h2,h3]
 ·simp [h1]
def Cg.tbl (c : Cg) (j : Nat) : Rch × List Bnd:=prAll c.tk c.goal.total (c.old.length + 1) (R0 (c.goal.base,0) c.goal.last0,[]) j
def Cg.tblRow (c : Cg) (j k : Nat) : Rch:=(prRow c.tk c.goal.total (c.tbl j) j k).1
theorem tblRow_none {c : Cg} {j k : Nat} (h : c.tblRow j k (j,(k : Int) - 1)=none) : c.tblRow j (k + 1)=c.tblRow j k:=by
 unfold Cg.tblRow at h ⊢
 simp only [prRow,prS,h]
theorem tblRow_some {c : Cg} {j k : Nat} {a : Cost} (h : c.tblRow j k (j,(k : Int) - 1)=some a) : c.tblRow j (k + 1)=rlx (c.tblRow j k) a (c.tk.steps (j,(k : Int) - 1)):=by
 unfold Cg.tblRow at h ⊢
 simp only [prRow,prS,h]
theorem R0_sml (c : Cg) (k : CgSm c) : ∀ y a,R0 (c.goal.base,0) c.goal.last0 y=some a→Sml c.tk 576000 y a:=by
 intro y a h
 unfold R0 at h
 split at h
 ·rename_i e
  subst e
  simp only [Option.some.injEq] at h
  subst h
  have hb:=base_bd k
  have hc:=cnt_start c.tk.f
  exact ⟨hb.1,by simp only [hc]; omega,Int.le_refl _,by simp only [hc]; omega⟩
 ·cases h
theorem tblRow_sml {c : Cg} (k : CgSm c) (j q : Nat) : ∀ y a,c.tblRow j q y=some a→Sml c.tk 576000 y a:=
 prRow_ind (fun s a x=>sml_step (fun x set=>behind_bd k x set) s a x) (prAll_ind (fun s a x=>sml_step (fun x set=>behind_bd k x set) s a x) (R0_sml c k) j) q
theorem rstep_to {c : Cg} {s : St} {x : Sp} (hs : s.1 < 2 ^ c.tk.f) (hx : x ∈ c.tk.rsteps s) (hl1 : -1 ≤ s.2) (hl2 : s.2 < c.old.length) : x.2.1.1 < 2 ^ c.tk.f∧-1 ≤ x.2.1.2∧x.2.1.2 < c.old.length:=by
 have h:=(mem_steps (i:=x.1) (to:=x.2.1) (c:=x.2.2)).1 (mem_rsteps.1 hx)
 refine ⟨h.set_lt hs,?_⟩
 have h2:=h.to'
 have hp:=place_ix c (c.tk.at' x.1)
 have:=ixI_lt c.old (c.tk.at' x.1)
 cases hpp : c.tk.place (c.tk.at' x.1) with
 | none=>rw [hpp] at h2; simp only [StepTo] at h2; omega
 | some p=>
  rw [hpp] at h2 hp
  simp only [StepTo] at h2
  have : p=ixI c.old (c.tk.at' x.1):=by
   split at hp
   ·cases hp
   ·exact Option.some.inj hp
  have hge : 0 ≤ p:=by
   split at hp
   ·cases hp
   ·omega
  omega
theorem table_ok {S : AS} {va vo vf : Value} {c : Chg} (h : ChgAt S va vo c) (ok : ChgOk c) (hf : Is S vf c.cg.free) {Q : En→AS→Prop}
  (hq : ∀ S' tv rs,Same S S' []→Tc S' tv rs (c.old.length + 1) (MR (c.cg.tbl (2 ^ c.cg.free.length)).1)→rs.length=2 ^ c.cg.free.length→(∀ r ∈ rs,S.next ≤ r)→(∀ m ∈ ownsOf tv,S.next ≤ m)→Q (.ret tv) S') : Call G 101 [c.val va vo,vf] S Q:=by
 have sm:=ok.cgSm
 obtain ⟨oa,ocap,hov⟩:=h.old.shape
 obtain ⟨fa,fcap,hvf⟩:=hf.shape
 obtain ⟨p,hp⟩ : ∃ p : Nat,c.passed=p:=⟨c.passed.toNat,by have:=ok.p0; omega⟩
 have hpl : p ≤ c.old.length:=by have:=ok.p1; omega
 have hfr : c.cg.front=c.old.take p:=by show c.old.take c.passed.toNat=_; rw [hp]; rfl
 have hf24:=sm.f
 have hol : c.old.length ≤ 24:=sm.ol
 have htf : c.cg.tk.f=c.cg.free.length:=rfl
 have hp2 : 2 ^ c.cg.free.length ≤ 2 ^ 24:=Nat.pow_le_pow_right (by omega) hf24
 have hf8 : c.cg.free.length ≤ 8:=by
  have h1:=len_free ok.cgOk
  have h2 : c.cg.n=c.n.toNat:=rfl
  have h3:=ok.am
  have h4 : c.cg.front.length=p:=by rw [hfr,List.length_take]; omega
  have:=ok.n0
  omega
 have hp8 : 2 ^ c.cg.free.length ≤ 2 ^ 8:=Nat.pow_le_pow_right (by omega) hf8
 have hw : ∀ x y,0 ≤ wt c.arrows x y∧wt c.arrows x y ≤ 1000:=fun x y=>wt_bd (arrsOk_none ok.ar).1 x y
 have hshl:=shl_ok (k:=c.cg.free.length) (by omega)
 have hwl : IntKind.i64.wrap ((c.old.length : Int) + 1)=((c.old.length + 1 : Nat) : Int):=wrapS (by omega)
 generalize hN : 2 ^ c.cg.free.length=N at *
 refine call_run' (G:=G) rfl (ext_none (by decide)) ?_
 subst hvf
 subst hov
 simp [Chg.val,hp]
 generalize hS1 : AS.put (AS.bump S 1) _ _=S1
 have s1 : Same S S1 []:=by rw [← hS1]; exact ((Same.refl _ _).bu).pn (by omega)
 have g1 : S1.get S.next=some (.row [.int .i64 c.n,va,.slice oa c.old.length ocap,.int .i64 p] 27 true true):=by rw [← hS1]; simp
 have hn1 : S1.next=S.next + 1:=by rw [← hS1]; simp
 clear hS1
 refine run_loop (fun m a' S'=>∃ i rs tv,m=N - i∧i ≤ N∧rs.length=i∧Same S S' []∧S.next < S'.next∧S'.get S.next=some (.row [.int .i64 c.n,va,.slice oa c.old.length ocap,.int .i64 p] 27 true true)∧Tc S' tv rs (c.old.length + 1) (fun _ _=>none)∧(∀ r ∈ rs,S.next < r)∧(∀ m ∈ ownsOf tv,S.next < m) ∧
  Has a' 143 [(1,.slice fa c.cg.free.length fcap),(2,ptr S.next),(5,tv),(6,.int .i64 i)]) _ ⟨0,[],.slice none 0 0,rfl,by omega,rfl,s1,by omega,g1,⟨.inl ⟨rfl,rfl⟩,by simp,by simp⟩,by simp,by simp [ownsOf],⟨rfl,rfl,by simp⟩⟩ ?_
 rintro _ R hR _ S2 ⟨i,rs,tv,rfl,hi,hrl,s2,hn2,g2,ht,hrs,hos,hA⟩
 obtain ⟨x,rfl⟩:=hA.lit
 by_cases hlt : i < N
 ·have hlt' : (i : Int) < (N : Int):=by omega
  have hwS:=wrapS (show i < 9223372036854775807 by omega)
  have c1 : 0 ≤ (c.old.length : Int) + 1:=by omega
  have c2 : 24 * ((c.old.length : Int) + 1) ≤ 281474976710656:=by omega
  have c3 : (c.old.length : Int) + 1 ≤ 9223372036854775807:=by omega
  obtain ⟨T',e1,e2,e3,e4⟩:=ht.app (by omega) (T:=((S2.bump 3).put S2.next (.row (celR (c.old.length + 1) fun _=>none) 141 true true)).put (S2.next + 1) (.row [rowv (c.old.length + 1) S2.next] 142 true true)) (r:=S2.next) (y:=S2.next + 1) (fr:=S2.next + 2) (f:=fun _=>none)
   (by repeat' first | exact Same.refl _ _ | apply Same.bu | (refine Same.pn ?_ (by first | omega | (simp; omega)))) (by simp) (by omega) (by simp) (by simp) (by simp) (by omega) (by omega)
  rw [hrl] at e1 e2
  simp [fillF,pickL,hlt,hlt',hshl,g2,hwl,c1,c2,c3,celR_zero,placeIn,splice]
  have e1':=e1
  unfold rowv at e1'
  rw [e1']
  simp [hwS]
  have hn4 : T'.next=S2.next + 3:=by rw [e4]; simp
  refine hR _ _ _ (by omega) ⟨i + 1,rs ++ [S2.next],.slice (some ⟨S2.next + 2,0,none⟩) (i + 1) (i + 1),rfl,by omega,by simp [hrl],?_,by omega,?_,?_,?_,?_,⟨rfl,rfl,by simp⟩⟩
  ·exact s2.trans e3 (fun m hm hl=>by have:=hos m hm; omega)
  ·exact (e3.2 _ hn2 (fun hk=>by have:=hos _ hk; omega)).trans g2
  ·exact e2.congr fun i' k' h1 h2=>by simp
  ·intro r hr
   rcases List.mem_append.1 hr with h1 | h1
   ·exact hrs r h1
   ·simp at h1; omega
  ·intro m hm; simp [ownsOf] at hm; omega
 ·have hlt' : ¬ (i : Int) < (N : Int):=by omega
  have hiN : i=N:=by omega
  subst hiN
  have hNpos : 0 < rs.length:=by rw [hrl,← hN]; exact Nat.two_pow_pos _
  obtain ⟨p0,ex0,r0,a1,a2,a3,a4,a5,a6,a7,a8,a9,a10⟩:=ht.at (i:=0) hNpos
  have a1' : ∀ (S' : AS) (j : IntKind),idxE S' 1 none (.int j 0) tv=.ret (.pointer (some ⟨p0,0,none⟩),S'):=fun S' j=>a1 S' j
  obtain ⟨v',k1,k2,k3⟩:=(h.old.stay0 s2).slc (lo:=none) (hi:=some (.int .i64 p)) (i:=0) (j:=p) (.inl ⟨rfl,rfl⟩) (.inr rfl) (by omega) hpl
  rw [List.drop_zero] at k2
  have hpi : (p : Int) < (c.old.length : Int) + 1:=by omega
  have hpn : p < c.old.length + 1:=by omega
  have hfr2 : (c.old.take p).length ≤ 24:=by rw [List.length_take]; omega
  simp [fillF,pickL,hshl,a1',a2,a3,g2,k1]
  refine roffence_ok (h.arrows.stay0 s2) k2 hw hfr2 fun S4 hs4=>?_
  have s4:=s2.tr0 hs4
  have hn4:=hs4.1
  have g4 : S4.get S.next=_:=(hs4.2 _ (by omega) (by simp)).trans g2
  have a24 : S4.get p0=_:=(hs4.2 _ a6 (by simp)).trans a2
  have a44 : S4.get r0=_:=(hs4.2 _ a5 (by simp)).trans a4
  obtain ⟨v2,kk1,kk2,kk3⟩:=(h.old.stay0 s4).slc (lo:=none) (hi:=some (.int .i64 p)) (i:=0) (j:=p) (.inl ⟨rfl,rfl⟩) (.inr rfl) (by omega) hpl
  have hbase : offR (wt c.arrows) [] (c.old.take p)=c.cg.goal.base:=by rw [← hfr]; rfl
  rw [hbase]
  have hst:=celR_set (w:=c.old.length + 1) (f:=fun _=>none) (k:=p) (v:=some (c.cg.goal.base,0)) hpn
  simp only [celV] at hst
  have hlo:=hrs r0 a10
  have nb1 : (S.next=r0)=False:=eq_false (by omega)
  have nb2 : (p0=r0)=False:=eq_false (Ne.symm a7)
  simp [g4,a1',a24,a3,kk1,placeIn,splice,hpi,a44,hst,nb1,nb2]
  generalize hS5 : S4.put r0 _=S5
  have hlast0 : c.cg.goal.last0=(p : Int) - 1:=by
   show (c.passed.toNat : Int) - 1=_
   omega
  have ht5 : Tc S5 tv rs (c.old.length + 1) (MR (c.cg.tbl 0).1):=by
   rw [← hS5]
   refine ((ht.stay0 hs4).set a8).congr fun i k hi hk=>?_
   show _=R0 (c.cg.goal.base,0) c.cg.goal.last0 (i,(k : Int) - 1)
   unfold R0
   rw [hlast0]
   by_cases e1 : i=0
   ·subst e1
    by_cases e2 : k=p
    ·subst e2; simp
    ·have e3 : ¬ ((k : Int) - 1=(p : Int) - 1):=by omega
     simp [e2,e3]
   ·simp [e1]
  have s5 : Same S S5 []:=by rw [← hS5]; exact s4.pn (by omega)
  have hn5 : S5.next=S4.next:=by rw [← hS5]; rfl
  have g5 : S5.get S.next=some (.row [.int .i64 c.n,va,.slice oa c.old.length ocap,.int .i64 p] 27 true true):=by rw [← hS5,AS.get_put_ne _ _ (by omega)]; exact g4
  clear hS5
  have hln : ∀ S' : AS,lnE S' tv=.ret (.int .i64 rs.length,S'):=fun S'=>by
   have:=ht.sl.ln (S':=S')
   simpa using this
  have hlnv : ∀ m ∈ ownsOf tv,m ∉ rs:=fun m hm hr=>by
   obtain ⟨i,hi⟩:=List.getElem?_of_mem hr
   exact (ht.rows i m hi).2.2 hm
  refine run_loop (fun m a' S'=>∃ j,m=rs.length - j∧j ≤ rs.length∧Same S S' []∧S5.next ≤ S'.next∧S'.get S.next=some (.row [.int .i64 c.n,va,.slice oa c.old.length ocap,.int .i64 p] 27 true true)∧Tc S' tv rs (c.old.length + 1) (MR (c.cg.tbl j).1) ∧
   Has a' 143 [(1,.slice fa c.cg.free.length fcap),(2,ptr S.next),(5,tv),(7,.int .i64 j)]) _ ⟨0,rfl,by omega,s5,by omega,g5,ht5,⟨rfl,rfl,by simp⟩⟩ ?_
  rintro _ R2 hR2 _ S6 ⟨j,rfl,hj,s6,hn6,g6,ht6,hA⟩
  obtain ⟨y,rfl⟩:=hA.lit
  by_cases hltj : j < rs.length
  ·have hltj' : (j : Int) < rs.length:=by omega
   have hwSj:=wrapS (show j < 9223372036854775807 by omega)
   have hjN : j < 2 ^ c.cg.free.length:=by omega
   simp [fillF,pickL,hltj,hltj',hln]
   refine run_loop (fun m a' S'=>∃ k,m=c.old.length + 1 - k∧k ≤ c.old.length + 1∧Same S S' []∧S5.next ≤ S'.next∧S'.get S.next=some (.row [.int .i64 c.n,va,.slice oa c.old.length ocap,.int .i64 p] 27 true true)∧Tc S' tv rs (c.old.length + 1) (MR (c.cg.tblRow j k)) ∧
    Has a' 143 [(1,.slice fa c.cg.free.length fcap),(2,ptr S.next),(5,tv),(7,.int .i64 j),(8,.int .i64 ((k : Int) - 1))]) _ ⟨0,rfl,by omega,s6,hn6,g6,ht6,⟨rfl,rfl,by simp⟩⟩ ?_
   rintro _ R3 hR3 _ S7 ⟨k,rfl,hk,s7,hn7,g7,ht7,hA⟩
   obtain ⟨z,rfl⟩:=hA.lit
   by_cases hltk : k < c.old.length + 1
   ·have hltk' : (k : Int) - 1 < c.old.length:=by omega
    have hwk : IntKind.i64.wrap (k : Int)=k:=wrap64 (by omega) (by omega)
    have hwk2 : IntKind.i64.wrap ((k : Int) - 1 + 1)=k:=by rw [show (k : Int) - 1 + 1=k by omega]; exact hwk
    have hki : (k : Int) < (c.old.length : Int) + 1:=by omega
    obtain ⟨pj,exj,rj,b1,b2,b3,b4,b5,b6,b7,b8,b9,b10⟩:=ht7.at (i:=j) hltj
    have hcl:=celR_load (w:=c.old.length + 1) (f:=MR (c.cg.tblRow j k) j) (k:=k) hltk
    have hMR : MR (c.cg.tblRow j k) j k=c.cg.tblRow j k (j,(k : Int) - 1):=rfl
    rw [hMR] at hcl
    cases hat : c.cg.tblRow j k (j,(k : Int) - 1) with
    | none=>
     rw [hat] at hcl
     simp only [celV] at hcl
     have hnx:=tblRow_none hat
     simp [fillF,pickL,hltk',g7,b1,b2,b3,b4,hwk,hwk2,hki,hcl,rowStore,splice,okc]
     exact hR3 _ _ _ (by omega) ⟨k + 1,rfl,by omega,(s7.bu.pn (by omega)).pn (by omega),by simp; omega,by rw [AS.get_put_ne _ _ (by omega),AS.get_put_ne _ _ (by omega),AS.get_bump]; exact g7,by rw [hnx]; exact ht7.stay0 ((((Same.refl _ _).bu).pn (by omega)).pn (by omega)),⟨rfl,rfl,by simp⟩⟩
    | some at'=>
     rw [hat] at hcl
     simp only [celV] at hcl
     have hnx:=tblRow_some hat
     rw [← rlx_rsteps] at hnx
     simp [fillF,pickL,hltk',g7,b1,b2,b3,b4,hwk,hwk2,hki,hcl,rowStore,splice,okc]
     generalize hS8 : AS.put (AS.put (AS.bump S7 1) _ _) _ _=S8
     have h78 : Same S7 S8 []:=by rw [← hS8]; exact (((Same.refl _ _).bu).pn (by omega)).pn (by omega)
     have g8 : S8.get S.next=_:=(h78.2 _ (by omega) (by simp)).trans g7
     have c8 : S8.get S7.next=some (.row [.bool true,.int .i64 at'.1,.int .i64 at'.2] 141 true true):=by rw [← hS8,AS.get_put_self]
     have hn8 : S8.next=S7.next + 1:=by rw [← hS8]; simp
     clear hS8
     have s8:=s7.tr0 h78
     have ht8:=ht7.stay0 h78
     have hval : Value.agg #[.int .i64 c.n,va,.slice oa c.old.length ocap,.int .i64 p]=c.val va (.slice oa c.old.length ocap):=by unfold Chg.val; rw [hp]
     simp [g8]
     rw [hval]
     refine rsteps_ok (h.stay0 s8) ok (hf.stay0 s8) hjN fun S9 sa sn hs9 hsn hqs hso=>?_
     have hn9:=hs9.1
     have s9:=s8.tr0 hs9
     have g9 : S9.get S.next=_:=(hs9.2 _ (by omega) (by simp)).trans g8
     have c9 : S9.get S7.next=_:=(hs9.2 _ (by omega) (by simp)).trans c8
     have ht9:=ht8.stay0 hs9
     rw [List.length_map] at hsn
     obtain ⟨L,hL⟩ : ∃ L,L=c.cg.tk.rsteps (j,(k : Int) - 1):=⟨_,rfl⟩
     rw [← hL] at hsn hqs hnx
     have hLl : L.length ≤ 48:=by
      have:=rsteps_len c.cg.tk (j,(k : Int) - 1) c.cg.tk.f
      rw [hL]
      unfold Tk.rsteps
      omega
     have hsml:=tblRow_sml sm j k _ _ hat
     obtain ⟨m1,m2,m3,m4⟩:=hsml
     have hrlt : ∀ r ∈ rs,r < S7.next:=fun r hr=>by
      obtain ⟨i,hi⟩:=List.getElem?_of_mem hr
      exact (ht7.rows i r hi).2.1
     simp
     refine run_loop (fun m a' S'=>∃ i,m=L.length - i∧i ≤ L.length∧Same S S' []∧S9.next ≤ S'.next∧S'.get S.next=some (.row [.int .i64 c.n,va,.slice oa c.old.length ocap,.int .i64 p] 27 true true)∧S'.get S7.next=some (.row [.bool true,.int .i64 at'.1,.int .i64 at'.2] 141 true true)∧Qs S' 158 (.slice sa sn sn) (L.map sp4)∧Tc S' tv rs (c.old.length + 1) (MR (rlx (c.cg.tblRow j k) at' (L.take i))) ∧
      Has a' 143 [(1,.slice fa c.cg.free.length fcap),(2,ptr S.next),(5,tv),(7,.int .i64 j),(8,.int .i64 ((k : Int) - 1)),(9,ptr S7.next),(10,.slice sa sn sn),(11,.int .i64 i)]) _ ⟨0,rfl,by omega,s9,by omega,g9,c9,hqs,ht9,⟨rfl,rfl,by simp⟩⟩ ?_
     rintro _ R4 hR4 _ S10 ⟨i,rfl,hi,s10,hn10,g10,c10,hqs10,ht10,hA⟩
     obtain ⟨u,rfl⟩:=hA.lit
     by_cases hlti : i < L.length
     ·have hlti' : (i : Int) < sn:=by omega
      have hlti2 : i < sn:=by omega
      have hwSi:=wrapS (show i < 9223372036854775807 by omega)
      obtain ⟨⟨i',⟨t1,t2⟩,e1,e2⟩,hx⟩ : ∃ x : Sp,x=L[i]:=⟨_,rfl⟩
      have hxm : (i',(t1,t2),(e1,e2)) ∈ c.cg.tk.rsteps (j,(k : Int) - 1):=by rw [hx,← hL]; exact List.getElem_mem _
      have hto:=rstep_to (s:=(j,(k : Int) - 1)) hjN hxm (by show -1 ≤ (k : Int) - 1; omega) hltk'
      have hsb:=step_bd sm (mem_steps.1 (mem_rsteps.1 hxm))
      simp only at hto hsb
      have hto1 : t1 < 2 ^ c.cg.free.length:=hto.1
      have hto3 : t2 < (c.old.length : Int):=hto.2.2
      have hto2':=hto.2.1
      have hel : (L.map sp4)[i]'(by simpa using hlti)=((t1 : Int),t2,e1,e2):=by rw [List.getElem_map,← hx]; rfl
      obtain ⟨qp,qo,qc,qe,qw,qx,y1,y2,y3,y4,y5,y6,y7,y8,y9⟩:=q4_at (hqs10.ps (by simp; omega)) (i:=i) (by simpa using hlti)
      rw [hel] at y6 y7 y8 y9
      simp only at y6 y7 y8 y9
      obtain ⟨q,rfl⟩ : ∃ q : Nat,t2=(q : Int) - 1:=⟨(t2 + 1).toNat,by omega⟩
      have hqn : q < c.old.length + 1:=by omega
      have hqi : (q : Int) < (c.old.length : Int) + 1:=by omega
      have hwq : IntKind.i64.wrap (q : Int)=q:=wrap64 (by omega) (by omega)
      have hwq2 : IntKind.i64.wrap ((q : Int) - 1 + 1)=q:=by rw [show (q : Int) - 1 + 1=q by omega]; exact hwq
      have ht1 : t1 < rs.length:=by omega
      obtain ⟨pt,ext,rt,z1,z2,z3,z4,z5,z6,z7,z8,z9,z10⟩:=ht10.at (i:=t1) ht1
      obtain ⟨Rr,hRr⟩ : ∃ Rr,Rr=rlx (c.cg.tblRow j k) at' (L.take i):=⟨_,rfl⟩
      rw [← hRr] at ht10 z4
      have hclt:=celR_load (w:=c.old.length + 1) (f:=MR Rr t1) (k:=q) hqn
      have hwo : IntKind.i64.wrap (at'.1 + e1)=(cadd at' (e1,e2)).1:=wrap64 (by omega) (by omega)
      have hwm : IntKind.i64.wrap (at'.2 + e2)=(cadd at' (e1,e2)).2:=wrap64 (by omega) (by omega)
      have hnext : rlx (c.cg.tblRow j k) at' (L.take (i + 1))=rx Rr (t1,(q : Int) - 1) (cadd at' (e1,e2)):=by
       have e : L.take (i + 1)=L.take i ++ [L[i]]:=by rw [List.take_add_one,List.getElem?_eq_getElem hlti]; rfl
       rw [e,rlx_append,← hRr,← hx]
       rfl
      generalize hd : cadd at' (e1,e2)=d at *
      have hMt : MR Rr t1 q=Rr (t1,(q : Int) - 1):=rfl
      rw [hMt] at hclt
      have hst:=celR_set (w:=c.old.length + 1) (f:=MR Rr t1) (k:=q) (v:=some d) hqn
      simp only [celV] at hst
      have hrt:=hrlt rt z10
      have hro:=hrs rt z10
      have u1 : (qp=S10.next)=False:=eq_false (by omega)
      have u2 : (pt=S10.next)=False:=eq_false (by omega)
      have u3 : (rt=S10.next)=False:=eq_false (by omega)
      have u4 : (S7.next=S10.next)=False:=eq_false (by omega)
      have u5 : (S.next=S10.next)=False:=eq_false (by omega)
      have u6 : (S10.next=rt)=False:=eq_false (by omega)
      have u7 : (pt=rt)=False:=eq_false (Ne.symm z7)
      have u8 : (qp=rt)=False:=eq_false (fun e=>by have:=hso qp y4; have:=hrlt rt z10; omega)
      have u9 : (S7.next=rt)=False:=eq_false (by omega)
      have fin : ∀ (Sa U : AS) (z : Act),Same S10 Sa []→Sa.put rt (.row (celR (c.old.length + 1) fun j=>if j=q then some d else MR Rr t1 j) 141 true true)=U→rx Rr (t1,(q : Int) - 1) d=(fun x=>if x=(t1,(q : Int) - 1) then some d else Rr x) →
        Has z 143 [(1,.slice fa c.cg.free.length fcap),(2,ptr S.next),(5,tv),(7,.int .i64 j),(8,.int .i64 ((k : Int) - 1)),(9,ptr S7.next),(10,.slice sa sn sn),(11,.int .i64 ((i + 1 : Nat) : Int))]→R4 z U:=by
       intro Sa U z ha hU hrx hz
       subst hU
       have hs' : Same S10 (Sa.put rt (.row (celR (c.old.length + 1) fun j=>if j=q then some d else MR Rr t1 j) 141 true true)) [rt]:=(ha.mono (by simp)).po (by simp)
       exact hR4 _ _ _ (show L.length - (i + 1) < L.length - i by omega) ⟨i + 1,rfl,by omega,s10.trans hs' (fun m hm hl=>by simp at hm; omega),by have:=hs'.1; omega,(hs'.2 _ (by omega) (by simp; omega)).trans g10,(hs'.2 _ (by omega) (by simp; omega)).trans c10,hqs10.stays hs' (fun m hm=>by have:=hso m hm; simp; omega),by rw [hnext,hrx,← MR_set]; exact (ht10.stay0 ha).set z8,hz⟩
      cases hto2 : Rr (t1,(q : Int) - 1) with
      | none=>
       rw [hto2] at hclt
       simp only [celV] at hclt
       have hrx:=rx_set (R:=Rr) (to:=(t1,(q : Int) - 1)) (d:=d) (.inl hto2)
       simp [fillF,pickL,hlti,hlti',hlti2,c10,y1,y2,y6,y7,y8,y9,hwo,hwm,z1,z2,z3,z4,hwq,hwq2,hqi,hclt,rowStore3,splice,okc,undef,placeIn,u1,u2,u3,u4,u5,u6,u7,u8,u9,hst,hwSi]
       generalize hSa : AS.put (AS.put (AS.bump S10 1) _ _) _ _=Sa
       have ha : Same S10 Sa []:=by rw [← hSa]; exact (((Same.refl _ _).bu).pn (by omega)).pn (by omega)
       exact fin Sa _ _ ha rfl hrx ⟨rfl,rfl,by simp⟩
      | some w=>
       rw [hto2] at hclt
       simp only [celV] at hclt
       simp [fillF,pickL,hlti,hlti',hlti2,c10,y1,y2,y6,y7,y8,y9,hwo,hwm,z1,z2,z3,z4,hwq,hwq2,hqi,hclt,rowStore3,splice,okc,undef,placeIn,u1,u2,u3,u4,u5,u6,u7,u8,u9,hst,hwSi]
       refine rless_ok (a:=d) (b:=w) ?_
       cases hcw : clt d w with
       | true=>
        have hrx:=rx_set (R:=Rr) (to:=(t1,(q : Int) - 1)) (d:=d) (.inr ⟨w,hto2,hcw⟩)
        simp [fillF,pickL,hlti,hlti',hlti2,c10,y1,y2,y6,y7,y8,y9,hwo,hwm,z1,z2,z3,z4,hwq,hwq2,hqi,hclt,rowStore3,splice,okc,undef,placeIn,u1,u2,u3,u4,u5,u6,u7,u8,u9,hst,hwSi]
        generalize hSa : AS.put (AS.put (AS.bump S10 1) _ _) _ _=Sa
        have ha : Same S10 Sa []:=by rw [← hSa]; exact (((Same.refl _ _).bu).pn (by omega)).pn (by omega)
        exact fin Sa _ _ ha rfl hrx ⟨rfl,rfl,by simp⟩
       | false=>
        have hrx:=rx_keep hto2 hcw
        simp [hwSi]
        generalize hSa : AS.put (AS.put (AS.bump S10 1) _ _) _ _=Sa
        have ha : Same S10 Sa []:=by rw [← hSa]; exact (((Same.refl _ _).bu).pn (by omega)).pn (by omega)
        exact hR4 _ _ _ (by omega) ⟨i + 1,rfl,by omega,s10.tr0 ha,by have:=ha.1; omega,(ha.2 _ (by omega) (by simp)).trans g10,(ha.2 _ (by omega) (by simp)).trans c10,hqs10.stay0 ha,by rw [hnext,hrx]; exact ht10.stay0 ha,⟨rfl,rfl,by simp⟩⟩
     ·obtain rfl : i=L.length:=by omega
      have hsi : ¬ ((L.length : Int) < sn):=by omega
      rw [List.take_length,← hnx] at ht10
      simp [fillF,pickL,hsi,hwk,hwk2]
      exact hR3 _ _ _ (by omega) ⟨k + 1,rfl,by omega,s10,by omega,g10,ht10,⟨rfl,rfl,by simp⟩⟩
   ·obtain rfl : k=c.old.length + 1:=by omega
    have hf1 : ¬ ((c.old.length : Int) + 1 - 1 < c.old.length):=by omega
    have ht7' : Tc S7 tv rs (c.old.length + 1) (MR (c.cg.tbl (j + 1)).1):=ht7
    simp [fillF,pickL,g7,hf1,hwSj]
    exact hR2 _ _ _ (by omega) ⟨j + 1,rfl,by omega,s7,hn7,g7,ht7',⟨rfl,rfl,by simp⟩⟩
  ·obtain rfl : j=rs.length:=by omega
   simp [fillF,pickL,hln]
   rw [hrl] at ht6
   exact hq _ _ _ s6 ht6 hrl (fun r hr=>by have:=hrs r hr; omega) (fun m hm=>by have:=hos m hm; omega)
end Go.Gx.A
